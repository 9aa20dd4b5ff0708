/- Contracts of functions, and walks of laws (text Uc). No conditions beyond those its theorems state. -/
import Derived.Test.YtpnbgpolbjbhpaaGreatDoorUa
import Derived.Test.YtpnbgpolbjbhpaaGreatDoorUv
set_option linter.all false
namespace Go.Proofs.YtpnbgpolbjbhpaaGreatDoor
open Go.Dm
attribute [local irreducible] L.load L.store L.chk L.new L.nonnil L.guard L.ite L.draw L.idx L.sem L.semR L.semU L.chkSem L.next L.call L.callV L.join L.alts L.loop L.begin L.endRound L.range
variable {w0 w : World} {E : List Seg}
/-! ### the document's shelf has what the program's has -/
structure ShRel (a : AShelf) (L : List ROb) : Prop where
  nd : (L.map keyX).Nodup
  kinds : ∀ x ∈ L, x.kind = 1 ∨ x.kind = 2
  c1 : ∀ x ∈ L, x.kind = 1 → (tget a.m x.name).is = x.is ∧ (tget a.m x.name).gen = x.gen ∧ (x.is = true → cfgOf (tget a.m x.name) = x.c ∧ (tget a.m x.name).ver = x.ver)
  c0 : ∀ n, (∀ x ∈ L, ¬ xis 1 n x) → (tget a.m n).is = false ∧ (tget a.m n).gen = 0
  r1 : ∀ x ∈ L, x.kind = 2 → (rget a.r x.name).is = x.is ∧ (x.is = true → (rget a.r x.name).r = x.r ∧ (rget a.r x.name).ver = x.ver)
  r0 : ∀ n, (∀ x ∈ L, ¬ xis 2 n x) → (rget a.r n).is = false
  nm : (a.m.map (·.1)).Nodup
  nr : (a.r.map (·.1)).Nodup
  len : L.length ≤ a.n
theorem Plc.mem {L L1 : List ROb} {kind : Int} {name : ByteArray} {j : Nat} {old : ROb} (h : Plc L L1 kind name j old) (nd : (L.map keyX).Nodup) {y : ROb} (hy : xis kind name y) :
    ((L1.set j y).map keyX).Nodup ∧ (∀ x, x ∈ L1.set j y ↔ x = y ∨ (x ∈ L ∧ ¬ xis kind name x)) ∧ (L1.set j y).length ≤ L.length + 1 := by
  rcases h with ⟨hj, ho, e⟩ | ⟨hn, -, e⟩
  · rw [e]
    obtain ⟨hl, rfl⟩ := List.getElem?_eq_some_iff.1 hj
    have ek : (L.set j y).map keyX = L.map keyX := by
      rw [List.map_set]
      apply List.ext_getElem?
      intro i
      rw [List.getElem?_set]
      split
      · rename_i e; subst e
        simp only [List.length_map, hl, if_true, List.getElem?_map, List.getElem?_eq_getElem hl, Option.map_some]
        simp only [keyX]; rw [hy.1, hy.2, ho.1, ho.2]
      · rfl
    refine ⟨by rw [ek]; exact nd, fun x => ⟨fun hx => ?_, fun hx => ?_⟩, by simp⟩
    · obtain ⟨i, hi⟩ := List.mem_iff_getElem?.1 hx
      rw [List.getElem?_set] at hi
      split at hi
      · simp [hl] at hi; exact .inl hi.symm
      · rename_i hne
        refine .inr ⟨List.mem_of_getElem? hi, fun hx => hne ?_⟩
        have h1 : (L.map keyX)[i]? = some (kind, name) := by rw [List.getElem?_map, hi]; simp only [Option.map_some, keyX]; rw [hx.1, hx.2]
        have h2 : (L.map keyX)[j]? = some (kind, name) := by rw [List.getElem?_map, List.getElem?_eq_getElem hl]; simp only [Option.map_some, keyX]; rw [ho.1, ho.2]
        have hi2 := (List.getElem?_eq_some_iff.1 h1)
        have hj2 := (List.getElem?_eq_some_iff.1 h2)
        rcases Nat.lt_trichotomy i j with hlt | rfl | hlt
        · exact absurd (hi2.2.trans hj2.2.symm) (List.pairwise_iff_getElem.1 nd i j hi2.1 hj2.1 hlt)
        · rfl
        · exact absurd (hj2.2.trans hi2.2.symm) (List.pairwise_iff_getElem.1 nd j i hj2.1 hi2.1 hlt)
    · rcases hx with rfl | ⟨hx, hne⟩
      · exact List.mem_of_getElem? (i := j) (by simp [hl])
      · obtain ⟨i, hi⟩ := List.mem_iff_getElem?.1 hx
        refine List.mem_of_getElem? (i := i) ?_
        rw [List.getElem?_set, if_neg, hi]
        rintro rfl
        rw [List.getElem?_eq_getElem hl] at hi
        cases hi; exact hne ho
  · rw [e]
    refine ⟨?_, fun x => ?_, by simp⟩
    · rw [List.map_append, List.nodup_append]
      refine ⟨nd, by simp, fun a ha b hb => ?_⟩
      simp at hb; subst hb
      obtain ⟨x, hx, rfl⟩ := List.mem_map.1 ha
      intro e
      simp only [keyX, Prod.mk.injEq] at e
      exact hn x hx ⟨e.1.trans hy.1, e.2.trans hy.2⟩
    · simp only [List.mem_append, List.mem_singleton]
      constructor
      · rintro (hx | hx)
        · exact .inr ⟨hx, hn x hx⟩
        · exact .inl hx
      · rintro (hx | hx)
        · exact .inr hx
        · exact .inl hx.1
theorem ShRel.find1 {a : AShelf} {L : List ROb} (h : ShRel a L) {n : ByteArray} {ver : Int} : xmay L 1 n ver = mayC (tget a.m n) ver true := by
  have mv : ∀ t : Thg, mayC t ver true = mayV t.is t.ver ver true := fun _ => rfl
  by_cases hx : ∃ x ∈ L, xis 1 n x
  · obtain ⟨x, hx, h1, h2⟩ := hx
    obtain ⟨j, hj⟩ := List.mem_iff_getElem?.1 hx
    rw [xmay_some h.nd hj ⟨h1, h2⟩]
    have := h.c1 x hx h1
    rw [h2] at this
    rw [mv, this.1]
    cases hb : x.is with
    | false => unfold mayV; simp
    | true => rw [(this.2.2 hb).2]
  · rw [xmay_none (fun x hx' hh => hx ⟨x, hx', hh⟩)]
    rw [mv, (h.c0 n fun x hx' hh => hx ⟨x, hx', hh⟩).1]
    unfold mayV; simp
theorem ShRel.find2 {a : AShelf} {L : List ROb} (h : ShRel a L) {n : ByteArray} {ver : Int} : xmay L 2 n ver = mayV (rget a.r n).is (rget a.r n).ver ver true := by
  by_cases hx : ∃ x ∈ L, xis 2 n x
  · obtain ⟨x, hx, h1, h2⟩ := hx
    obtain ⟨j, hj⟩ := List.mem_iff_getElem?.1 hx
    rw [xmay_some h.nd hj ⟨h1, h2⟩]
    have := h.r1 x hx h1
    rw [h2] at this
    rw [this.1]
    cases hb : x.is with
    | false => unfold mayV; simp
    | true => rw [(this.2 hb).2]
  · rw [xmay_none (fun x hx' hh => hx ⟨x, hx', hh⟩)]
    rw [h.r0 n fun x hx' hh => hx ⟨x, hx', hh⟩]
    unfold mayV; simp
theorem old1 {a : AShelf} {L L1 : List ROb} (h : ShRel a L) {n : ByteArray} {j : Nat} {old : ROb} (hp : Plc L L1 1 n j old) : (tget a.m n).is = old.is ∧ (tget a.m n).gen = old.gen ∧ (old.is = true → cfgOf (tget a.m n) = old.c) := by
  rcases hp with ⟨hj, ho, -⟩ | ⟨hn, rfl, -⟩
  · have := h.c1 old (List.mem_of_getElem? hj) ho.1
    rw [ho.2] at this
    exact ⟨this.1, this.2.1, fun hh => (this.2.2 hh).1⟩
  · have := h.c0 n hn
    exact ⟨this.1, this.2, fun hh => by cases hh⟩
theorem ShRel.putC {a : AShelf} {L L1 : List ROb} (h : ShRel a L) {n : ByteArray} {c : Cfg} {j : Nat} {old : ROb} (hp : Plc L L1 1 n j old) {r : ARt} {g : Int} (hg : g = if old.is = true ∧ sameC old.c c = true then old.gen else old.gen + 1) :
    ShRel ⟨putC a.m n c (a.n + 1), a.r, a.n + 1⟩ (L1.set j ⟨1, n, c, r, a.n + 1, g, true⟩) := by
  obtain ⟨m1, m2, m3⟩ := hp.mem h.nd (y := ⟨1, n, c, r, a.n + 1, g, true⟩) ⟨rfl, rfl⟩
  have ho := old1 h hp
  have eg : (if (tget a.m n).is = true ∧ sameC (cfgOf (tget a.m n)) c = true then (tget a.m n).gen else (tget a.m n).gen + 1) = g := by
    rw [hg, ho.1, ho.2.1]
    cases hb : old.is with
    | false => simp
    | true => rw [ho.2.2 hb]
  refine ⟨m1, fun x hx => ?_, fun x hx hk => ?_, fun n' hn' => ?_, fun x hx hk => ?_, fun n' hn' => ?_, mset_nd h.nm, h.nr, ?_⟩
  · rcases (m2 x).1 hx with rfl | hx
    · exact .inl rfl
    · exact h.kinds x hx.1
  · simp only [tget_putC']
    rcases (m2 x).1 hx with rfl | hx
    · rw [if_pos rfl, eg]; exact ⟨rfl, rfl, fun _ => ⟨rfl, rfl⟩⟩
    · rw [if_neg (fun e => hx.2 ⟨hk, e.symm⟩)]; exact h.c1 x hx.1 hk
  · simp only [tget_putC']
    have hne : n ≠ n' := fun e => hn' ⟨1, n, c, r, a.n + 1, g, true⟩ ((m2 _).2 (.inl rfl)) ⟨rfl, e⟩
    rw [if_neg hne]
    exact h.c0 n' fun x hx hh => hn' x ((m2 x).2 (.inr ⟨hx, fun e => hne (e.2.symm.trans hh.2)⟩)) hh
  · rcases (m2 x).1 hx with rfl | hx
    · cases hk
    · exact h.r1 x hx.1 hk
  · exact h.r0 n' fun x hx hh => hn' x ((m2 x).2 (.inr ⟨hx, fun e => by have := e.1.symm.trans hh.1; cases this⟩)) hh
  · have := h.len; simp only; omega
theorem ShRel.putR {a : AShelf} {L L1 : List ROb} (h : ShRel a L) {n : ByteArray} {r : ARt} {j : Nat} {old : ROb} (hp : Plc L L1 2 n j old) {c : Cfg} {g : Int} :
    ShRel ⟨a.m, putRt a.r n r (a.n + 1), a.n + 1⟩ (L1.set j ⟨2, n, c, r, a.n + 1, g, true⟩) := by
  obtain ⟨m1, m2, m3⟩ := hp.mem h.nd (y := ⟨2, n, c, r, a.n + 1, g, true⟩) ⟨rfl, rfl⟩
  refine ⟨m1, fun x hx => ?_, fun x hx hk => ?_, fun n' hn' => ?_, fun x hx hk => ?_, fun n' hn' => ?_, h.nm, mset_nd h.nr, ?_⟩
  · rcases (m2 x).1 hx with rfl | hx
    · exact .inr rfl
    · exact h.kinds x hx.1
  · rcases (m2 x).1 hx with rfl | hx
    · cases hk
    · exact h.c1 x hx.1 hk
  · exact h.c0 n' fun x hx hh => hn' x ((m2 x).2 (.inr ⟨hx, fun e => by have := e.1.symm.trans hh.1; cases this⟩)) hh
  · simp only [putRt, rget_put]
    rcases (m2 x).1 hx with rfl | hx
    · rw [if_pos rfl]; exact ⟨rfl, fun _ => ⟨rfl, rfl⟩⟩
    · rw [if_neg (fun e => hx.2 ⟨hk, e.symm⟩)]; exact h.r1 x hx.1 hk
  · simp only [putRt, rget_put]
    have hne : n ≠ n' := fun e => hn' ⟨2, n, c, r, a.n + 1, g, true⟩ ((m2 _).2 (.inl rfl)) ⟨rfl, e⟩
    rw [if_neg hne]
    exact h.r0 n' fun x hx hh => hn' x ((m2 x).2 (.inr ⟨hx, fun e => hne (e.2.symm.trans hh.2)⟩)) hh
  · have := h.len; simp only; omega
theorem ShRel.dropC {a : AShelf} {L : List ROb} (h : ShRel a L) {n : ByteArray} {j : Nat} {o : ROb} (hj : L[j]? = some o) (ho : xis 1 n o) :
    ShRel ⟨dropC a.m n, a.r, a.n + 1⟩ (L.set j { o with is := false }) := by
  have hp : Plc L L 1 n j o := .inl ⟨hj, ho, fun _ => rfl⟩
  obtain ⟨m1, m2, m3⟩ := hp.mem h.nd (y := { o with is := false }) ⟨ho.1, ho.2⟩
  have hold := old1 h hp
  refine ⟨m1, fun x hx => ?_, fun x hx hk => ?_, fun n' hn' => ?_, fun x hx hk => ?_, fun n' hn' => ?_, mset_nd h.nm, h.nr, ?_⟩
  · rcases (m2 x).1 hx with rfl | hx
    · exact .inl ho.1
    · exact h.kinds x hx.1
  · rcases (m2 x).1 hx with rfl | hx
    · dsimp only [Go.Proofs.YtpnbgpolbjbhpaaGreatDoor.dropC]; rw [tget_put, if_pos ho.2.symm]; exact ⟨rfl, hold.2.1, fun h => by cases h⟩
    · dsimp only [Go.Proofs.YtpnbgpolbjbhpaaGreatDoor.dropC]; rw [tget_put, if_neg (fun e => hx.2 ⟨hk, e.symm⟩)]; exact h.c1 x hx.1 hk
  · dsimp only [Go.Proofs.YtpnbgpolbjbhpaaGreatDoor.dropC]
    rw [tget_put]
    have hne : n ≠ n' := fun e => hn' { o with is := false } ((m2 _).2 (.inl rfl)) ⟨ho.1, ho.2.trans e⟩
    rw [if_neg hne]
    exact h.c0 n' fun x hx hh => hn' x ((m2 x).2 (.inr ⟨hx, fun e => hne (e.2.symm.trans hh.2)⟩)) hh
  · rcases (m2 x).1 hx with rfl | hx
    · have := ho.1.symm.trans hk; cases this
    · exact h.r1 x hx.1 hk
  · exact h.r0 n' fun x hx hh => hn' x ((m2 x).2 (.inr ⟨hx, fun e => by have := e.1.symm.trans hh.1; cases this⟩)) hh
  · have := h.len; simp only [List.length_set]; omega
theorem ShRel.dropR {a : AShelf} {L : List ROb} (h : ShRel a L) {n : ByteArray} {j : Nat} {o : ROb} (hj : L[j]? = some o) (ho : xis 2 n o) :
    ShRel ⟨a.m, dropRt a.r n, a.n + 1⟩ (L.set j { o with is := false }) := by
  have hp : Plc L L 2 n j o := .inl ⟨hj, ho, fun _ => rfl⟩
  obtain ⟨m1, m2, m3⟩ := hp.mem h.nd (y := { o with is := false }) ⟨ho.1, ho.2⟩
  refine ⟨m1, fun x hx => ?_, fun x hx hk => ?_, fun n' hn' => ?_, fun x hx hk => ?_, fun n' hn' => ?_, h.nm, mset_nd h.nr, ?_⟩
  · rcases (m2 x).1 hx with rfl | hx
    · exact .inr ho.1
    · exact h.kinds x hx.1
  · rcases (m2 x).1 hx with rfl | hx
    · have := ho.1.symm.trans hk; cases this
    · exact h.c1 x hx.1 hk
  · exact h.c0 n' fun x hx hh => hn' x ((m2 x).2 (.inr ⟨hx, fun e => by have := e.1.symm.trans hh.1; cases this⟩)) hh
  · rcases (m2 x).1 hx with rfl | hx
    · dsimp only [dropRt]; rw [rget_put, if_pos ho.2.symm]; exact ⟨rfl, fun h => by cases h⟩
    · dsimp only [dropRt]; rw [rget_put, if_neg (fun e => hx.2 ⟨hk, e.symm⟩)]; exact h.r1 x hx.1 hk
  · dsimp only [dropRt]
    rw [rget_put]
    have hne : n ≠ n' := fun e => hn' { o with is := false } ((m2 _).2 (.inl rfl)) ⟨ho.1, ho.2.trans e⟩
    rw [if_neg hne]
    exact h.r0 n' fun x hx hh => hn' x ((m2 x).2 (.inr ⟨hx, fun e => hne (e.2.symm.trans hh.2)⟩)) hh
  · have := h.len; simp only [List.length_set]; omega
end Go.Proofs.YtpnbgpolbjbhpaaGreatDoor
namespace Go.Proofs.YtpnbgpolbjbhpaaGreatDoor
open Go.Dm
attribute [local irreducible] L.load L.store L.chk L.new L.nonnil L.guard L.ite L.draw L.idx L.sem L.semR L.semU L.chkSem L.next L.call L.callV L.join L.alts L.loop L.begin L.endRound L.range
variable {w0 w : World} {E : List Seg}
/-! ### the document's shelf -/
def RSh (b : Nat) (a : AShelf) (s : Seg) : Prop := ∃ v sr Q, Rw eP T_p_damperref4_object 1 v (obB Q) sr ∧ (∀ o ∈ Q, XOb o.b o.x o.sg) ∧ ShRel a (obX Q) ∧ a.Ok ∧ s = xsh b v a.n ++ (sr ++ obS Q)
theorem RSh.new {b : Nat} (h : St w0 ([Cl b T_damperref4_Shelf [.slice none 0 0, I 0]] :: E) w) : ∃ s, RSh b ⟨[], [], 0⟩ s ∧ St w0 (s :: E) w := by
  refine ⟨xsh b ⟨none, 0, 0⟩ 0 ++ ([] ++ obS []), ⟨⟨none, 0, 0⟩, [], [], Rw.nil, by simp, ?_, ?_, rfl⟩, by simpa [obS] using h⟩
  · exact ⟨by simp [obX], by simp [obX], by simp [obX], fun n _ => ⟨rfl, rfl⟩, by simp [obX], fun n _ => rfl, by simp, by simp, by simp [obX]⟩
  · exact ⟨by simp, by simp, fun x => by simp [tget, mget, noThg, Thg.gen], by simp, by simp⟩
theorem putC_ok {a : AShelf} (ok : a.Ok) (hn : a.n < 900000000) (n : ByteArray) (c : Cfg) : AShelf.Ok ⟨putC a.m n c (a.n + 1), a.r, a.n + 1⟩ := by
  have hlo := ok.lo
  have hgc := ok.gen n
  refine ⟨by simp only; omega, by simp only; omega, fun x => ?_, ?_, ?_⟩
  · simp only [putC]
    rw [tget_put]
    have hx := ok.gen x
    split
    · simp only [thgOf, Thg.gen]
      split <;> constructor <;> (simp only [Thg.gen] at hgc ⊢; omega)
    · omega
  · have := ok.fm; have := mset_le a.m n (thgOf c (a.n + 1) (if (tget a.m n).is = true ∧ sameC (cfgOf (tget a.m n)) c = true then (tget a.m n).gen else (tget a.m n).gen + 1) true)
    simp only [putC]; omega
  · have := ok.fr; simp only; omega
theorem putRt_ok {a : AShelf} (ok : a.Ok) (hn : a.n < 900000000) (n : ByteArray) (r : ARt) : AShelf.Ok ⟨a.m, putRt a.r n r (a.n + 1), a.n + 1⟩ := by
  have hlo := ok.lo
  refine ⟨by simp only; omega, by simp only; omega, fun x => ?_, ?_, ?_⟩
  · have hx := ok.gen x; simp only; omega
  · have := ok.fm; simp only; omega
  · have := ok.fr; have := mset_le a.r n ⟨r, a.n + 1, gen' (rget a.r n) r, true⟩
    simp only [putRt]; omega
theorem S_rPutC (h : St w0 E w) (i : Nat) {b : Nat} {a : AShelf} {s : Seg} (hi : nth E i = some s) (hs : RSh b a s) (hn : a.n < 900000000) {c : Cfg} {ver : Int} {k : Int × Int × Unit → PT}
    (hk : ∀ s' w', RSh b (shPut a c ver).1 s' → St w0 (setN E i s') w' → k ((shPut a c ver).2.1, (shPut a c ver).2.2, ()) w') :
    L.call Pr n_damperref4_Shelf_PutConfig [.pointer (some ⟨b, 0, none⟩), .agg (Cfg.cells c).toArray, I ver] (.tup [.one (.int .i64), .one (.int .i64)]) k w := by
  have hs0 := hs
  obtain ⟨v, sr, Q, hr, hQ, rel, ok, rfl⟩ := hs
  have hlo := ok.lo
  have hql : (Q.length : Int) ≤ a.n := by have := rel.len; rw [List.length_map] at this; exact this
  refine call_of (C_damperref4_Shelf_PutConfig _ c _) ?_
  unfold F_damperref4_Shelf_PutConfig
  have h := (h.front i hi).split3
  refine nw h ?_; clear h; (try clear w); intro b1 w h
  ((try dsimp only [setN] at h); repeat (first | refine nn ?_ | (refine dr h ?_; clear h; (try clear w); intro w h) | refine ldC h ?_ | refine laC h ?_ | refine ckC h ?_ | (refine stC h ?_; clear h; (try clear w); intro w h; (try dsimp only [putN, setN] at h)) | rw [add_add]))
  refine S_rspecC (c := c) h fun w h => ?_
  unfold shPut at hk
  refine it (fun he => ?_) (fun he => ?_) <;> (try simp only [decide_eq_true_eq, decide_eq_false_iff_not, beq_iff_eq, bne_iff_ne, beq_eq_false_iff_ne, bne_eq_false_iff_eq, Bool.not_eq_true', Bool.not_eq_false', ne_eq, Bool.not_eq_true, Bool.not_eq_false] at he)
  · rw [if_pos he] at hk
    exact ⟨_, rfl, hk _ w hs0 (St.back i hi (dl0_ h).glue3)⟩
  rw [if_neg (by simpa using he), ← rel.find1] at hk
  ((try dsimp only [setN] at h); repeat (first | refine nn ?_ | (refine dr h ?_; clear h; (try clear w); intro w h) | refine ldC h ?_ | refine laC h ?_ | refine ckC h ?_ | (refine stC h ?_; clear h; (try clear w); intro w h; (try dsimp only [putN, setN] at h)) | rw [add_add]))
  have h : St w0 (xsh b v a.n :: sr :: obS Q :: [Cl b1 T_api_Config (Cfg.cells c)] :: delN E i) w := by
    have h := fr3_ (fr3_ (fr3_ h))
    exact h
  refine S_rput hr hQ rel.nd (by omega) hlo (by omega) h (fun hm w h => ?_) (fun hm Q' v' sr' j o s v0 old w hr' hQ' ho hl' hr0 hp h => ?_)
  · rw [if_pos hm] at hk
    refine itT (by simpa using hm) ⟨_, rfl, hk _ w hs0 (St.back i hi ?_)⟩
    have h := dl3_ h
    exact h.glue3
  · rw [if_neg (by simpa using hm)] at hk
    refine itF rfl ?_
    have og := ok.gen c.1
    have ho1 := old1 rel hp
    rw [ho1.2.1] at og
    have fk : old.kind = 1 ∧ old.name = c.1 := by
      rcases hp with ⟨-, hx, -⟩ | ⟨-, rfl, -⟩
      · exact hx
      · exact ⟨rfl, rfl⟩
    obtain ⟨g, hg⟩ : ∃ g, g = if old.is = true ∧ sameC old.c c = true then old.gen else old.gen + 1 := ⟨_, rfl⟩
    refine join_of (fun z w => St w0 ([Cl o.b T_damperref4_object (obC { old with ver := a.n + 1, gen := g } v0)] :: s :: obR Q' j :: xsh b v' (a.n + 1) :: sr' :: [Cl b1 T_api_Config (Cfg.cells c)] :: delN E i) w) (fun k6 hk6 => ?_) ?_
    · have more : ∀ {w}, ¬ (old.is = true ∧ sameC old.c c = true) → St w0 ([Cl o.b T_damperref4_object (obC { old with ver := a.n + 1 } v0)] :: s :: obR Q' j :: xsh b v' (a.n + 1) :: sr' :: [Cl b1 T_api_Config (Cfg.cells c)] :: delN E i) w →
          L.nonnil (some ⟨o.b, 0, none⟩) (fun a10 => L.load (.one (.int .i64)) (a10.add 13) fun (x11 : Int) => L.nonnil (some ⟨o.b, 0, none⟩) fun a12 => L.store (a12.add 13) [.int .i64 (IntKind.wrap .i64 (x11 + 1))] <| k6 (())) w := by
        intro w hne h
        ((try dsimp only [setN] at h); repeat (first | refine nn ?_ | (refine dr h ?_; clear h; (try clear w); intro w h) | refine ldC h ?_ | refine laC h ?_ | refine ckC h ?_ | (refine stC h ?_; clear h; (try clear w); intro w h; (try dsimp only [putN, setN] at h)) | rw [add_add]))
        rw [wr (by omega) (by omega)] at h
        rw [if_neg hne] at hg
        subst hg
        exact hk6 _ w h
      ((try dsimp only [setN] at h); repeat (first | refine nn ?_ | (refine dr h ?_; clear h; (try clear w); intro w h) | refine ldC h ?_ | refine laC h ?_ | refine ckC h ?_ | (refine stC h ?_; clear h; (try clear w); intro w h; (try dsimp only [putN, setN] at h)) | rw [add_add]))
      refine it (fun h1 => ?_) (fun h1 => ?_) <;> (try simp only [decide_eq_true_eq, decide_eq_false_iff_not, beq_iff_eq, bne_iff_ne, beq_eq_false_iff_ne, bne_eq_false_iff_eq, Bool.not_eq_true', Bool.not_eq_false', ne_eq, Bool.not_eq_true, Bool.not_eq_false] at h1)
      · exact more (fun hh => by rw [hh.1] at h1; cases h1) h
      · have h1 : old.is = true := by simpa using h1
        ((try dsimp only [setN] at h); repeat (first | refine nn ?_ | (refine dr h ?_; clear h; (try clear w); intro w h) | refine ldC h ?_ | refine laC h ?_ | refine ckC h ?_ | (refine stC h ?_; clear h; (try clear w); intro w h; (try dsimp only [putN, setN] at h)) | rw [add_add]))
        unfold L.chkSem
        refine ⟨ne_cfg old.c c w, ?_⟩
        refine it (fun h2 => ?_) (fun h2 => ?_)
        · have h2 : sameC old.c c = false := (Bool.not_eq_true' _).mp h2
          exact more (fun hh => by rw [hh.2] at h2; cases h2) h
        · have h2 : sameC old.c c = true := (Bool.not_eq_false' _).mp h2
          rw [if_pos ⟨h1, h2⟩] at hg
          subst hg
          exact hk6 _ w h
    · clear h; (try clear w)
      rintro z w h
      ((try dsimp only [setN] at h); repeat (first | refine nn ?_ | (refine dr h ?_; clear h; (try clear w); intro w h) | refine ldC h ?_ | refine laC h ?_ | refine ckC h ?_ | (refine stC h ?_; clear h; (try clear w); intro w h; (try dsimp only [putN, setN] at h)) | rw [add_add]))
      have h : St w0 ([Cl o.b T_damperref4_object (obC ⟨1, c.1, c, old.r, a.n + 1, g, true⟩ v0)] :: s :: obR Q' j :: xsh b v' (a.n + 1) :: sr' :: [Cl b1 T_api_Config (Cfg.cells c)] :: delN E i) w := by
        have e : obC (⟨1, c.1, c, old.r, a.n + 1, g, true⟩ : ROb) v0 = obC { old with c := c, ver := a.n + 1, gen := g, is := true } v0 := by
          simp only [obC, fk.1, fk.2]
        rw [e]; exact h
      have few : old.r.ts.length < 1000000000 := by
        rcases hp with ⟨hx, -, -⟩ | ⟨-, rfl, -⟩
        · obtain ⟨p, hp, rfl⟩ := List.mem_map.1 (List.mem_of_getElem? hx)
          obtain ⟨_, _, _, hf, _⟩ := hQ p hp
          exact hf
        · simp [xnew, noRt]
      have hXO : XOb o.b ⟨1, c.1, c, old.r, a.n + 1, g, true⟩ ([Cl o.b T_damperref4_object (obC ⟨1, c.1, c, old.r, a.n + 1, g, true⟩ v0)] ++ s) := ⟨v0, s, hr0, few, rfl⟩
      have h := St.st3 ho ⟨o.b, ⟨1, c.1, c, old.r, a.n + 1, g, true⟩, _⟩ rfl h
      have h := dl3_ h
      refine ⟨(a.n + 1, 0, ()), rfl, hk _ w ⟨v', sr', Q'.set j ⟨o.b, ⟨1, c.1, c, old.r, a.n + 1, g, true⟩, _⟩, ?_, ?_, ?_, putC_ok ok hn c.1 c, rfl⟩ (St.back i hi h.glue3)⟩
      · rw [obB_set' ho]; exact hr'
      · intro p hp
        rcases ob_mem_set hp with rfl | hp
        · exact hXO
        · exact hQ' p hp
      · rw [obX_set]; exact rel.putC hp hg
theorem S_rPutR (h : St w0 E w) (i : Nat) {b : Nat} {a : AShelf} {s : Seg} (hi : nth E i = some s) (hs : RSh b a s) (hn : a.n < 900000000) {r : ARt} {vr : Sl} (rd : RdE w0 (delN E i) eT vr r.ts) (hrv : ∀ t ∈ r.ts, revOk t.1) {ver : Int} {k : Int × Int × Unit → PT}
    (hk : ∀ s' w', RSh b (shPutR a r ver).1 s' → St w0 (setN E i s') w' → k ((shPutR a r ver).2.1, (shPutR a r ver).2.2, ()) w') :
    L.call Pr n_damperref4_Shelf_PutRoute [.pointer (some ⟨b, 0, none⟩), .agg #[.string r.name, .string r.cfg, .slice vr.a vr.len vr.cap, I r.roll], I ver] (.tup [.one (.int .i64), .one (.int .i64)]) k w := by
  have hs0 := hs
  obtain ⟨v, sr, Q, hr, hQ, rel, ok, rfl⟩ := hs
  have hlo := ok.lo
  have hql : (Q.length : Int) ≤ a.n := by have := rel.len; rw [List.length_map] at this; exact this
  refine call_of (C_damperref4_Shelf_PutRoute _ (r.name, r.cfg, vr, r.roll, ()) _) ?_
  unfold F_damperref4_Shelf_PutRoute
  have h := (h.front i hi).split3
  refine nw h ?_; clear h; (try clear w); intro b1 w h
  ((try dsimp only [setN] at h); repeat (first | refine nn ?_ | (refine dr h ?_; clear h; (try clear w); intro w h) | refine ldC h ?_ | refine laC h ?_ | refine ckC h ?_ | (refine stC h ?_; clear h; (try clear w); intro w h; (try dsimp only [putN, setN] at h)) | rw [add_add]))
  refine S_rRoute (a := r) h (fun w h => rd w (dl0_ (dl0_ (dl0_ (dl0_ h))))) hrv fun w h => ?_
  unfold shPutR at hk
  refine it (fun he => ?_) (fun he => ?_) <;> (try simp only [decide_eq_true_eq, decide_eq_false_iff_not, beq_iff_eq, bne_iff_ne, beq_eq_false_iff_ne, bne_eq_false_iff_eq, Bool.not_eq_true', Bool.not_eq_false', ne_eq, Bool.not_eq_true, Bool.not_eq_false] at he)
  · rw [if_pos he] at hk
    exact ⟨_, rfl, hk _ w hs0 (St.back i hi (dl0_ h).glue3)⟩
  have he : specE r = 0 := by simpa using he
  have hl6 := specE_len he
  rw [if_neg (by simp [he]), ← rel.find2] at hk
  ((try dsimp only [setN] at h); repeat (first | refine nn ?_ | (refine dr h ?_; clear h; (try clear w); intro w h) | refine ldC h ?_ | refine laC h ?_ | refine ckC h ?_ | (refine stC h ?_; clear h; (try clear w); intro w h; (try dsimp only [putN, setN] at h)) | rw [add_add]))
  have h : St w0 (xsh b v a.n :: sr :: obS Q :: [Cl b1 T_api_Route (rtC r vr)] :: delN E i) w := by
    have h := fr3_ (fr3_ (fr3_ h))
    exact h
  refine S_rput hr hQ rel.nd (by omega) hlo (by omega) h (fun hm w h => ?_) (fun hm Q' v' sr' j o s v0 old w hr' hQ' ho hl' hr0 hp h => ?_)
  · rw [if_pos hm] at hk
    refine itT (by simpa using hm) ⟨_, rfl, hk _ w hs0 (St.back i hi ?_)⟩
    have h := dl3_ h
    exact h.glue3
  · rw [if_neg (by simpa using hm)] at hk
    refine itF rfl ?_
    have fk : old.kind = 2 ∧ old.name = r.name := by
      rcases hp with ⟨-, hx, -⟩ | ⟨-, rfl, -⟩
      · exact hx
      · exact ⟨rfl, rfl⟩
    ((try dsimp only [setN] at h); repeat (first | refine nn ?_ | (refine dr h ?_; clear h; (try clear w); intro w h) | refine ldC h ?_ | refine laC h ?_ | refine ckC h ?_ | (refine stC h ?_; clear h; (try clear w); intro w h; (try dsimp only [putN, setN] at h)) | rw [add_add]))
    refine nw h ?_; clear h; (try clear w); intro b9 w h
    ((try dsimp only [setN] at h); repeat (first | refine nn ?_ | (refine dr h ?_; clear h; (try clear w); intro w h) | refine ldC h ?_ | refine laC h ?_ | refine ckC h ?_ | (refine stC h ?_; clear h; (try clear w); intro w h; (try dsimp only [putN, setN] at h)) | rw [add_add]))
    refine Rw.appRd encT elT h 0 rfl (Rw.lit b9 [] encT rfl rfl (by simp [maxLen])) (rd w (dl0_ (dl0_ (dl0_ (dl0_ (dl0_ (dl0_ (dl0_ h)))))))) (by simp; omega) (by simp; omega) fun v2 s2 w hr2 _ _ h => ?_
    simp only [List.nil_append] at hr2
    have h : St w0 (s2 :: [Cl o.b T_damperref4_object (obC { old with r := ⟨r.name, r.cfg, [], r.roll⟩, ver := a.n + 1, is := true } vr)] :: s :: obR Q' j :: xsh b v' (a.n + 1) :: sr' :: [Cl b1 T_api_Route (rtC r vr)] :: delN E i) w := h
    ((try dsimp only [setN] at h); repeat (first | refine nn ?_ | (refine dr h ?_; clear h; (try clear w); intro w h) | refine ldC h ?_ | refine laC h ?_ | refine ckC h ?_ | (refine stC h ?_; clear h; (try clear w); intro w h; (try dsimp only [putN, setN] at h)) | rw [add_add]))
    have h : St w0 ([Cl o.b T_damperref4_object (obC ⟨2, r.name, old.c, r, a.n + 1, old.gen, true⟩ v2)] :: s2 :: obR Q' j :: xsh b v' (a.n + 1) :: sr' :: [Cl b1 T_api_Route (rtC r vr)] :: delN E i) w := by
      have e : obC (⟨2, r.name, old.c, r, a.n + 1, old.gen, true⟩ : ROb) v2 = obC { old with r := r, ver := a.n + 1, is := true } v2 := by
        simp only [obC, fk.1, fk.2]
      rw [e]
      have h := dl2_ h
      have h := fr1_ h
      exact h
    have hXO : XOb o.b ⟨2, r.name, old.c, r, a.n + 1, old.gen, true⟩ ([Cl o.b T_damperref4_object (obC ⟨2, r.name, old.c, r, a.n + 1, old.gen, true⟩ v2)] ++ s2) := ⟨v2, s2, hr2, by simp only; omega, rfl⟩
    have h := St.st3 ho ⟨o.b, ⟨2, r.name, old.c, r, a.n + 1, old.gen, true⟩, _⟩ rfl h
    have h := dl3_ h
    refine ⟨(a.n + 1, 0, ()), rfl, hk _ w ⟨v', sr', Q'.set j ⟨o.b, ⟨2, r.name, old.c, r, a.n + 1, old.gen, true⟩, _⟩, ?_, ?_, ?_, putRt_ok ok hn r.name r, rfl⟩ (St.back i hi h.glue3)⟩
    · rw [obB_set' ho]; exact hr'
    · intro p hp
      rcases ob_mem_set hp with rfl | hp
      · exact hXO
      · exact hQ' p hp
    · rw [obX_set]; exact rel.putR hp
end Go.Proofs.YtpnbgpolbjbhpaaGreatDoor
namespace Go.Proofs.YtpnbgpolbjbhpaaGreatDoor
open Go.Dm
attribute [local irreducible] L.load L.store L.chk L.new L.nonnil L.guard L.ite L.draw L.idx L.sem L.semR L.semU L.chkSem L.next L.call L.callV L.join L.alts L.loop L.begin L.endRound L.range
variable {w0 w : World} {E : List Seg}
theorem RSh.few {b : Nat} {a : AShelf} {s : Seg} (h : RSh b a s) : a.n < 1000000000 := by
  obtain ⟨_, _, _, _, _, _, ok, _⟩ := h; exact ok.hi
theorem S_rDrop (h : St w0 E w) (i : Nat) {b : Nat} {a : AShelf} {s : Seg} (hi : nth E i = some s) (hs : RSh b a s) (hn : a.n < 900000000) {kind : Int} {n : ByteArray} {ver : Int} {k : Int → PT}
    (hk : ∀ s' w', RSh b (shDrop a kind n ver).1 s' → St w0 (setN E i s') w' → k (shDrop a kind n ver).2 w') :
    L.call Pr n_damperref4_Shelf_Drop [.pointer (some ⟨b, 0, none⟩), I kind, .string n, I ver] (.one (.one (.int .i64))) k w := by
  have hs0 := hs
  obtain ⟨v, sr, Q, hr, hQ, rel, ok, rfl⟩ := hs
  have hlo := ok.lo; have hfm := ok.fm; have hfr := ok.fr
  have hql : (Q.length : Int) ≤ a.n := by have := rel.len; rw [List.length_map] at this; exact this
  refine call_of (C_damperref4_Shelf_Drop _ _ _ _) ?_
  unfold F_damperref4_Shelf_Drop
  have h0 := h
  have h := (h.front i hi).split3
  have main : ∀ {w}, kind = 1 ∨ kind = 2 → St w0 (xsh b v a.n :: sr :: obS Q :: delN E i) w →
      (L.call Pr n_damperref4_Shelf_find [.pointer (some ⟨b, 0, none⟩), .int .i64 kind, .string n] (.one (.one (.ptr))) fun (x3 : Option Addr) =>
        L.ite ((x3).isNone) (fun w' => ∃ x, Value.int .i64 6 = RT.val (.one (.one (.int .i64))) x ∧ k x w') <|
        L.nonnil x3 fun a4 =>
        L.load (.one (.bool)) (a4.add 14) fun (x5 : Bool) =>
        L.ite (!x5) (fun w' => ∃ x, Value.int .i64 6 = RT.val (.one (.one (.int .i64))) x ∧ k x w') <|
        L.nonnil x3 fun a6 =>
        L.load (.one (.int .i64)) (a6.add 12) fun (x7 : Int) =>
        L.ite (x7 != ver) (fun w' => ∃ x, Value.int .i64 7 = RT.val (.one (.one (.int .i64))) x ∧ k x w') <|
        L.nonnil (some ⟨b, 0, none⟩) fun a8 =>
        L.load (.one (.int .i64)) (a8.add 1) fun (x9 : Int) =>
        L.nonnil (some ⟨b, 0, none⟩) fun a10 =>
        L.store (a10.add 1) [.int .i64 (IntKind.wrap .i64 (x9 + 1))] <|
        L.nonnil x3 fun a11 =>
        L.store (a11.add 14) [.bool false] <|
        fun w' => ∃ x, Value.int .i64 0 = RT.val (.one (.one (.int .i64))) x ∧ k x w') w := by
    intro w hkd h
    refine S_rfind hr hQ (by omega) h (fun hno w h => ?_) (fun j o ho hx w h => ?_)
    · refine itT rfl ⟨_, rfl, ?_⟩
      have e : shDrop a kind n ver = (a, 6) := by
        unfold shDrop
        rcases hkd with rfl | rfl
        · have := rel.c0 n fun x hx => by obtain ⟨o, ho, rfl⟩ := List.mem_map.1 hx; exact hno o ho
          have e6 : mayC (tget a.m n) ver false = 6 := by unfold mayC; rw [this.1]; simp
          rw [if_pos rfl, e6, if_neg (by decide)]
        · have := rel.r0 n fun x hx => by obtain ⟨o, ho, rfl⟩ := List.mem_map.1 hx; exact hno o ho
          have e6 : mayV (rget a.r n).is (rget a.r n).ver ver false = 6 := by unfold mayV; rw [this]; simp
          rw [if_neg (by decide), if_pos rfl, e6, if_neg (by decide)]
      rw [e] at hk
      exact hk _ w hs0 (St.back i hi h.glue3)
    · refine itF rfl ?_
      obtain ⟨vr, s2, hr2, hf2, hxs⟩ := hQ o (List.mem_of_getElem? ho)
      have hom : o.x ∈ obX Q := List.mem_map_of_mem (List.mem_of_getElem? ho)
      have h := h.op3 ho hxs
      ((try dsimp only [setN] at h); repeat (first | refine nn ?_ | (refine dr h ?_; clear h; (try clear w); intro w h) | refine ldC h ?_ | refine laC h ?_ | refine ckC h ?_ | (refine stC h ?_; clear h; (try clear w); intro w h; (try dsimp only [putN, setN] at h)) | rw [add_add]))
      refine it (fun h1 => ?_) (fun h1 => ?_) <;> (try simp only [decide_eq_true_eq, decide_eq_false_iff_not, beq_iff_eq, bne_iff_ne, beq_eq_false_iff_ne, bne_eq_false_iff_eq, Bool.not_eq_true', Bool.not_eq_false', ne_eq, Bool.not_eq_true, Bool.not_eq_false] at h1)
      · have e : shDrop a kind n ver = (a, 6) := by
          unfold shDrop
          rcases hkd with rfl | rfl
          · have := (rel.c1 _ hom hx.1).1
            rw [hx.2, h1] at this
            have e6 : mayC (tget a.m n) ver false = 6 := by unfold mayC; rw [this]; simp
            rw [if_pos rfl, e6, if_neg (by decide)]
          · have := (rel.r1 _ hom hx.1).1
            rw [hx.2, h1] at this
            have e6 : mayV (rget a.r n).is (rget a.r n).ver ver false = 6 := by unfold mayV; rw [this]; simp
            rw [if_neg (by decide), if_pos rfl, e6, if_neg (by decide)]
        rw [e] at hk
        exact ⟨_, rfl, hk _ w hs0 (St.back i hi (h.cl3 ho hxs).glue3)⟩
      have h1 : o.x.is = true := by simpa using h1
      ((try dsimp only [setN] at h); repeat (first | refine nn ?_ | (refine dr h ?_; clear h; (try clear w); intro w h) | refine ldC h ?_ | refine laC h ?_ | refine ckC h ?_ | (refine stC h ?_; clear h; (try clear w); intro w h; (try dsimp only [putN, setN] at h)) | rw [add_add]))
      refine it (fun h2 => ?_) (fun h2 => ?_) <;> (try simp only [decide_eq_true_eq, decide_eq_false_iff_not, beq_iff_eq, bne_iff_ne, beq_eq_false_iff_ne, bne_eq_false_iff_eq, Bool.not_eq_true', Bool.not_eq_false', ne_eq, Bool.not_eq_true, Bool.not_eq_false] at h2)
      · have e : shDrop a kind n ver = (a, 7) := by
          unfold shDrop
          rcases hkd with rfl | rfl
          · have := rel.c1 _ hom hx.1
            rw [hx.2, h1] at this
            have e6 : mayC (tget a.m n) ver false = 7 := by unfold mayC; rw [this.1]; simp [(this.2.2 rfl).2, h2]
            rw [if_pos rfl, e6, if_neg (by decide)]
          · have := rel.r1 _ hom hx.1
            rw [hx.2, h1] at this
            have e6 : mayV (rget a.r n).is (rget a.r n).ver ver false = 7 := by unfold mayV; rw [this.1]; simp [(this.2 rfl).2, h2]
            rw [if_neg (by decide), if_pos rfl, e6, if_neg (by decide)]
        rw [e] at hk
        exact ⟨_, rfl, hk _ w hs0 (St.back i hi (h.cl3 ho hxs).glue3)⟩
      have h2 : o.x.ver = ver := by simpa using h2
      ((try dsimp only [setN] at h); repeat (first | refine nn ?_ | (refine dr h ?_; clear h; (try clear w); intro w h) | refine ldC h ?_ | refine laC h ?_ | refine ckC h ?_ | (refine stC h ?_; clear h; (try clear w); intro w h; (try dsimp only [putN, setN] at h)) | rw [add_add]))
      rw [wr (by omega) (by omega)] at h
      have h : St w0 ([Cl o.b T_damperref4_object (obC { o.x with is := false } vr)] :: s2 :: obR Q j :: xsh b v (a.n + 1) :: sr :: delN E i) w := h
      have hXO : XOb o.b { o.x with is := false } ([Cl o.b T_damperref4_object (obC { o.x with is := false } vr)] ++ s2) := ⟨vr, s2, hr2, hf2, rfl⟩
      have h := St.st3 ho ⟨o.b, { o.x with is := false }, _⟩ rfl h
      have hQ2 : ∀ p ∈ Q.set j ⟨o.b, { o.x with is := false }, [Cl o.b T_damperref4_object (obC { o.x with is := false } vr)] ++ s2⟩, XOb p.b p.x p.sg := by
        intro p hp
        rcases ob_mem_set hp with rfl | hp
        · exact hXO
        · exact hQ p hp
      rcases hkd with rfl | rfl
      · have hin := rel.c1 _ hom hx.1
        rw [hx.2, h1] at hin
        have e0 : mayC (tget a.m n) ver false = 0 := by unfold mayC; rw [hin.1]; simp [(hin.2.2 rfl).2, h2]
        have e : shDrop a 1 n ver = (⟨dropC a.m n, a.r, a.n + 1⟩, 0) := by unfold shDrop; rw [if_pos rfl, if_pos e0]
        rw [e] at hk
        refine ⟨_, rfl, hk _ w ⟨v, sr, _, ?_, hQ2, ?_, ⟨by simp only; omega, by simp only; omega, fun x => ?_, ?_, by simp only; omega⟩, rfl⟩ (St.back i hi h.glue3)⟩
        · rw [obB_set' ho]; exact hr
        · rw [obX_set]; exact rel.dropC (ob_x ho) hx
        · simp only [dropC]
          rw [tget_put]
          have hx := ok.gen x
          have hy := ok.gen n
          split
          · simp only [Thg.gen] at hy ⊢; omega
          · omega
        · simp only [dropC]; rw [mset_in (mayC_in e0)]; omega
      · have hin := rel.r1 _ hom hx.1
        rw [hx.2, h1] at hin
        have e0 : mayV (rget a.r n).is (rget a.r n).ver ver false = 0 := by unfold mayV; rw [hin.1]; simp [(hin.2 rfl).2, h2]
        have e : shDrop a 2 n ver = (⟨a.m, dropRt a.r n, a.n + 1⟩, 0) := by unfold shDrop; rw [if_neg (by decide), if_pos rfl, if_pos e0]
        rw [e] at hk
        refine ⟨_, rfl, hk _ w ⟨v, sr, _, ?_, hQ2, ?_, ⟨by simp only; omega, by simp only; omega, fun x => ?_, by simp only; omega, ?_⟩, rfl⟩ (St.back i hi h.glue3)⟩
        · rw [obB_set' ho]; exact hr
        · rw [obX_set]; exact rel.dropR (ob_x ho) hx
        · have hx := ok.gen x; simp only; omega
        · simp only [dropRt]; rw [mset_in (mayR_in e0)]; omega
  refine jd ?_
  refine it (fun h1 => ?_) (fun h1 => ?_) <;> (try simp only [decide_eq_true_eq, decide_eq_false_iff_not, beq_iff_eq, bne_iff_ne, beq_eq_false_iff_ne, bne_eq_false_iff_eq, Bool.not_eq_true', Bool.not_eq_false', ne_eq, Bool.not_eq_true, Bool.not_eq_false] at h1)
  · refine it (fun h2 => ?_) (fun h2 => ?_) <;> (try simp only [decide_eq_true_eq, decide_eq_false_iff_not, beq_iff_eq, bne_iff_ne, beq_eq_false_iff_ne, bne_eq_false_iff_eq, Bool.not_eq_true', Bool.not_eq_false', ne_eq, Bool.not_eq_true, Bool.not_eq_false] at h2)
    · have e : shDrop a kind n ver = (a, 12) := by unfold shDrop; rw [if_neg h1, if_neg h2]
      rw [e] at hk
      exact ⟨_, rfl, hk _ w hs0 (St.back i hi h.glue3)⟩
    · exact main (.inr h2) h
  · exact main (.inl h1) h
theorem S_rConfig (h : St w0 E w) (i : Nat) {b : Nat} {a : AShelf} {s : Seg} (hi : nth E i = some s) (hs : RSh b a s) {n : ByteArray} {k : eCfg.T × Int × Int × Bool × Unit → PT}
    (hk : ∀ w', St w0 E w' → k (shCfg a n) w') :
    L.call Pr n_damperref4_Shelf_Config [.pointer (some ⟨b, 0, none⟩), .string n] (.tup [eCfg, .one (.int .i64), .one (.int .i64), .one .bool]) k w := by
  obtain ⟨v, sr, Q, hr, hQ, rel, ok, rfl⟩ := hs
  have hhi := ok.hi
  have hql : (Q.length : Int) ≤ a.n := by have := rel.len; rw [List.length_map] at this; exact this
  refine call_of (C_damperref4_Shelf_Config _ _) ?_
  unfold F_damperref4_Shelf_Config
  unfold shCfg at hk
  have h := (h.front i hi).split3
  refine nw h ?_; clear h; (try clear w); intro b1 w h
  have h : St w0 (xsh b v a.n :: sr :: obS Q :: [Cl b1 T_api_Config (Cfg.cells noCfg)] :: delN E i) w := by
    have h := fr3_ (fr3_ (fr3_ h))
    exact h
  refine S_rfind hr hQ (by omega) h (fun hno w h => ?_) (fun j o ho hx w h => ?_)
  · have := rel.c0 n fun x hx => by obtain ⟨o, ho, rfl⟩ := List.mem_map.1 hx; exact hno o ho
    rw [if_neg (by rw [this.1]; decide)] at hk
    refine itT rfl ?_
    have h : St w0 (xsh b v a.n :: sr :: obS Q :: [Cl b1 T_api_Config [.string s_, I 0, I 0, I 0, I 0, I 0]] :: delN E i) w := h
    ((try dsimp only [setN] at h); repeat (first | refine nn ?_ | (refine dr h ?_; clear h; (try clear w); intro w h) | refine ldC h ?_ | refine laC h ?_ | refine ckC h ?_ | (refine stC h ?_; clear h; (try clear w); intro w h; (try dsimp only [putN, setN] at h)) | rw [add_add]))
    exact ⟨(noCfg, 0, 0, false, ()), rfl, hk w (St.again i hi (dl3_ h).glue3)⟩
  · refine itF rfl ?_
    obtain ⟨vr, s2, hr2, hf2, hxs⟩ := hQ o (List.mem_of_getElem? ho)
    have hom : o.x ∈ obX Q := List.mem_map_of_mem (List.mem_of_getElem? ho)
    have h := h.op3 ho hxs
    have hc1 := rel.c1 _ hom hx.1
    rw [hx.2] at hc1
    have h : St w0 ([Cl o.b T_damperref4_object (obC o.x vr)] :: s2 :: obR Q j :: xsh b v a.n :: sr :: [Cl b1 T_api_Config [.string s_, I 0, I 0, I 0, I 0, I 0]] :: delN E i) w := h
    ((try dsimp only [setN] at h); repeat (first | refine nn ?_ | (refine dr h ?_; clear h; (try clear w); intro w h) | refine ldC h ?_ | refine laC h ?_ | refine ckC h ?_ | (refine stC h ?_; clear h; (try clear w); intro w h; (try dsimp only [putN, setN] at h)) | rw [add_add]))
    refine it (fun h1 => ?_) (fun h1 => ?_) <;> (try simp only [decide_eq_true_eq, decide_eq_false_iff_not, beq_iff_eq, bne_iff_ne, beq_eq_false_iff_ne, bne_eq_false_iff_eq, Bool.not_eq_true', Bool.not_eq_false', ne_eq, Bool.not_eq_true, Bool.not_eq_false] at h1)
    · rw [if_neg (by rw [hc1.1, h1]; decide)] at hk
      ((try dsimp only [setN] at h); repeat (first | refine nn ?_ | (refine dr h ?_; clear h; (try clear w); intro w h) | refine ldC h ?_ | refine laC h ?_ | refine ckC h ?_ | (refine stC h ?_; clear h; (try clear w); intro w h; (try dsimp only [putN, setN] at h)) | rw [add_add]))
      refine ⟨(noCfg, 0, 0, false, ()), rfl, hk w (St.again i hi ?_)⟩
      have h := dl5_ h
      exact (h.cl3 ho hxs).glue3
    · have h1 : o.x.is = true := by simpa using h1
      rw [if_pos (by rw [hc1.1, h1]), (hc1.2.2 h1).1, (hc1.2.2 h1).2, hc1.2.1] at hk
      ((try dsimp only [setN] at h); repeat (first | refine nn ?_ | (refine dr h ?_; clear h; (try clear w); intro w h) | refine ldC h ?_ | refine laC h ?_ | refine ckC h ?_ | (refine stC h ?_; clear h; (try clear w); intro w h; (try dsimp only [putN, setN] at h)) | rw [add_add]))
      refine ⟨(o.x.c, o.x.ver, o.x.gen, true, ()), rfl, hk w (St.again i hi ?_)⟩
      have h := dl5_ h
      exact (h.cl3 ho hxs).glue3
theorem S_rRt (h : St w0 E w) (i : Nat) {b : Nat} {a : AShelf} {s : Seg} (hi : nth E i = some s) (hs : RSh b a s) {n : ByteArray} {k : eRt.T × Int × Bool × Unit → PT}
    (hk : ∀ v sv w', Rw eT T_api_Target 3 v (shRt a n).1.ts sv → St w0 (sv :: E) w' → k (((shRt a n).1.name, (shRt a n).1.cfg, v, (shRt a n).1.roll, ()), (shRt a n).2.1, (shRt a n).2.2, ()) w') :
    L.call Pr n_damperref4_Shelf_Route [.pointer (some ⟨b, 0, none⟩), .string n] (.tup [eRt, .one (.int .i64), .one .bool]) k w := by
  obtain ⟨v, sr, Q, hr, hQ, rel, ok, rfl⟩ := hs
  have hhi := ok.hi
  have hql : (Q.length : Int) ≤ a.n := by have := rel.len; rw [List.length_map] at this; exact this
  refine call_of (C_damperref4_Shelf_Route _ _) ?_
  unfold F_damperref4_Shelf_Route
  unfold shRt at hk
  have h := (h.front i hi).split3
  refine nw h ?_; clear h; (try clear w); intro b1 w h
  have h : St w0 (xsh b v a.n :: sr :: obS Q :: [Cl b1 T_api_Route (rtC noRt ⟨none, 0, 0⟩)] :: delN E i) w := by
    have h := fr3_ (fr3_ (fr3_ h))
    exact h
  refine S_rfind hr hQ (by omega) h (fun hno w h => ?_) (fun j o ho hx w h => ?_)
  · have := rel.r0 n fun x hx => by obtain ⟨o, ho, rfl⟩ := List.mem_map.1 hx; exact hno o ho
    rw [if_neg (by rw [this]; decide)] at hk
    refine itT rfl ?_
    have h : St w0 (xsh b v a.n :: sr :: obS Q :: [Cl b1 T_api_Route [.string s_, .string s_, .slice none 0 0, I 0]] :: delN E i) w := h
    ((try dsimp only [setN] at h); repeat (first | refine nn ?_ | (refine dr h ?_; clear h; (try clear w); intro w h) | refine ldC h ?_ | refine laC h ?_ | refine ckC h ?_ | (refine stC h ?_; clear h; (try clear w); intro w h; (try dsimp only [putN, setN] at h)) | rw [add_add]))
    exact ⟨((s_, s_, ⟨none, 0, 0⟩, 0, ()), 0, false, ()), rfl, hk ⟨none, 0, 0⟩ [] w Rw.nil (St.again i hi (dl3_ h).glue3).nil⟩
  · refine itF rfl ?_
    obtain ⟨vr, s2, hr2, hf2, hxs⟩ := hQ o (List.mem_of_getElem? ho)
    have hom : o.x ∈ obX Q := List.mem_map_of_mem (List.mem_of_getElem? ho)
    have h := h.op3 ho hxs
    have hc1 := rel.r1 _ hom hx.1
    rw [hx.2] at hc1
    have h : St w0 ([Cl o.b T_damperref4_object (obC o.x vr)] :: s2 :: obR Q j :: xsh b v a.n :: sr :: [Cl b1 T_api_Route [.string s_, .string s_, .slice none 0 0, I 0]] :: delN E i) w := h
    ((try dsimp only [setN] at h); repeat (first | refine nn ?_ | (refine dr h ?_; clear h; (try clear w); intro w h) | refine ldC h ?_ | refine laC h ?_ | refine ckC h ?_ | (refine stC h ?_; clear h; (try clear w); intro w h; (try dsimp only [putN, setN] at h)) | rw [add_add]))
    refine it (fun h1 => ?_) (fun h1 => ?_) <;> (try simp only [decide_eq_true_eq, decide_eq_false_iff_not, beq_iff_eq, bne_iff_ne, beq_eq_false_iff_ne, bne_eq_false_iff_eq, Bool.not_eq_true', Bool.not_eq_false', ne_eq, Bool.not_eq_true, Bool.not_eq_false] at h1)
    · rw [if_neg (by rw [hc1.1, h1]; decide)] at hk
      ((try dsimp only [setN] at h); repeat (first | refine nn ?_ | (refine dr h ?_; clear h; (try clear w); intro w h) | refine ldC h ?_ | refine laC h ?_ | refine ckC h ?_ | (refine stC h ?_; clear h; (try clear w); intro w h; (try dsimp only [putN, setN] at h)) | rw [add_add]))
      refine ⟨((s_, s_, ⟨none, 0, 0⟩, 0, ()), 0, false, ()), rfl, hk ⟨none, 0, 0⟩ [] w Rw.nil (St.again i hi ?_).nil⟩
      have h := dl5_ h
      exact (h.cl3 ho hxs).glue3
    · have h1 : o.x.is = true := by simpa using h1
      rw [if_pos (by rw [hc1.1, h1]), (hc1.2 h1).1, (hc1.2 h1).2] at hk
      ((try dsimp only [setN] at h); repeat (first | refine nn ?_ | (refine dr h ?_; clear h; (try clear w); intro w h) | refine ldC h ?_ | refine laC h ?_ | refine ckC h ?_ | (refine stC h ?_; clear h; (try clear w); intro w h; (try dsimp only [putN, setN] at h)) | rw [add_add]))
      refine nw h ?_; clear h; (try clear w); intro b9 w h
      ((try dsimp only [setN] at h); repeat (first | refine nn ?_ | (refine dr h ?_; clear h; (try clear w); intro w h) | refine ldC h ?_ | refine laC h ?_ | refine ckC h ?_ | (refine stC h ?_; clear h; (try clear w); intro w h; (try dsimp only [putN, setN] at h)) | rw [add_add]))
      refine nw h ?_; clear h; (try clear w); intro b10 w h
      ((try dsimp only [setN] at h); repeat (first | refine nn ?_ | (refine dr h ?_; clear h; (try clear w); intro w h) | refine ldC h ?_ | refine laC h ?_ | refine ckC h ?_ | (refine stC h ?_; clear h; (try clear w); intro w h; (try dsimp only [putN, setN] at h)) | rw [add_add]))
      refine Rw.appRd encT elT h 0 rfl (Rw.lit b10 [] encT rfl rfl (by simp [maxLen])) (Rw.rd encT h 3 rfl hr2) (by simp; omega) (by simp; omega) fun v2 sv w hrv _ _ h => ?_
      simp only [List.nil_append] at hrv
      have h : St w0 (sv :: [Cl b9 T_api_Route [.string o.x.r.name, .string o.x.r.cfg, .slice vr.a vr.len vr.cap, I o.x.r.roll]] :: [Cl o.b T_damperref4_object (obC o.x vr)] :: s2 :: obR Q j :: xsh b v a.n :: sr :: [Cl b1 T_api_Route [.string s_, .string s_, .slice none 0 0, I 0]] :: delN E i) w := h
      ((try dsimp only [setN] at h); repeat (first | refine nn ?_ | (refine dr h ?_; clear h; (try clear w); intro w h) | refine ldC h ?_ | refine laC h ?_ | refine ckC h ?_ | (refine stC h ?_; clear h; (try clear w); intro w h; (try dsimp only [putN, setN] at h)) | rw [add_add]))
      refine ⟨((o.x.r.name, o.x.r.cfg, v2, o.x.r.roll, ()), o.x.ver, true, ()), rfl, hk v2 sv w hrv ?_⟩
      have h := dl1_ (dl7_ h)
      have h : St w0 ([Cl o.b T_damperref4_object (obC o.x vr)] :: s2 :: obR Q j :: xsh b v a.n :: sr :: (sv :: delN E i)) w := by
        have h : St w0 (sv :: [Cl o.b T_damperref4_object (obC o.x vr)] :: s2 :: obR Q j :: xsh b v a.n :: sr :: delN E i) w := h
        have h := fr5_ (fr5_ (fr5_ (fr5_ (fr5_ h))))
        exact h
      exact St.again (i + 1) (E := sv :: E) hi (h.cl3 ho hxs).glue3
end Go.Proofs.YtpnbgpolbjbhpaaGreatDoor
namespace Go.Proofs.YtpnbgpolbjbhpaaGreatDoor
open Go.Dm
attribute [local irreducible] L.load L.store L.chk L.new L.nonnil L.guard L.ite L.draw L.idx L.sem L.semR L.semU L.chkSem L.next L.call L.callV L.join L.alts L.loop L.begin L.endRound L.range
variable {w0 w : World} {E : List Seg}
/-! ### names -/
theorem oldS {v : Sl} {l : List ByteArray} (r : Rd w eS v l) {n : Int} {kk : ByteArray → PT} (h0 : 0 ≤ n) (h1 : n < v.len) (hk : ∀ x, l[n.toNat]? = some x → kk x w) : L.idx v.a n v.len 1 (fun a => L.load (.one .str) a kk) w :=
  rd1 r encS (lf := .str) (fun x => x) (fun x => ⟨_, rfl, rfl⟩) h0 h1 hk
theorem S_Same (h : St w0 E w) {v1 v2 : Sl} {l1 l2 : List ByteArray} (r1 : RdE w0 E eS v1 l1) (r2 : RdE w0 E eS v2 l2) (hn : l1.length < 1000000000) {k : Bool → PT} (hk : ∀ w', St w0 E w' → k (decide (l1 = l2)) w') :
    L.call Pr n_damperref4_Same [SlV v1, SlV v2] (.one (.one .bool)) k w := by
  refine call_of (C_damperref4_Same v1 v2) ?_
  unfold F_damperref4_Same
  have e1 := (r1 w h).len
  have e2 := (r2 w h).len
  refine it (fun hl => ?_) (fun hl => ?_) <;> (try simp only [decide_eq_true_eq, decide_eq_false_iff_not, beq_iff_eq, bne_iff_ne, beq_eq_false_iff_ne, bne_eq_false_iff_eq, Bool.not_eq_true', Bool.not_eq_false', ne_eq, Bool.not_eq_true, Bool.not_eq_false] at hl)
  · refine ⟨_, rfl, eqk (hk w h) ?_⟩
    rw [decide_eq_false_iff_not]; intro e; subst e; omega
  · have hlen : l1.length = l2.length := by omega
    refine loop_of (fun q y w => ∃ j : Nat, y = ((j : Int), ()) ∧ q + j = l1.length ∧ l1.take j = l2.take j ∧ St w0 E w) l1.length ⟨0, rfl, rfl, rfl, h⟩ ?_
    clear h; (try clear w)
    rintro q y w ⟨j, rfl, hq, hp, h⟩ again hag
    dsimp only
    refine it (fun hb => ?_) (fun hb => ?_) <;> (try simp only [decide_eq_true_eq, decide_eq_false_iff_not, beq_iff_eq, bne_iff_ne, beq_eq_false_iff_ne, bne_eq_false_iff_eq, Bool.not_eq_true', Bool.not_eq_false', ne_eq, Bool.not_eq_true, Bool.not_eq_false] at hb)
    · refine dr h fun w h => ?_
      refine oldS (r1 w h) (by omega) hb fun x hx => oldS (r2 w h) (by omega) (by omega) fun y hy => ?_
      simp only [Int.toNat_natCast] at hx hy
      rw [str_eq]
      refine it (fun hc => ?_) (fun hc => ?_) <;> (try simp only [decide_eq_true_eq, decide_eq_false_iff_not, beq_iff_eq, bne_iff_ne, beq_eq_false_iff_ne, bne_eq_false_iff_eq, Bool.not_eq_true', Bool.not_eq_false', ne_eq, Bool.not_eq_true, Bool.not_eq_false] at hc)
      · refine ⟨_, rfl, eqk (hk w h) ?_⟩
        rw [decide_eq_false_iff_not]; intro e; subst e
        rw [hx] at hy; exact hc (Option.some.inj hy)
      · subst hc
        rw [wr (by omega) (by omega)]
        refine hag (q - 1) _ w (by omega) ⟨j + 1, by simp, by omega, ?_, h⟩
        rw [List.take_add_one, List.take_add_one, hp, hx, hy]
    · refine ⟨_, rfl, eqk (hk w h) ?_⟩
      rw [List.take_of_length_le (by omega), List.take_of_length_le (by omega)] at hp
      simp [hp]
theorem sput_uniq {l m : List ByteArray} (hl : l.Pairwise fun a b => slt a b = true) (hm : m.Pairwise fun a b => slt a b = true) (h : ∀ x, x ∈ l ↔ x ∈ m) : l = m := by
  have nd : ∀ {l : List ByteArray}, (l.Pairwise fun a b => slt a b = true) → l.Nodup := fun hl => hl.imp fun hab e => by subst e; rw [slt_irrefl] at hab; cases hab
  have hp : l.Perm m := perm_of_sub (nd hl) (nd hm) h
  exact List.Perm.eq_of_pairwise (fun a b _ _ h1 h2 => ble_anti h1 h2) (hl.imp slt_ble) (hm.imp slt_ble) hp
theorem ssort_slt {l : List ByteArray} (h : l.Nodup) : (ssort l).Pairwise fun a b => slt a b = true := by
  have h1 := ssort_pw l
  have h2 : (ssort l).Nodup := (ssort_perm l).nodup_iff.2 h
  exact h1.imp₂ (fun a b hab hne => slt_of_ble hab hne) h2
/-- the names that are there, put one by one -/
def xnames (L : List ROb) (kind : Int) : List ByteArray := L.foldl (fun l x => if x.kind = kind ∧ x.is = true then sput x.name l else l) []
theorem xnames_snoc (L : List ROb) (x : ROb) (kind : Int) : xnames (L ++ [x]) kind = if x.kind = kind ∧ x.is = true then sput x.name (xnames L kind) else xnames L kind := by
  unfold xnames; rw [List.foldl_append]; rfl
theorem xnames_pw (L : List ROb) (kind : Int) : (xnames L kind).Pairwise (fun a b => slt a b = true) ∧ (∀ n, n ∈ xnames L kind ↔ ∃ x ∈ L, xis kind n x ∧ x.is = true) ∧ (xnames L kind).length ≤ L.length := by
  refine snoc_ind (P := fun L => (xnames L kind).Pairwise (fun a b => slt a b = true) ∧ (∀ n, n ∈ xnames L kind ↔ ∃ x ∈ L, xis kind n x ∧ x.is = true) ∧ (xnames L kind).length ≤ L.length) ?_ ?_ L
  · exact ⟨List.Pairwise.nil, by simp [xnames], by simp [xnames]⟩
  · intro L x ih
    rw [xnames_snoc]
    obtain ⟨h1, h2, h3⟩ := ih
    split
    · rename_i hx
      refine ⟨sput_pw h1, fun n => ?_, ?_⟩
      · rw [sput_mem, h2]
        constructor
        · rintro (rfl | ⟨y, hy, hh⟩)
          · exact ⟨x, by simp, ⟨hx.1, rfl⟩, hx.2⟩
          · exact ⟨y, by simp [hy], hh⟩
        · rintro ⟨y, hy, hh⟩
          rcases List.mem_append.1 hy with hy | hy
          · exact .inr ⟨y, hy, hh⟩
          · simp at hy; subst hy; exact .inl hh.1.2.symm
      · have := sput_len x.name (xnames L kind); simp; omega
    · rename_i hx
      refine ⟨h1, fun n => ?_, by simp; omega⟩
      rw [h2]
      constructor
      · rintro ⟨y, hy, hh⟩; exact ⟨y, by simp [hy], hh⟩
      · rintro ⟨y, hy, hh⟩
        rcases List.mem_append.1 hy with hy | hy
        · exact ⟨y, hy, hh⟩
        · simp at hy; subst hy; exact (hx ⟨hh.1.1, hh.2⟩).elim
theorem ShRel.names {a : AShelf} {L : List ROb} (h : ShRel a L) (kind : Int) : xnames L kind = shNames a kind := by
  obtain ⟨h1, h2, -⟩ := xnames_pw L kind
  unfold shNames
  split
  · rename_i e; subst e
    refine sput_uniq h1 ((ssort_slt h.nm).filter _) fun n => ?_
    rw [h2]
    unfold namesC
    rw [List.mem_filter, ssort_mem]
    constructor
    · rintro ⟨x, hx, hk, hi⟩
      have := h.c1 x hx hk.1
      rw [hk.2] at this
      have ht : (tget a.m n).is = true := by rw [this.1, hi]
      refine ⟨?_, ht⟩
      apply Classical.byContradiction
      intro hn
      unfold tget at ht
      rw [mget_none.2 hn] at ht; cases ht
    · rintro ⟨-, ht⟩
      apply Classical.byContradiction
      intro hn
      have hno : ∀ x ∈ L, ¬ xis 1 n x := fun x hx hh => hn ⟨x, hx, hh, by
        have := h.c1 x hx hh.1
        rw [hh.2] at this; rw [← this.1]; exact ht⟩
      rw [(h.c0 n hno).1] at ht; cases ht
  · split
    · rename_i e; subst e
      refine sput_uniq h1 ((ssort_slt h.nr).filter _) fun n => ?_
      rw [h2]
      unfold namesR
      rw [List.mem_filter, ssort_mem]
      constructor
      · rintro ⟨x, hx, hk, hi⟩
        have := h.r1 x hx hk.1
        rw [hk.2] at this
        have ht : (rget a.r n).is = true := by rw [this.1, hi]
        refine ⟨?_, ht⟩
        apply Classical.byContradiction
        intro hn
        unfold rget at ht
        rw [mget_none.2 hn] at ht; cases ht
      · rintro ⟨-, ht⟩
        apply Classical.byContradiction
        intro hn
        have hno : ∀ x ∈ L, ¬ xis 2 n x := fun x hx hh => hn ⟨x, hx, hh, by
          have := h.r1 x hx hh.1
          rw [hh.2] at this; rw [← this.1]; exact ht⟩
        rw [h.r0 n hno] at ht; cases ht
    · rename_i n1 n2
      cases hx : xnames L kind with
      | nil => rfl
      | cons y l =>
        obtain ⟨x, hx, hk, -⟩ := (h2 y).1 (by rw [hx]; simp)
        rcases h.kinds x hx with e | e
        · exact (n1 (hk.1.symm.trans e)).elim
        · exact (n2 (hk.1.symm.trans e)).elim
theorem S_rNames (h : St w0 E w) (i : Nat) {b : Nat} {a : AShelf} {s : Seg} (hi : nth E i = some s) (hs : RSh b a s) {kind : Int} {k : Sl → PT}
    (hk : ∀ v s' w', Rw eS T_string 1 v (shNames a kind) s' → St w0 (s' :: E) w' → k v w') :
    L.call Pr n_damperref4_Shelf_Names [.pointer (some ⟨b, 0, none⟩), I kind] (.one (.one .slice)) k w := by
  obtain ⟨v, sr, Q, hr, hQ, rel, ok, rfl⟩ := hs
  have hhi := ok.hi
  have hql : (Q.length : Int) ≤ a.n := by have := rel.len; rw [List.length_map] at this; exact this
  have hlen := Rw.len encP hr
  rw [List.length_map] at hlen
  refine call_of (C_damperref4_Shelf_Names _ _) ?_
  unfold F_damperref4_Shelf_Names
  rw [← rel.names] at hk
  have h := (h.front i hi).split3
  refine loop_of (fun q y w => ∃ (j : Nat) (u : Sl) (su : Seg), y = (u, (j : Int), ()) ∧ q + j = Q.length ∧ Rw eS T_string 1 u (xnames (obX (Q.take j)) kind) su ∧ St w0 (su :: xsh b v a.n :: sr :: obS Q :: delN E i) w) Q.length ⟨0, ⟨none, 0, 0⟩, [], rfl, rfl, Rw.nil, h.nil⟩ ?_
  clear h; (try clear w)
  rintro q y w ⟨j, u, su, rfl, hq, hu, h⟩ again hag
  dsimp only
  have h : St w0 (xsh b v a.n :: sr :: obS Q :: su :: delN E i) w := by
    have h := fr3_ (fr3_ (fr3_ h))
    exact h
  ((try dsimp only [setN] at h); repeat (first | refine nn ?_ | (refine dr h ?_; clear h; (try clear w); intro w h) | refine ldC h ?_ | refine laC h ?_ | refine ckC h ?_ | (refine stC h ?_; clear h; (try clear w); intro w h; (try dsimp only [putN, setN] at h)) | rw [add_add]))
  refine it (fun hb => ?_) (fun hb => ?_) <;> (try simp only [decide_eq_true_eq, decide_eq_false_iff_not, beq_iff_eq, bne_iff_ne, beq_eq_false_iff_ne, bne_eq_false_iff_eq, Bool.not_eq_true', Bool.not_eq_false', ne_eq, Bool.not_eq_true, Bool.not_eq_false] at hb)
  · have hj : j < Q.length := by omega
    have ho : Q[j]? = some Q[j] := List.getElem?_eq_getElem hj
    generalize Q[j] = o at ho
    obtain ⟨vr, s2, hr2, -, hx⟩ := hQ o (List.mem_of_getElem? ho)
    have hs := xnames_snoc (obX (Q.take j)) o.x kind
    have et : obX (Q.take (j + 1)) = obX (Q.take j) ++ [o.x] := by rw [List.take_add_one, ho]; simp [obX]
    have hl := (xnames_pw (obX (Q.take j)) kind).2.2
    simp only [obX, List.length_map, List.length_take] at hl
    rw [← et] at hs
    have h := h.op3 ho hx
    refine join_of (fun z w => ∃ u' su', z = (u', ()) ∧ Rw eS T_string 1 u' (xnames (obX (Q.take (j + 1))) kind) su' ∧ St w0 (xsh b v a.n :: sr :: obS Q :: su' :: delN E i) w) (fun k5 hk5 => ?_) ?_
    · ((try dsimp only [setN] at h); repeat (first | refine nn ?_ | (refine dr h ?_; clear h; (try clear w); intro w h) | refine ldC h ?_ | refine laC h ?_ | refine ckC h ?_ | (refine stC h ?_; clear h; (try clear w); intro w h; (try dsimp only [putN, setN] at h)) | rw [add_add]))
      refine Rw.ptr h 4 rfl hr (by omega) (by rw [Int.toNat_natCast]; exact ho) ?_
      ((try dsimp only [setN] at h); repeat (first | refine nn ?_ | (refine dr h ?_; clear h; (try clear w); intro w h) | refine ldC h ?_ | refine laC h ?_ | refine ckC h ?_ | (refine stC h ?_; clear h; (try clear w); intro w h; (try dsimp only [putN, setN] at h)) | rw [add_add]))
      refine it (fun hc => ?_) (fun hc => ?_) <;> (try simp only [decide_eq_true_eq, decide_eq_false_iff_not, beq_iff_eq, bne_iff_ne, beq_eq_false_iff_ne, bne_eq_false_iff_eq, Bool.not_eq_true', Bool.not_eq_false', ne_eq, Bool.not_eq_true, Bool.not_eq_false] at hc)
      · ((try dsimp only [setN] at h); repeat (first | refine nn ?_ | (refine dr h ?_; clear h; (try clear w); intro w h) | refine ldC h ?_ | refine laC h ?_ | refine ckC h ?_ | (refine stC h ?_; clear h; (try clear w); intro w h; (try dsimp only [putN, setN] at h)) | rw [add_add]))
        refine Rw.ptr h 4 rfl hr (by omega) (by rw [Int.toNat_natCast]; exact ho) ?_
        ((try dsimp only [setN] at h); repeat (first | refine nn ?_ | (refine dr h ?_; clear h; (try clear w); intro w h) | refine ldC h ?_ | refine laC h ?_ | refine ckC h ?_ | (refine stC h ?_; clear h; (try clear w); intro w h; (try dsimp only [putN, setN] at h)) | rw [add_add]))
        refine it (fun hd => ?_) (fun hd => ?_) <;> (try simp only [decide_eq_true_eq, decide_eq_false_iff_not, beq_iff_eq, bne_iff_ne, beq_eq_false_iff_ne, bne_eq_false_iff_eq, Bool.not_eq_true', Bool.not_eq_false', ne_eq, Bool.not_eq_true, Bool.not_eq_false] at hd)
        · ((try dsimp only [setN] at h); repeat (first | refine nn ?_ | (refine dr h ?_; clear h; (try clear w); intro w h) | refine ldC h ?_ | refine laC h ?_ | refine ckC h ?_ | (refine stC h ?_; clear h; (try clear w); intro w h; (try dsimp only [putN, setN] at h)) | rw [add_add]))
          refine Rw.ptr h 4 rfl hr (by omega) (by rw [Int.toNat_natCast]; exact ho) ?_
          ((try dsimp only [setN] at h); repeat (first | refine nn ?_ | (refine dr h ?_; clear h; (try clear w); intro w h) | refine ldC h ?_ | refine laC h ?_ | refine ckC h ?_ | (refine stC h ?_; clear h; (try clear w); intro w h; (try dsimp only [putN, setN] at h)) | rw [add_add]))
          refine S_Put h 5 rfl hu (by simp only [obX]; omega) fun u' su' w hu' h => ?_
          rw [if_pos ⟨hc, hd⟩] at hs
          rw [← hs] at hu'
          have h : St w0 ([Cl o.b T_damperref4_object (obC o.x vr)] :: s2 :: obR Q j :: xsh b v a.n :: sr :: su' :: delN E i) w := h
          exact hk5 _ w ⟨u', su', rfl, hu', h.cl3 ho hx⟩
        · rw [if_neg (fun e => by rw [e.2] at hd; cases hd)] at hs
          exact hk5 _ w ⟨u, su, rfl, by rw [hs]; exact hu, h.cl3 ho hx⟩
      · rw [if_neg (fun e => hc e.1)] at hs
        exact hk5 _ w ⟨u, su, rfl, by rw [hs]; exact hu, h.cl3 ho hx⟩
    · clear h; (try clear w)
      rintro z w ⟨u', su', rfl, hu', h⟩
      dsimp only
      rw [wr (by omega) (by omega)]
      refine hag (q - 1) _ w (by omega) ⟨j + 1, u', su', by simp, by omega, hu', ?_⟩
      have h := fr3_ (fr2_ (fr2_ (fr2_ h)))
      exact h
  · rw [List.take_of_length_le (by omega)] at hu
    refine ⟨u, rfl, hk u su w hu ?_⟩
    have h := h.glue3
    have h : St w0 ((xsh b v a.n ++ (sr ++ obS Q)) :: su :: delN E i) w := h
    exact St.again (i + 1) (E := su :: E) hi h
end Go.Proofs.YtpnbgpolbjbhpaaGreatDoor
