/- Contracts of functions, and walks of laws (text Sl). No conditions beyond those its theorems state. -/
import Derived.Test.YtpnbgpolbjbhpaaSi
import Derived.Test.YtpnbgpolbjbhpaaSj
set_option linter.all false
namespace Go.Proofs.Ytpnbgpolbjbhpaa
open Go.Dm
attribute [local irreducible] L.load L.store L.chk L.new L.nonnil L.guard L.ite L.draw L.idx L.sem L.semR L.semU L.chkSem L.next L.call L.callV L.join L.alts L.loop L.begin L.endRound L.range
variable {w0 w : World} {E : List Seg}
/-! ### ShelfNames -/
theorem oldS {v : Sl} {l : List ByteArray} (r : Rd w eS v l) {n : Int} {kk : ByteArray → PT} (h0 : 0 ≤ n) (h1 : n < v.len) (hk : ∀ x, l[n.toNat]? = some x → kk x w) : L.idx v.a n v.len 1 (fun a => L.load (.one .str) a kk) w :=
  rd1 r encS (lf := .str) (fun x => x) (fun x => ⟨_, rfl, rfl⟩) h0 h1 hk
theorem S_Same (h : St w0 E w) {v1 v2 : Sl} {l1 l2 : List ByteArray} (r1 : RdE w0 E eS v1 l1) (r2 : RdE w0 E eS v2 l2) (hn : l1.length < 1000000000) {k : Bool → PT} (hk : ∀ w', St w0 E w' → k (decide (l1 = l2)) w') :
    L.call Pr n_damperref4_Same [SlV v1, SlV v2] (.one (.one .bool)) k w := by
  refine call_of (C_damperref4_Same v1 v2) ?_
  unfold F_damperref4_Same
  have e1 := (r1 w h).len
  have e2 := (r2 w h).len
  refine it (fun hl => ?_) (fun hl => ?_) <;> (try simp only [decide_eq_true_eq, decide_eq_false_iff_not, beq_iff_eq, bne_iff_ne, beq_eq_false_iff_ne, bne_eq_false_iff_eq, Bool.not_eq_true', Bool.not_eq_false', ne_eq, Bool.not_eq_true, Bool.not_eq_false] at hl)
  · refine ⟨_, rfl, eqk (hk w h) ?_⟩
    rw [decide_eq_false_iff_not]; intro e; subst e; omega
  · have hlen : l1.length = l2.length := by omega
    refine loop_of (fun q y w => ∃ j : Nat, y = ((j : Int), ()) ∧ q + j = l1.length ∧ l1.take j = l2.take j ∧ St w0 E w) l1.length ⟨0, rfl, rfl, rfl, h⟩ ?_
    clear h; (try clear w)
    rintro q y w ⟨j, rfl, hq, hp, h⟩ again hag
    dsimp only
    refine it (fun hb => ?_) (fun hb => ?_) <;> (try simp only [decide_eq_true_eq, decide_eq_false_iff_not, beq_iff_eq, bne_iff_ne, beq_eq_false_iff_ne, bne_eq_false_iff_eq, Bool.not_eq_true', Bool.not_eq_false', ne_eq, Bool.not_eq_true, Bool.not_eq_false] at hb)
    · refine dr h fun w h => ?_
      refine oldS (r1 w h) (by omega) hb fun x hx => oldS (r2 w h) (by omega) (by omega) fun y hy => ?_
      simp only [Int.toNat_natCast] at hx hy
      rw [str_eq]
      refine it (fun hc => ?_) (fun hc => ?_) <;> (try simp only [decide_eq_true_eq, decide_eq_false_iff_not, beq_iff_eq, bne_iff_ne, beq_eq_false_iff_ne, bne_eq_false_iff_eq, Bool.not_eq_true', Bool.not_eq_false', ne_eq, Bool.not_eq_true, Bool.not_eq_false] at hc)
      · refine ⟨_, rfl, eqk (hk w h) ?_⟩
        rw [decide_eq_false_iff_not]; intro e; subst e
        rw [hx] at hy; exact hc (Option.some.inj hy)
      · subst hc
        rw [wr (by omega) (by omega)]
        refine hag (q - 1) _ w (by omega) ⟨j + 1, by simp, by omega, ?_, h⟩
        rw [List.take_add_one, List.take_add_one, hp, hx, hy]
    · refine ⟨_, rfl, eqk (hk w h) ?_⟩
      rw [List.take_of_length_le (by omega), List.take_of_length_le (by omega)] at hp
      simp [hp]
theorem und_su8 : Pr.underlying T_s_uint8 = some (.slice T_uint8) := by kernel_rfl
theorem und_u8 : Pr.underlying T_uint8 = some (.int .u8) := by kernel_rfl
def nmK (k : Nat) : ByteArray := s_n ++ ⟨#[UInt8.ofNat (97 + k)]⟩
theorem byK : ∀ n : Fin 20, IntKind.wrap .u8 (IntKind.wrap .i64 (97 + (n : Int))) = ((UInt8.ofNat (97 + n.val)).toNat : Int) := by decide
theorem okK : ∀ n : Fin 20, shortB (nmK n.val).data.toList 16 = true := by decide +kernel
theorem injK : ∀ a b : Fin 20, nmK a.val = nmK b.val → a = b := by decide +kernel
theorem ltK : ∀ a b : Fin 20, a.val < b.val → ble (nmK a.val) (nmK b.val) = true := by decide +kernel
/-- "n" and a letter -/
theorem mkK (h : St w0 E w) {x : Int} (h0 : 0 ≤ x) (h1 : x < 20) {k : ByteArray → PT} (hk : ∀ w', St w0 E w' → k ⟨#[UInt8.ofNat (97 + x.toNat)]⟩ w') :
    L.new [.int .u8 (IntKind.wrap .u8 (IntKind.wrap .i64 (97 + x)))] T_uint8 (fun b13 => L.sem Pr (.one (.one (.str))) (convert T_s_uint8 T_string (.slice (some ⟨b13, 0, none⟩) 1 1)) k) w := by
  have e := byK ⟨x.toNat, by omega⟩
  simp only [Int.toNat_of_nonneg h0] at e
  rw [e]
  refine nw h ?_; clear h; (try clear w); intro b w h
  have hr : Rw eU T_uint8 1 ⟨some ⟨b, 0, none⟩, 1, 1⟩ [UInt8.ofNat (97 + x.toNat)] [Cl b T_uint8 [.int .u8 ((UInt8.ofNat (97 + x.toNat)).toNat : Int)]] := Rw.lit b _ encU rfl rfl (by simp [maxLen])
  exact cvBS (v := ⟨some ⟨b, 0, none⟩, 1, 1⟩) und_su8 und_u8 und_str (Rw.rd encU h 0 rfl hr) (hk w (dl0_ h))
structure NmI (a : AShelf) (vs : List Int) (i : Int) : Prop where
  len : vs.length = 20
  n : a.n ≤ i
  r : a.r = []
  has : ∀ k x, vs[k]? = some x → 0 ≤ x ∧ (0 < x → (tget a.m (nmK k)).is = true ∧ (tget a.m (nmK k)).ver = x) ∧ (x = 0 → (tget a.m (nmK k)).is = false)
  all : ∀ n, (tget a.m n).is = true → ∃ k, k < 20 ∧ n = nmK k
theorem NmI.put {a : AShelf} {vs : List Int} {i : Int} (h : NmI a vs i) (h0 : 0 ≤ a.n) {k : Nat} (hk : k < 20) (c : Cfg) (hc : c.1 = nmK k) : NmI ⟨putC a.m c.1 c (a.n + 1), a.r, a.n + 1⟩ (vs.set k (a.n + 1)) (i + 1) := by
  have hl := h.len
  refine ⟨by simp [hl], by have := h.n; simp only; omega, h.r, fun j x hx => ?_, fun n hn => ?_⟩
  · rw [List.getElem?_set] at hx
    simp only
    rw [tget_putC, hc]
    by_cases e : k = j
    · subst e
      rw [if_pos rfl, if_pos (by omega)] at hx
      cases hx
      rw [if_pos rfl]
      exact ⟨by omega, fun _ => ⟨rfl, rfl⟩, fun h => by omega⟩
    · rw [if_neg e] at hx
      have hj : j < 20 := by have := (List.getElem?_eq_some_iff.1 hx).1; omega
      rw [if_neg (fun h => e (Fin.mk.inj (injK ⟨k, hk⟩ ⟨j, hj⟩ h)))]
      exact h.has j x hx
  · simp only at hn
    rw [tget_putC, hc] at hn
    by_cases e : nmK k = n
    · exact ⟨k, hk, e.symm⟩
    · rw [if_neg e] at hn; exact h.all n hn
theorem NmI.drop {a : AShelf} {vs : List Int} {i : Int} (h : NmI a vs i) {k : Nat} (hk : k < 20) : NmI ⟨dropC a.m (nmK k), a.r, a.n + 1⟩ (vs.set k 0) (i + 1) := by
  have hl := h.len
  refine ⟨by simp [hl], by have := h.n; simp only; omega, h.r, fun j x hx => ?_, fun n hn => ?_⟩
  · rw [List.getElem?_set] at hx
    simp only
    rw [tget_dropC]
    by_cases e : k = j
    · subst e
      rw [if_pos rfl, if_pos (by omega)] at hx
      cases hx
      rw [if_pos rfl]
      exact ⟨by omega, fun h => by omega, fun _ => rfl⟩
    · rw [if_neg e] at hx
      have hj : j < 20 := by have := (List.getElem?_eq_some_iff.1 hx).1; omega
      rw [if_neg (fun h => e (Fin.mk.inj (injK ⟨k, hk⟩ ⟨j, hj⟩ h)))]
      exact h.has j x hx
  · simp only at hn
    rw [tget_dropC] at hn
    by_cases e : nmK k = n
    · rw [if_pos e] at hn; cases hn
    · rw [if_neg e] at hn; exact h.all n hn
def posB (vs : List Int) (j : Nat) : Bool := decide (0 < (vs[j]?).getD 0)
theorem NmI.names {a : AShelf} {vs : List Int} {i : Int} (h : NmI a vs i) (nd : (a.m.map (·.1)).Nodup) : namesC a.m = ((List.range 20).filter (posB vs)).map nmK := by
  have hl := h.len
  refine List.Perm.eq_of_pairwise (le := fun a b => ble a b = true) (fun a b _ _ h1 h2 => ble_anti h1 h2) ((ssort_pw _).filter _) ?_ ?_
  · rw [List.pairwise_map]
    have := (List.pairwise_lt_range (n := 20)).filter (posB vs)
    refine this.imp_of_mem fun {x y} hx hy hxy => ?_
    have hx := List.mem_range.1 (List.mem_filter.1 hx).1
    have hy := List.mem_range.1 (List.mem_filter.1 hy).1
    exact ltK ⟨x, hx⟩ ⟨y, hy⟩ hxy
  · refine perm_of_sub ((((ssort_perm _).nodup_iff).2 nd).filter _) ?_ fun x => ?_
    · refine List.pairwise_map.2 ?_
      have := (List.nodup_range (n := 20)).filter (posB vs)
      refine this.imp_of_mem fun {x y} hx hy hxy e => hxy ?_
      have hx := List.mem_range.1 (List.mem_filter.1 hx).1
      have hy := List.mem_range.1 (List.mem_filter.1 hy).1
      exact Fin.mk.inj (injK ⟨x, hx⟩ ⟨y, hy⟩ e)
    · unfold namesC
      rw [List.mem_filter, ssort_mem, List.mem_map, List.mem_map]
      constructor
      · rintro ⟨-, hi⟩
        obtain ⟨k, hk, rfl⟩ := h.all x hi
        refine ⟨k, List.mem_filter.2 ⟨List.mem_range.2 hk, ?_⟩, rfl⟩
        have hx := List.getElem?_eq_getElem (show k < vs.length by omega)
        obtain ⟨h1, h2, h3⟩ := h.has k _ hx
        unfold posB; rw [hx]; simp only [Option.getD_some, decide_eq_true_eq]
        rcases Int.lt_or_eq_of_le h1 with h | h
        · exact h
        · rw [h3 h.symm] at hi; cases hi
      · rintro ⟨k, hk, rfl⟩
        obtain ⟨hk, hp⟩ := List.mem_filter.1 hk
        have hk := List.mem_range.1 hk
        have hx := List.getElem?_eq_getElem (show k < vs.length by omega)
        unfold posB at hp; rw [hx] at hp; simp only [Option.getD_some, decide_eq_true_eq] at hp
        have hi := ((h.has k _ hx).2.1 hp).1
        refine ⟨?_, hi⟩
        cases hg : mget a.m (nmK k) with
        | none => unfold tget at hi; rw [hg] at hi; cases hi
        | some u => exact ⟨_, mget_mem hg, rfl⟩
theorem W_ShelfNames (p0 : Sl) {l : List Int} (o : Old w0 eI p0 l) : Calls Pr n_damperlaw4_ShelfNames #[SlV p0] w0 fun e w' => e = .returned (.bool true) ∧ St w0 [] w' := by
  refine law_of (args := [SlV p0]) (C_damperlaw4_ShelfNames p0) ?_
  unfold F_damperlaw4_ShelfNames
  have h := St.init w0
  refine S_known4 h fun w h => itF rfl ?_
  refine S_shNew h fun b s w hs h => itF rfl ?_
  refine call_of C_damperlaw4_versions ?_
  unfold F_damperlaw4_versions
  refine mkN elI encI (0 : Int) rfl h (by decide) (by decide) (by decide) fun v sv w hv h => ⟨v, rfl, ?_⟩
  have hI : NmI ⟨[], [], 0⟩ (List.replicate 20 (0 : Int)) 0 := by
    refine ⟨rfl, by simp, rfl, fun k x hx => ?_, fun n hn => by cases hn⟩
    have := List.eq_of_mem_replicate (List.mem_of_getElem? hx)
    subst this
    exact ⟨by omega, fun h => by omega, fun _ => rfl⟩
  have hv : Rw eI T_int 1 v (List.replicate 20 (0 : Int)) sv := hv
  refine join_of (fun z w => ∃ (a : AShelf) (vs : List Int) (sv s : Seg), NmI a vs 60 ∧ ShS b a s ∧ Rw eI T_int 1 v vs sv ∧ St w0 (sv :: s :: []) w) (fun k4 hk4 => ?_) (fun z w ⟨a, vs, sv, s, hI, hs, hv, h⟩ => ?_)
  · refine loop_of (fun q y w => ∃ (i : Int) (a : AShelf) (vs : List Int) (sv s : Seg), y = (i, ()) ∧ 0 ≤ i ∧ q + i = 60 ∧ NmI a vs i ∧ ShS b a s ∧ Rw eI T_int 1 v vs sv ∧ St w0 (sv :: s :: []) w) 60 ⟨0, _, _, _, _, rfl, by omega, rfl, hI, hs, hv, h⟩ ?_
    clear hs hI hv
    clear h; (try clear w)
    rintro q y w ⟨i, a, vs, sv, s, rfl, hi0, hq, hI, hs, hv, h⟩ again hag
    dsimp only
    have out : ∀ {w}, St w0 (sv :: s :: []) w → k4 () w := fun h => hk4 _ _ ⟨a, vs, sv, s, ⟨hI.len, by have := hI.n; omega, hI.r, hI.has, hI.all⟩, hs, hv, h⟩
    refine it (fun hb => ?_) (fun _ => out h)
    refine it (fun hb2 => ?_) (fun _ => out h)
    simp only [decide_eq_true_eq] at hb hb2
    have hvl := Rw.len encI hv
    rw [hI.len] at hvl
    have hn := hI.n
    have hlo := hs.1.lo
    refine join_of (fun z w => ∃ (a : AShelf) (vs : List Int) (sv s : Seg), NmI a vs (i + 1) ∧ ShS b a s ∧ Rw eI T_int 1 v vs sv ∧ St w0 (sv :: s :: []) w) (fun k8 hk8 => ?_) (fun z w ⟨a, vs, sv, s, hI, hs, hv, h⟩ => ?_)
    · refine oldI o h hi0 hb fun x hx => ?_
      have h1 := Int.emod_nonneg x (by decide : (20 : Int) ≠ 0)
      have h2 := Int.emod_lt_of_pos x (by decide : (0 : Int) < 20)
      refine S_within4 (by decide) (by decide) ?_
      refine mkK h h1 h2 fun w h => ?_
      refine gd (show ((1 + 1 : Nat) : Int) ≤ maxI64 by decide) ?_
      have hk20 : (x % 20).toNat < 20 := by omega
      have ek : s_n ++ ⟨#[UInt8.ofNat (97 + (x % 20).toNat)]⟩ = nmK (x % 20).toNat := rfl
      rw [ek]
      obtain ⟨y, hy⟩ : ∃ y, vs[(x % 20).toNat]? = some y := ⟨_, List.getElem?_eq_getElem (by rw [hI.len]; exact hk20)⟩
      obtain ⟨hy0, hy1, hy2⟩ := hI.has _ _ hy
      have put : ∀ {w}, (0 < y ∨ y = 0) → St w0 (sv :: s :: []) w →
          L.idx v.a (x % 20) v.len 1 (fun a26 => L.load (.one (.int .i64)) a26 fun (x27 : Int) =>
          L.call Pr n_shelf_Shelf_PutConfig [.pointer (some ⟨b, 0, none⟩), .agg #[.string (nmK (x % 20).toNat), .int .i64 0, .int .i64 1, .int .i64 0, .int .i64 1, .int .i64 0], .int .i64 x27] (.tup [(.one (.int .i64)), (.one (.int .i64))]) fun (x28 : Int × Int × Unit) =>
          L.ite (x28.2.1 != 0) (fun w' => Value.bool false = .bool true ∧ St w0 [] w') <|
          L.idx v.a (x % 20) v.len 1 fun a29 =>
          L.store a29 [.int .i64 x28.1] <|
          k8 (())) w := by
        intro w _ h
        refine rd1 (Rw.rd encI h 0 rfl hv) encI (lf := .int .i64) (fun x => x) (fun x => ⟨_, rfl, rfl⟩) h1 (by omega) fun y' hy' => ?_
        rw [hy] at hy'; cases hy'
        have hmay : mayC (tget a.m (nmK (x % 20).toNat)) y true = 0 := by
          rcases Int.lt_or_eq_of_le hy0 with h | h
          · obtain ⟨h3, h4⟩ := hy1 h; exact mayC_ok h3 h4 (by omega) _
          · rw [← h]; exact mayC_new (hy2 h.symm)
        refine S_shPut (c := (nmK (x % 20).toNat, 0, 1, 0, 1, 0, ())) h 1 rfl hs (by omega) fun s w hs h => ?_
        have hspec : specC (nmK (x % 20).toNat, 0, 1, 0, 1, 0, ()) = 0 := by
          unfold specC
          rw [if_pos (okK ⟨_, hk20⟩), if_pos (by rfl)]
        rw [shPut_ok hspec hmay] at hs ⊢
        refine itF rfl ?_
        refine Rw.ix encI hv h1 (by rw [hI.len]; exact hk20) fun a29 ha => ?_
        have ha0 : a29 = a29.add 0 := (add_zero' _).symm
        rw [ha0]
        refine Rw.st encI h 0 rfl hv ha hy (f := 0) (u := I (a.n + 1)) (y := a.n + 1) (by decide) rfl rfl fun sv' w hv' h => ?_
        exact hk8 _ w ⟨_, _, sv', s, hI.put hlo hk20 _ rfl, hs, hv', h⟩
      refine jd ?_
      refine rd1 (Rw.rd encI h 0 rfl hv) encI (lf := .int .i64) (fun x => x) (fun x => ⟨_, rfl, rfl⟩) h1 (by omega) fun y' hy' => ?_
      rw [hy] at hy'; cases hy'
      refine it (fun hpos => ?_) (fun hpos => ?_) <;> (try simp only [decide_eq_true_eq, decide_eq_false_iff_not, beq_iff_eq, bne_iff_ne, beq_eq_false_iff_ne, bne_eq_false_iff_eq, Bool.not_eq_true', Bool.not_eq_false', ne_eq, Bool.not_eq_true, Bool.not_eq_false] at hpos)
      · refine oldI o h hi0 hb fun x' hx' => ?_
        refine gd (by decide) ?_
        refine S_within4 (by decide) (by decide) ?_
        refine it (fun _ => ?_) (fun _ => put (.inl hpos) h)
        refine rd1 (Rw.rd encI h 0 rfl hv) encI (lf := .int .i64) (fun x => x) (fun x => ⟨_, rfl, rfl⟩) h1 (by omega) fun y' hy' => ?_
        rw [hy] at hy'; cases hy'
        refine S_shDrop h 1 rfl hs (by omega) fun s w hs h => ?_
        obtain ⟨h3, h4⟩ := hy1 hpos
        rw [shDropC_ok (mayC_ok h3 h4 (by omega) _)] at hs ⊢
        refine itF rfl ?_
        refine Rw.ix encI hv h1 (by rw [hI.len]; exact hk20) fun a29 ha => ?_
        have ha0 : a29 = a29.add 0 := (add_zero' _).symm
        rw [ha0]
        refine Rw.st encI h 0 rfl hv ha hy (f := 0) (u := I 0) (y := 0) (by decide) rfl rfl fun sv' w hv' h => ?_
        exact hk8 _ w ⟨_, _, sv', s, hI.drop hk20, hs, hv', h⟩
      · exact put (.inr (by omega)) h
    · rw [wr (by omega) (by omega)]
      exact hag (q - 1) _ w (by omega) ⟨i + 1, a, vs, sv, s, rfl, by omega, by omega, hI, hs, hv, h⟩
  · have hvl := Rw.len encI hv
    rw [hI.len] at hvl
    refine loop_of (fun q y w => ∃ (j : Nat) (u : Sl) (su : Seg), y = (u, (j : Int), ()) ∧ q + j = 20 ∧ Rw eS T_string 1 u (((List.range j).filter (posB vs)).map nmK) su ∧ St w0 (su :: sv :: s :: []) w) 20 ⟨0, _, [], rfl, rfl, Rw.nil, h.nil⟩ ?_
    clear h; (try clear w)
    rintro q y w ⟨j, u, su, rfl, hq, hu, h⟩ again hag
    dsimp only
    have hfl := List.length_filter_le (posB vs) (List.range j)
    rw [List.length_range] at hfl
    refine it (fun hb => ?_) (fun hb => ?_) <;> (try simp only [decide_eq_true_eq, decide_eq_false_iff_not, beq_iff_eq, bne_iff_ne, beq_eq_false_iff_ne, bne_eq_false_iff_eq, Bool.not_eq_true', Bool.not_eq_false', ne_eq, Bool.not_eq_true, Bool.not_eq_false] at hb)
    · have hx := List.getElem?_eq_getElem (show j < vs.length by rw [hI.len]; omega)
      refine jd ?_
      refine rd1 (Rw.rd encI h 1 rfl hv) encI (lf := .int .i64) (fun x => x) (fun x => ⟨_, rfl, rfl⟩) (by omega) (by omega) fun y' hy' => ?_
      simp only [Int.toNat_natCast] at hy'
      have next : ∀ {u su w}, Rw eS T_string 1 u (((List.range (j + 1)).filter (posB vs)).map nmK) su → St w0 (su :: sv :: s :: []) w → again (u, IntKind.wrap .i64 ((j : Int) + 1), ()) w := by
        intro u su w hu h
        rw [wr (by omega) (by omega)]
        exact hag (q - 1) _ w (by omega) ⟨j + 1, u, su, by simp, by omega, hu, h⟩
      rw [List.range_succ, List.filter_append] at next
      refine it (fun hp => ?_) (fun hp => ?_) <;> (try simp only [decide_eq_true_eq, decide_eq_false_iff_not, beq_iff_eq, bne_iff_ne, beq_eq_false_iff_ne, bne_eq_false_iff_eq, Bool.not_eq_true', Bool.not_eq_false', ne_eq, Bool.not_eq_true, Bool.not_eq_false] at hp)
      · refine mkK h (by omega) hb fun w h => ?_
        refine gd (show ((1 + 1 : Nat) : Int) ≤ maxI64 by decide) ?_
        refine nw h ?_; clear h; (try clear w); intro b38 w h
        refine Rw.app (l := ((List.range j).filter (posB vs)).map nmK) encS elS h 0 rfl hu (nmK j) rfl (by rw [List.length_map]; omega) (by rw [List.length_map]; omega) fun u' su' w hu' h => ?_
        refine next (u := u') ?_ h
        have : posB vs j = true := by unfold posB; rw [hy']; simpa using hp
        simpa [this] using hu'
      · refine next (u := u) ?_ h
        have : posB vs j = false := by unfold posB; rw [hy']; simpa using hp
        simpa [this] using hu
    · have e : j = 20 := by omega
      subst e
      have hn := hI.n
      refine S_shNames h 2 rfl hs fun x sx w hx h => ?_
      have hnd : (a.m.map (·.1)).Nodup := by
        obtain ⟨-, bc, br, sc, sr, ⟨r, sm, hm, -⟩, -⟩ := hs
        exact hm.nd
      have e1 : shNames a 1 = ((List.range 20).filter (posB vs)).map nmK := hI.names hnd
      rw [e1] at hx
      refine S_Same h (Rw.re encS 0 rfl hx) (Rw.re encS 1 rfl hu) (by rw [List.length_map]; omega) fun w h => ?_
      refine itT (by simp) ?_
      have e2 : shNames a 2 = [] := by simp [shNames, namesR, hI.r, ssort_nil]
      refine S_shNames h 3 rfl hs fun x2 sx2 w hx2 h => ?_
      rw [e2] at hx2
      have hl2 := Rw.len encS hx2
      refine itT (by rw [hl2]; rfl) ?_
      refine S_shNames h 4 rfl hs fun x3 sx3 w hx3 h => ?_
      have hl3 := Rw.len encS hx3
      have e3 : shNames a 3 = [] := rfl
      rw [e3] at hl3
      exact ⟨by rw [hl3]; rfl, h.fin⟩
end Go.Proofs.Ytpnbgpolbjbhpaa
