/- Contracts of functions, and walks of laws (text Ua). No conditions beyond those its theorems state. -/
import Derived.Test.YtpnbgpolbjbhpaaGreatDoorTd
import Derived.Test.YtpnbgpolbjbhpaaGreatDoorSepB
set_option linter.all false
namespace Go.Proofs.YtpnbgpolbjbhpaaGreatDoor
open Go.Dm
attribute [local irreducible] L.load L.store L.chk L.new L.nonnil L.guard L.ite L.draw L.idx L.sem L.semR L.semU L.chkSem L.next L.call L.callV L.join L.alts L.loop L.begin L.endRound L.range
variable {w0 w : World} {E : List Seg}
/-! ### the document's shelf: what it is made of -/
theorem S_rspecC5 (h : St w0 E w) (nm : ByteArray) (im co mi ma gr : Int) {k : Int → PT} (hk : ∀ w', St w0 E w' → k (specC (nm, im, co, mi, ma, gr, ())) w') : L.call Pr n_damperref2_Config [.agg (Cfg.cells (nm, im, co, mi, ma, gr, ())).toArray] (.one (.one (.int .i64))) k w := by
  refine call_of (C_damperref2_Config (nm, im, co, mi, ma, gr, ())) ?_
  unfold F_damperref2_Config
  refine nw h ?_; clear h; (try clear w); intro b1 w h
  ((try dsimp only [setN] at h); repeat (first | refine nn ?_ | (refine dr h ?_; clear h; (try clear w); intro w h) | refine ldC h ?_ | refine laC h ?_ | refine ckC h ?_ | (refine stC h ?_; clear h; (try clear w); intro w h; (try dsimp only [putN, setN] at h))))
  refine S_rName h fun w h => ?_
  refine it (fun hn => ?_) (fun hn => ?_) <;> (try simp only [decide_eq_true_eq, decide_eq_false_iff_not, beq_iff_eq, bne_iff_ne, beq_eq_false_iff_ne, bne_eq_false_iff_eq, Bool.not_eq_true', Bool.not_eq_false', ne_eq, Bool.not_eq_true, Bool.not_eq_false] at hn)
  · refine ⟨_, rfl, ?_⟩
    have := hk w (dl0_ h)
    have e : specC (nm, im, co, mi, ma, gr, ()) = 1 := if_neg (by simp [hn])
    rw [e] at this; exact this
  have hn : shortB nm.data.toList 16 = true := by simpa using hn
  have e0 : specC (nm, im, co, mi, ma, gr, ()) = if cfgNum (nm, im, co, mi, ma, gr, ()) = true then 0 else 2 := by unfold specC; rw [if_pos hn]
  have ec : cfgNum (nm, im, co, mi, ma, gr, ()) = (decide (0 ≤ im ∧ im ≤ 255) && (decide (1 ≤ co ∧ co ≤ 8) && (decide (1 ≤ ma ∧ ma ≤ 10) && (decide (0 ≤ mi ∧ mi ≤ ma) && decide (0 ≤ gr ∧ gr ≤ 30))))) := rfl
  rw [e0] at hk
  have bad : ∀ {w}, ¬ ((0 ≤ im ∧ im ≤ 255) ∧ (1 ≤ co ∧ co ≤ 8) ∧ (1 ≤ ma ∧ ma ≤ 10) ∧ (0 ≤ mi ∧ mi ≤ ma) ∧ (0 ≤ gr ∧ gr ≤ 30)) → St w0 ([Cl b1 T_api_Config (Cfg.cells (nm, im, co, mi, ma, gr, ()))] :: E) w → ∃ x, I 2 = RT.val (.one (.one (.int .i64))) x ∧ k x w := by
    intro w hne h
    refine ⟨_, rfl, ?_⟩
    have := hk w (dl0_ h)
    rw [if_neg (fun hh => hne (by rw [ec] at hh; simpa only [Bool.and_eq_true, decide_eq_true_eq] using hh))] at this
    exact this
  clear e0
  refine jd ?_
  ((try dsimp only [setN] at h); repeat (first | refine nn ?_ | (refine dr h ?_; clear h; (try clear w); intro w h) | refine ldC h ?_ | refine laC h ?_ | refine ckC h ?_ | (refine stC h ?_; clear h; (try clear w); intro w h; (try dsimp only [putN, setN] at h))))
  refine it (fun h1 => ?_) (fun h1 => ?_) <;> (try simp only [decide_eq_true_eq, decide_eq_false_iff_not, beq_iff_eq, bne_iff_ne, beq_eq_false_iff_ne, bne_eq_false_iff_eq, Bool.not_eq_true', Bool.not_eq_false', ne_eq, Bool.not_eq_true, Bool.not_eq_false] at h1)
  · exact itT rfl (bad (by omega) h)
  ((try dsimp only [setN] at h); repeat (first | refine nn ?_ | (refine dr h ?_; clear h; (try clear w); intro w h) | refine ldC h ?_ | refine laC h ?_ | refine ckC h ?_ | (refine stC h ?_; clear h; (try clear w); intro w h; (try dsimp only [putN, setN] at h))))
  refine it (fun h2 => ?_) (fun h2 => ?_) <;> (try simp only [decide_eq_true_eq, decide_eq_false_iff_not, beq_iff_eq, bne_iff_ne, beq_eq_false_iff_ne, bne_eq_false_iff_eq, Bool.not_eq_true', Bool.not_eq_false', ne_eq, Bool.not_eq_true, Bool.not_eq_false] at h2)
  · exact itT rfl (bad (by omega) h)
  ((try dsimp only [setN] at h); repeat (first | refine nn ?_ | (refine dr h ?_; clear h; (try clear w); intro w h) | refine ldC h ?_ | refine laC h ?_ | refine ckC h ?_ | (refine stC h ?_; clear h; (try clear w); intro w h; (try dsimp only [putN, setN] at h))))
  refine it (fun h3 => ?_) (fun h3 => ?_) <;> (try simp only [decide_eq_true_eq, decide_eq_false_iff_not, beq_iff_eq, bne_iff_ne, beq_eq_false_iff_ne, bne_eq_false_iff_eq, Bool.not_eq_true', Bool.not_eq_false', ne_eq, Bool.not_eq_true, Bool.not_eq_false] at h3)
  · exact itT rfl (bad (by omega) h)
  ((try dsimp only [setN] at h); repeat (first | refine nn ?_ | (refine dr h ?_; clear h; (try clear w); intro w h) | refine ldC h ?_ | refine laC h ?_ | refine ckC h ?_ | (refine stC h ?_; clear h; (try clear w); intro w h; (try dsimp only [putN, setN] at h))))
  refine it (fun h4 => ?_) (fun h4 => ?_) <;> (try simp only [decide_eq_true_eq, decide_eq_false_iff_not, beq_iff_eq, bne_iff_ne, beq_eq_false_iff_ne, bne_eq_false_iff_eq, Bool.not_eq_true', Bool.not_eq_false', ne_eq, Bool.not_eq_true, Bool.not_eq_false] at h4)
  · exact itT rfl (bad (by omega) h)
  ((try dsimp only [setN] at h); repeat (first | refine nn ?_ | (refine dr h ?_; clear h; (try clear w); intro w h) | refine ldC h ?_ | refine laC h ?_ | refine ckC h ?_ | (refine stC h ?_; clear h; (try clear w); intro w h; (try dsimp only [putN, setN] at h))))
  refine it (fun h5 => ?_) (fun h5 => ?_) <;> (try simp only [decide_eq_true_eq, decide_eq_false_iff_not, beq_iff_eq, bne_iff_ne, beq_eq_false_iff_ne, bne_eq_false_iff_eq, Bool.not_eq_true', Bool.not_eq_false', ne_eq, Bool.not_eq_true, Bool.not_eq_false] at h5)
  · exact itT rfl (bad (by omega) h)
  ((try dsimp only [setN] at h); repeat (first | refine nn ?_ | (refine dr h ?_; clear h; (try clear w); intro w h) | refine ldC h ?_ | refine laC h ?_ | refine ckC h ?_ | (refine stC h ?_; clear h; (try clear w); intro w h; (try dsimp only [putN, setN] at h))))
  refine it (fun h6 => ?_) (fun h6 => ?_) <;> (try simp only [decide_eq_true_eq, decide_eq_false_iff_not, beq_iff_eq, bne_iff_ne, beq_eq_false_iff_ne, bne_eq_false_iff_eq, Bool.not_eq_true', Bool.not_eq_false', ne_eq, Bool.not_eq_true, Bool.not_eq_false] at h6)
  · exact itT rfl (bad (by omega) h)
  ((try dsimp only [setN] at h); repeat (first | refine nn ?_ | (refine dr h ?_; clear h; (try clear w); intro w h) | refine ldC h ?_ | refine laC h ?_ | refine ckC h ?_ | (refine stC h ?_; clear h; (try clear w); intro w h; (try dsimp only [putN, setN] at h))))
  refine it (fun h7 => ?_) (fun h7 => ?_) <;> (try simp only [decide_eq_true_eq, decide_eq_false_iff_not, beq_iff_eq, bne_iff_ne, beq_eq_false_iff_ne, bne_eq_false_iff_eq, Bool.not_eq_true', Bool.not_eq_false', ne_eq, Bool.not_eq_true, Bool.not_eq_false] at h7)
  · exact itT rfl (bad (by omega) h)
  ((try dsimp only [setN] at h); repeat (first | refine nn ?_ | (refine dr h ?_; clear h; (try clear w); intro w h) | refine ldC h ?_ | refine laC h ?_ | refine ckC h ?_ | (refine stC h ?_; clear h; (try clear w); intro w h; (try dsimp only [putN, setN] at h))))
  refine it (fun h8 => ?_) (fun h8 => ?_) <;> (try simp only [decide_eq_true_eq, decide_eq_false_iff_not, beq_iff_eq, bne_iff_ne, beq_eq_false_iff_ne, bne_eq_false_iff_eq, Bool.not_eq_true', Bool.not_eq_false', ne_eq, Bool.not_eq_true, Bool.not_eq_false] at h8)
  · exact itT rfl (bad (by omega) h)
  ((try dsimp only [setN] at h); repeat (first | refine nn ?_ | (refine dr h ?_; clear h; (try clear w); intro w h) | refine ldC h ?_ | refine laC h ?_ | refine ckC h ?_ | (refine stC h ?_; clear h; (try clear w); intro w h; (try dsimp only [putN, setN] at h))))
  refine it (fun h9 => ?_) (fun h9 => ?_) <;> (try simp only [decide_eq_true_eq, decide_eq_false_iff_not, beq_iff_eq, bne_iff_ne, beq_eq_false_iff_ne, bne_eq_false_iff_eq, Bool.not_eq_true', Bool.not_eq_false', ne_eq, Bool.not_eq_true, Bool.not_eq_false] at h9)
  · exact itT rfl (bad (by omega) h)
  ((try dsimp only [setN] at h); repeat (first | refine nn ?_ | (refine dr h ?_; clear h; (try clear w); intro w h) | refine ldC h ?_ | refine laC h ?_ | refine ckC h ?_ | (refine stC h ?_; clear h; (try clear w); intro w h; (try dsimp only [putN, setN] at h))))
  refine it (fun h10 => ?_) (fun h10 => ?_) <;> (try simp only [decide_eq_true_eq, decide_eq_false_iff_not, beq_iff_eq, bne_iff_ne, beq_eq_false_iff_ne, bne_eq_false_iff_eq, Bool.not_eq_true', Bool.not_eq_false', ne_eq, Bool.not_eq_true, Bool.not_eq_false] at h10)
  · exact bad (by omega) h
  · refine ⟨_, rfl, ?_⟩
    have := hk w (dl0_ h)
    rw [if_pos (by rw [ec]; simp only [Bool.and_eq_true, decide_eq_true_eq]; omega)] at this
    exact this
theorem S_rspecC (h : St w0 E w) {c : Cfg} {k : Int → PT} (hk : ∀ w', St w0 E w' → k (specC c) w') : L.call Pr n_damperref2_Config [.agg (Cfg.cells c).toArray] (.one (.one (.int .i64))) k w :=
  S_rspecC5 h c.1 c.2.1 c.2.2.1 c.2.2.2.1 c.2.2.2.2.1 c.2.2.2.2.2.1 hk
/-! rows of texts, by names -/
def slt (a b : ByteArray) : Bool := decide (bl a < bl b)
theorem less_iff (a b : ByteArray) : Op.bytesLess a.toList b.toList = slt a b := by
  rw [bytesLess_iff, ByteArray.toList_eq, ByteArray.toList_eq]; rfl
theorem slt_ble {a b : ByteArray} (h : slt a b = true) : ble a b = true := by
  unfold slt ble at *; simp only [decide_eq_true_eq] at *; exact List.le_of_lt h
theorem not_slt {a b : ByteArray} (h : slt a b = false) : ble b a = true := by
  unfold slt ble at *; simp only [decide_eq_true_eq, decide_eq_false_iff_not] at *; exact List.not_lt.1 h
theorem slt_irrefl (a : ByteArray) : slt a a = false := by unfold slt; simp
theorem slt_trans {a b c : ByteArray} (h1 : slt a b = true) (h2 : slt b c = true) : slt a c = true := by
  unfold slt at *; simp only [decide_eq_true_eq] at *; exact List.lt_trans h1 h2
theorem slt_of_ble {a b : ByteArray} (h : ble a b = true) (hn : a ≠ b) : slt a b = true := by
  rcases hb : slt a b with _ | _
  · exact (hn (ble_anti h (not_slt hb))).elim
  · rfl
/-- a text into others -/
def sput (x : ByteArray) : List ByteArray → List ByteArray
  | [] => [x]
  | y :: l => if slt y x = true then y :: sput x l else if y = x then y :: l else x :: y :: l
theorem sput_mem {x y : ByteArray} : ∀ {l : List ByteArray}, y ∈ sput x l ↔ y = x ∨ y ∈ l
  | [] => by simp [sput]
  | z :: l => by
    simp only [sput]
    split
    · simp only [List.mem_cons, sput_mem (l := l)]
      constructor
      · rintro (h | h | h)
        · exact .inr (.inl h)
        · exact .inl h
        · exact .inr (.inr h)
      · rintro (h | h | h)
        · exact .inr (.inl h)
        · exact .inl h
        · exact .inr (.inr h)
    · split
      · rename_i e; subst e; simp
      · simp
theorem sput_pw {x : ByteArray} : ∀ {l : List ByteArray}, l.Pairwise (fun a b => slt a b = true) → (sput x l).Pairwise fun a b => slt a b = true
  | [], _ => List.pairwise_singleton ..
  | z :: l, h => by
    rw [List.pairwise_cons] at h
    simp only [sput]
    split
    · rename_i h1
      rw [List.pairwise_cons]
      refine ⟨fun y hy => ?_, sput_pw h.2⟩
      rcases sput_mem.1 hy with rfl | hy
      · exact h1
      · exact h.1 y hy
    · rename_i h1
      split
      · rw [List.pairwise_cons]; exact h
      · rename_i h2
        have hxz : slt x z = true := slt_of_ble (not_slt (by simpa using h1)) (fun e => h2 e.symm)
        rw [List.pairwise_cons]
        refine ⟨fun y hy => ?_, by rw [List.pairwise_cons]; exact h⟩
        rcases List.mem_cons.1 hy with rfl | hy
        · exact hxz
        · exact slt_trans hxz (h.1 y hy)
theorem sput_len (x : ByteArray) : ∀ (l : List ByteArray), (sput x l).length ≤ l.length + 1
  | [] => by simp [sput]
  | z :: l => by
    simp only [sput]
    split
    · simp only [List.length_cons]; have := sput_len x l; omega
    · split <;> simp
theorem sput_at {x : ByteArray} : ∀ {l : List ByteArray} {k : Nat}, k ≤ l.length → (∀ y ∈ l.take k, slt y x = true) → (∀ y, l[k]? = some y → slt y x = false) →
    sput x l = if l[k]? = some x then l else l.take k ++ x :: l.drop k
  | [], k, hk, _, _ => by simp at hk; subst hk; simp [sput]
  | z :: l, 0, _, _, h2 => by
    have h2 := h2 z rfl
    simp only [sput, h2]
    simp
  | z :: l, k + 1, hk, h1, h2 => by
    have hz := h1 z (by simp)
    simp only [sput, if_pos hz]
    rw [sput_at (l := l) (k := k) (by simpa using hk) (fun y hy => h1 y (by simp [hy])) (fun y hy => h2 y (by simpa using hy))]
    simp only [List.getElem?_cons_succ, List.take_succ_cons, List.drop_succ_cons]
    split <;> simp
/-- behind the new one: what was put -/
theorem rdDrop {v : Sl} {l : List ByteArray} {s x : Seg} {i : Nat} (hi : nth E i = some s) (hr : Rw eS T_string 1 v l s) : RdE w0 (x :: E) eS v l := Rw.re encS (i + 1) hi hr
theorem S_Put (h : St w0 E w) (i : Nat) {s : Seg} {v : Sl} {l : List ByteArray} (hi : nth E i = some s) (hr : Rw eS T_string 1 v l s) (hn : l.length < 1000000000) {x : ByteArray} {k : Sl → PT}
    (hk : ∀ v' s' w', Rw eS T_string 1 v' (sput x l) s' → St w0 (setN E i s') w' → k v' w') : L.call Pr n_damperref4_Put [.slice v.a v.len v.cap, .string x] (.one (.one .slice)) k w := by
  refine call_of (C_damperref4_Put v x) ?_
  unfold F_damperref4_Put
  have hlen := Rw.len encS hr
  have hcap := hr.cap
  simp only [maxLen] at hcap
  refine join_of (fun (z : Int × Unit) w => ∃ kk : Nat, @Eq Int z.1 kk ∧ kk ≤ l.length ∧ (∀ y ∈ l.take kk, slt y x = true) ∧ (∀ y, l[kk]? = some y → slt y x = false) ∧ St w0 E w) (fun k1 hk1 => ?_) ?_
  · refine loop_of (fun q y w => ∃ j : Nat, y = ((j : Int), ()) ∧ q + j = l.length ∧ (∀ y ∈ l.take j, slt y x = true) ∧ St w0 E w) l.length ⟨0, rfl, rfl, by simp, h⟩ ?_
    clear h; (try clear w)
    rintro q y w ⟨j, rfl, hq, hf, h⟩ again hag
    dsimp only
    refine it (fun hb => ?_) (fun hb => ?_) <;> (try simp only [decide_eq_true_eq, decide_eq_false_iff_not, beq_iff_eq, bne_iff_ne, beq_eq_false_iff_ne, bne_eq_false_iff_eq, Bool.not_eq_true', Bool.not_eq_false', ne_eq, Bool.not_eq_true, Bool.not_eq_false] at hb)
    · have hj : j < l.length := by omega
      have hx : l[j]? = some l[j] := List.getElem?_eq_getElem hj
      generalize l[j] = u at hx
      refine Rw.ix encS hr (by omega) (by simpa using hj) fun a ha => ?_
      rw [Int.toNat_natCast] at ha
      refine Rw.ld0 encS h i hi hr ha hx rfl rfl ?_
      rw [less_iff]
      refine it (fun hc => ?_) (fun hc => ?_)
      · rw [wr (by omega) (by omega)]
        refine hag (q - 1) _ w (by omega) ⟨j + 1, by simp, by omega, fun y hy => ?_, h⟩
        rw [List.take_add_one, hx] at hy
        rcases List.mem_append.1 hy with hy | hy
        · exact hf y hy
        · simp at hy; subst hy; exact hc
      · exact hk1 _ w ⟨j, rfl, by omega, hf, fun y hy => (by rw [hx] at hy; cases hy; exact hc), h⟩
    · exact hk1 _ w ⟨j, rfl, by omega, hf, fun y hy => (by rw [List.getElem?_eq_none (by omega)] at hy; cases hy), h⟩
  · clear h; (try clear w)
    rintro ⟨z, ⟨⟩⟩ w ⟨kk, hz, hkl, h1, h2, h⟩
    simp only at hz
    subst hz
    have es := sput_at hkl h1 h2
    dsimp only
    refine join_of (fun z w => l[kk]? ≠ some x ∧ St w0 E w) (fun k7 hk7 => ?_) ?_
    · refine it (fun hb => ?_) (fun hb => ?_) <;> (try simp only [decide_eq_true_eq, decide_eq_false_iff_not, beq_iff_eq, bne_iff_ne, beq_eq_false_iff_ne, bne_eq_false_iff_eq, Bool.not_eq_true', Bool.not_eq_false', ne_eq, Bool.not_eq_true, Bool.not_eq_false] at hb)
      · have hj : kk < l.length := by omega
        have hx : l[kk]? = some l[kk] := List.getElem?_eq_getElem hj
        generalize l[kk] = u at hx
        refine Rw.ix encS hr (by omega) (by simpa using hj) fun a ha => ?_
        rw [Int.toNat_natCast] at ha
        refine Rw.ld0 encS h i hi hr ha hx rfl rfl ?_
        rw [str_eq]
        refine it (fun hc => ?_) (fun hc => ?_)
        · have hc := of_decide_eq_true hc
          rw [if_pos (by rw [hx, hc])] at es
          exact ⟨v, rfl, hk v s w (by rw [es]; exact hr) (by rwa [setN_self hi])⟩
        · have hc := of_decide_eq_false hc
          exact hk7 _ w ⟨fun e => hc (by rw [hx] at e; exact Option.some.inj e), h⟩
      · exact hk7 _ w ⟨fun e => (by rw [List.getElem?_eq_none (by omega)] at e; cases e), h⟩
    clear h; (try clear w)
    rintro z w ⟨hne, h⟩
    rw [if_neg hne] at es
    refine join_of (fun z w => ∃ v' s', z = (v', ()) ∧ Rw eS T_string 1 v' (sput x l) s' ∧ St w0 (setN E i s') w) (fun k11 hk11 => ?_) (fun z w ⟨v', s', hz, hr', h⟩ => by subst hz; exact ⟨v', rfl, hk v' s' w hr' h⟩)
    refine dr h ?_; clear h; clear w; intro w h
    refine gd (by omega) (gd (by omega) ?_)
    have t0 : Int.toNat (0 : Int) = 0 := rfl
    have tc : Int.toNat ((v.cap : Nat) : Int) = v.cap := by omega
    have tk : Int.toNat (kk : Int) = kk := by omega
    have tl : Int.toNat ((v.len : Nat) : Int) = v.len := by omega
    rw [t0, tc, tk, tl]
    have c1 : ∀ {F : List Seg} {w : World}, St w0 (F ++ E) w → Rd w eS ⟨if v.cap = 0 then v.a else Option.map (fun a : Addr => a.add (0 * 1)) v.a, kk - 0, v.cap - 0⟩ (l.take kk) := by
      intro F w h
      have hd : St w0 E w := by
        induction F with
        | nil => exact h
        | cons x F ih => exact ih h.tail
      have := (Rw.rd encS hd i hi hr).cut encS 0 kk (by omega) hkl hcap.1 (v.cap - 0)
      simpa using this
    have c2 : ∀ {F : List Seg} {w : World}, St w0 (F ++ E) w → Rd w eS ⟨if v.cap = kk then v.a else Option.map (fun a : Addr => a.add (kk * 1)) v.a, v.len - kk, v.cap - kk⟩ (l.drop kk) := by
      intro F w h
      have hd : St w0 E w := by
        induction F with
        | nil => exact h
        | cons x F ih => exact ih h.tail
      have := (Rw.rd encS hd i hi hr).cut encS kk l.length hkl (Nat.le_refl _) hcap.1 (v.cap - kk)
      rw [List.take_length, ← hlen] at this
      exact this
    have lit : ∀ b, Rw eS T_string 1 ⟨some ⟨b, 0, none⟩, 0, 0⟩ [] [Cl b T_string []] := fun b => Rw.lit b [] encS rfl rfl (by simp [maxLen])
    have fin : ∀ {v' : Sl} {s' : Seg} {w : World}, Rw eS T_string 1 v' ((l.take kk ++ [x]) ++ l.drop kk) s' → St w0 (s' :: E) w → k11 (⟨v'.a, v'.len, v'.cap⟩, ()) w := by
      intro v' s' w hr' h
      refine hk11 _ w ⟨v', s', rfl, ?_, ?_⟩
      · rw [es]; simpa using hr'
      · obtain ⟨A, B, e1, e2, e3⟩ := nth_split hi
        rw [e2]
        rw [e1] at h
        refine h.sub ?_
        simp only [List.flatten_append, List.flatten_cons]
        refine ⟨s, ?_⟩
        have p1 : ((A.flatten ++ (s' ++ B.flatten)) ++ s).Perm (s' ++ (A.flatten ++ (B.flatten ++ s))) := by
          have := (List.perm_append_comm (l₁ := A.flatten) (l₂ := s')).append_right (B.flatten ++ s)
          simpa only [List.append_assoc] using this
        refine p1.trans (List.Perm.append_left _ (List.Perm.append_left _ List.perm_append_comm))
    refine alts2 ?_ ?_
    · refine nw h ?_; clear h; (try clear w); intro b13 w h
      refine alts2 ?_ ?_
      · refine Rw.appRd encS elS h 0 rfl (lit b13) (c1 (F := [_]) h) (by simp; omega) (by simp; omega) fun v1 s1 w hr1 _ _ h => ?_
        simp only [List.nil_append] at hr1
        have h : St w0 (s1 :: E) w := h
        refine nw h ?_; clear h; (try clear w); intro b15 w h
        refine Rw.app encS elS h 0 rfl hr1 x rfl (by simp; omega) (by simp; omega) fun v2 s2 w hr2 h => ?_
        have h : St w0 (s2 :: E) w := h
        refine Rw.appRd encS elS h 0 rfl hr2 (c2 (F := [_]) h) (by simp; omega) (by simp; omega) fun v3 s3 w hr3 _ _ h => ?_
        have h : St w0 (s3 :: E) w := h
        exact fin hr3 h
      · refine nw h ?_; clear h; (try clear w); intro b18 w h
        refine Rw.appRd encS elS h 1 rfl (lit b13) (c1 (F := [_, _]) h) (by simp; omega) (by simp; omega) fun v1 s1 w hr1 _ _ h => ?_
        simp only [List.nil_append] at hr1
        have h : St w0 ([Cl b18 T_string [.string x]] :: s1 :: E) w := h
        refine Rw.app encS elS h 0 rfl hr1 x rfl (by simp; omega) (by simp; omega) fun v2 s2 w hr2 h => ?_
        have h : St w0 (s2 :: E) w := h
        refine Rw.appRd encS elS h 0 rfl hr2 (c2 (F := [_]) h) (by simp; omega) (by simp; omega) fun v3 s3 w hr3 _ _ h => ?_
        have h : St w0 (s3 :: E) w := h
        exact fin hr3 h
    · refine nw h ?_; clear h; (try clear w); intro b22 w h
      refine nw h ?_; clear h; (try clear w); intro b23 w h
      refine Rw.appRd encS elS h 0 rfl (lit b23) (c1 (F := [_, _]) h) (by simp; omega) (by simp; omega) fun v1 s1 w hr1 _ _ h => ?_
      simp only [List.nil_append] at hr1
      have h : St w0 (s1 :: [Cl b22 T_string [.string x]] :: E) w := h
      have h : St w0 ([Cl b22 T_string [.string x]] :: s1 :: E) w := fr1_ h
      refine Rw.app encS elS h 0 rfl hr1 x rfl (by simp; omega) (by simp; omega) fun v2 s2 w hr2 h => ?_
      have h : St w0 (s2 :: E) w := h
      refine Rw.appRd encS elS h 0 rfl hr2 (c2 (F := [_]) h) (by simp; omega) (by simp; omega) fun v3 s3 w hr3 _ _ h => ?_
      have h : St w0 (s3 :: E) w := h
      exact fin hr3 h
end Go.Proofs.YtpnbgpolbjbhpaaGreatDoor
namespace Go.Proofs.YtpnbgpolbjbhpaaGreatDoor
open Go.Dm
attribute [local irreducible] L.load L.store L.chk L.new L.nonnil L.guard L.ite L.draw L.idx L.sem L.semR L.semU L.chkSem L.next L.call L.callV L.join L.alts L.loop L.begin L.endRound L.range
variable {w0 w : World} {E : List Seg}
/-! ### the document's objects -/
structure ROb where
  kind : Int
  name : ByteArray
  c : Cfg
  r : ARt
  ver : Int
  gen : Int
  is : Bool
def xnew (kind : Int) (name : ByteArray) : ROb := ⟨kind, name, noCfg, noRt, 0, 0, false⟩
abbrev obC (x : ROb) (v : Sl) : List Value := [I x.kind, .string x.name, .string x.c.1, I x.c.2.1, I x.c.2.2.1, I x.c.2.2.2.1, I x.c.2.2.2.2.1, I x.c.2.2.2.2.2.1, .string x.r.name, .string x.r.cfg, .slice v.a v.len v.cap, I x.r.roll, I x.ver, I x.gen, .bool x.is]
def XOb (b : Nat) (x : ROb) (s : Seg) : Prop := ∃ v sr, Rw eT T_api_Target 3 v x.r.ts sr ∧ x.r.ts.length < 1000000000 ∧ s = [Cl b T_damperref4_object (obC x v)] ++ sr
abbrev xsh (b : Nat) (v : Sl) (n : Int) : Seg := [Cl b T_damperref4_Shelf [.slice v.a v.len v.cap, I n]]
abbrev xis (kind : Int) (name : ByteArray) (x : ROb) : Prop := x.kind = kind ∧ x.name = name
theorem S_rfind {b : Nat} {n : Int} {v : Sl} {sr : Seg} {Q : List (Ob ROb)} {F : List Seg} (hr : Rw eP T_p_damperref4_object 1 v (obB Q) sr) (hQ : ∀ o ∈ Q, XOb o.b o.x o.sg) (hn : Q.length < 1000000000) (h : St w0 (xsh b v n :: sr :: obS Q :: F) w) {kind : Int} {name : ByteArray} {k : Option Addr → PT}
    (no : (∀ o ∈ Q, ¬ xis kind name o.x) → ∀ w', St w0 (xsh b v n :: sr :: obS Q :: F) w' → k none w')
    (yes : ∀ (j : Nat) (o : Ob ROb), Q[j]? = some o → xis kind name o.x → ∀ w', St w0 (xsh b v n :: sr :: obS Q :: F) w' → k (some ⟨o.b, 0, none⟩) w') :
    L.call Pr n_damperref4_Shelf_find [.pointer (some ⟨b, 0, none⟩), I kind, .string name] (.one (.one .ptr)) k w := by
  refine call_of (C_damperref4_Shelf_find _ _ _) ?_
  unfold F_damperref4_Shelf_find
  have hlen := Rw.len encP hr
  rw [List.length_map] at hlen
  refine loop_of (fun q y w => ∃ j : Nat, y = ((j : Int), ()) ∧ q + j = Q.length ∧ (∀ o ∈ Q.take j, ¬ xis kind name o.x) ∧ St w0 (xsh b v n :: sr :: obS Q :: F) w) Q.length ⟨0, rfl, rfl, by simp, h⟩ ?_
  clear h; (try clear w)
  rintro q y w ⟨j, rfl, hq, hf, h⟩ again hag
  dsimp only
  ((try dsimp only [setN] at h); repeat (first | refine nn ?_ | (refine dr h ?_; clear h; (try clear w); intro w h) | refine ldC h ?_ | refine laC h ?_ | refine ckC h ?_ | (refine stC h ?_; clear h; (try clear w); intro w h; (try dsimp only [putN, setN] at h))))
  refine it (fun hb => ?_) (fun hb => ?_) <;> (try simp only [decide_eq_true_eq, decide_eq_false_iff_not, beq_iff_eq, bne_iff_ne, beq_eq_false_iff_ne, bne_eq_false_iff_eq, Bool.not_eq_true', Bool.not_eq_false', ne_eq, Bool.not_eq_true, Bool.not_eq_false] at hb)
  · have hj : j < Q.length := by omega
    have ho : Q[j]? = some Q[j] := List.getElem?_eq_getElem hj
    generalize Q[j] = o at ho
    obtain ⟨vr, s2, hr2, -, hx⟩ := hQ o (List.mem_of_getElem? ho)
    have h := h.op3 ho hx
    refine join_of (fun z w => ¬ xis kind name o.x ∧ St w0 (xsh b v n :: sr :: obS Q :: F) w) (fun k5 hk5 => ?_) ?_
    · ((try dsimp only [setN] at h); repeat (first | refine nn ?_ | (refine dr h ?_; clear h; (try clear w); intro w h) | refine ldC h ?_ | refine laC h ?_ | refine ckC h ?_ | (refine stC h ?_; clear h; (try clear w); intro w h; (try dsimp only [putN, setN] at h))))
      refine Rw.ptr h 4 rfl hr (by omega) (by rw [Int.toNat_natCast]; exact ho) ?_
      ((try dsimp only [setN] at h); repeat (first | refine nn ?_ | (refine dr h ?_; clear h; (try clear w); intro w h) | refine ldC h ?_ | refine laC h ?_ | refine ckC h ?_ | (refine stC h ?_; clear h; (try clear w); intro w h; (try dsimp only [putN, setN] at h))))
      refine it (fun hc => ?_) (fun hc => ?_) <;> (try simp only [decide_eq_true_eq, decide_eq_false_iff_not, beq_iff_eq, bne_iff_ne, beq_eq_false_iff_ne, bne_eq_false_iff_eq, Bool.not_eq_true', Bool.not_eq_false', ne_eq, Bool.not_eq_true, Bool.not_eq_false] at hc)
      · ((try dsimp only [setN] at h); repeat (first | refine nn ?_ | (refine dr h ?_; clear h; (try clear w); intro w h) | refine ldC h ?_ | refine laC h ?_ | refine ckC h ?_ | (refine stC h ?_; clear h; (try clear w); intro w h; (try dsimp only [putN, setN] at h))))
        refine Rw.ptr h 4 rfl hr (by omega) (by rw [Int.toNat_natCast]; exact ho) ?_
        ((try dsimp only [setN] at h); repeat (first | refine nn ?_ | (refine dr h ?_; clear h; (try clear w); intro w h) | refine ldC h ?_ | refine laC h ?_ | refine ckC h ?_ | (refine stC h ?_; clear h; (try clear w); intro w h; (try dsimp only [putN, setN] at h))))
        rw [str_eq]
        refine it (fun hd => ?_) (fun hd => ?_)
        · ((try dsimp only [setN] at h); repeat (first | refine nn ?_ | (refine dr h ?_; clear h; (try clear w); intro w h) | refine ldC h ?_ | refine laC h ?_ | refine ckC h ?_ | (refine stC h ?_; clear h; (try clear w); intro w h; (try dsimp only [putN, setN] at h))))
          refine Rw.ptr h 4 rfl hr (by omega) (by rw [Int.toNat_natCast]; exact ho) ?_
          exact ⟨_, rfl, yes j o ho ⟨hc, of_decide_eq_true hd⟩ w (h.cl3 ho hx)⟩
        · exact hk5 _ w ⟨fun e => of_decide_eq_false hd e.2, h.cl3 ho hx⟩
      · exact hk5 _ w ⟨fun e => hc e.1, h.cl3 ho hx⟩
    · clear h; (try clear w)
      rintro z w ⟨hne, h⟩
      rw [wr (by omega) (by omega)]
      refine hag (q - 1) _ w (by omega) ⟨j + 1, by simp, by omega, fun p hp => ?_, h⟩
      rw [List.take_add_one, ho] at hp
      rcases List.mem_append.1 hp with hp | hp
      · exact hf p hp
      · simp at hp; subst hp; exact hne
  · rw [List.take_of_length_le (by omega)] at hf
    exact ⟨_, rfl, no hf w h⟩
theorem S_rmay0 (h : St w0 E w) {ver : Int} {k : Int → PT} (hk : ∀ w', St w0 E w' → k (mayV false 0 ver true) w') : L.call Pr n_damperref4_may [.pointer none, I ver] (.one (.one (.int .i64))) k w := by
  refine call_of (C_damperref4_may _ _) ?_
  unfold F_damperref4_may
  refine jd (itF rfl ?_)
  refine jd ?_
  dsimp only
  unfold mayV at hk
  by_cases hv : ver = 0
  · subst hv
    exact itT rfl (itF rfl (itF rfl (itF rfl ⟨_, rfl, hk w h⟩)))
  · refine itF (by simpa using hv) (itT (by simpa using hv) (itT rfl ?_))
    rw [if_neg (fun e => hv e.2), if_neg (by decide)] at hk
    exact ⟨_, rfl, hk w h⟩
theorem S_rmay1 {b : Nat} {x : ROb} {v : Sl} (h : St w0 ([Cl b T_damperref4_object (obC x v)] :: E) w) {ver : Int} {k : Int → PT} (hk : ∀ w', St w0 ([Cl b T_damperref4_object (obC x v)] :: E) w' → k (mayV x.is x.ver ver true) w') :
    L.call Pr n_damperref4_may [.pointer (some ⟨b, 0, none⟩), I ver] (.one (.one (.int .i64))) k w := by
  refine call_of (C_damperref4_may _ _) ?_
  unfold F_damperref4_may
  refine jd (itT rfl ?_)
  ((try dsimp only [setN] at h); repeat (first | refine nn ?_ | (refine dr h ?_; clear h; (try clear w); intro w h) | refine ldC h ?_ | refine laC h ?_ | refine ckC h ?_ | (refine stC h ?_; clear h; (try clear w); intro w h; (try dsimp only [putN, setN] at h))))
  refine jd ?_
  dsimp only
  unfold mayV at hk
  by_cases hv : ver = 0
  · subst hv
    refine itT rfl ?_
    rw [if_pos ⟨rfl, rfl⟩] at hk
    refine it (fun hi => ?_) (fun hi => ?_) <;> (try simp only [decide_eq_true_eq, decide_eq_false_iff_not, beq_iff_eq, bne_iff_ne, beq_eq_false_iff_ne, bne_eq_false_iff_eq, Bool.not_eq_true', Bool.not_eq_false', ne_eq, Bool.not_eq_true, Bool.not_eq_false] at hi)
    · rw [if_pos hi] at hk; exact ⟨_, rfl, hk w h⟩
    · rw [if_neg (by simp [hi])] at hk
      exact itF rfl (itF rfl ⟨_, rfl, hk w h⟩)
  · refine itF (by simpa using hv) (itT (by simpa using hv) ?_)
    rw [if_neg (fun e => hv e.2)] at hk
    refine it (fun hi => ?_) (fun hi => ?_)
    · rw [if_neg (by simpa using hi)] at hk
      exact ⟨_, rfl, hk w h⟩
    · rw [if_pos (by simpa using hi)] at hk
      refine itT (by simpa using hv) ?_
      ((try dsimp only [setN] at h); repeat (first | refine nn ?_ | (refine dr h ?_; clear h; (try clear w); intro w h) | refine ldC h ?_ | refine laC h ?_ | refine ckC h ?_ | (refine stC h ?_; clear h; (try clear w); intro w h; (try dsimp only [putN, setN] at h))))
      refine it (fun hc => ?_) (fun hc => ?_) <;> (try simp only [decide_eq_true_eq, decide_eq_false_iff_not, beq_iff_eq, bne_iff_ne, beq_eq_false_iff_ne, bne_eq_false_iff_eq, Bool.not_eq_true', Bool.not_eq_false', ne_eq, Bool.not_eq_true, Bool.not_eq_false] at hc)
      · rw [if_neg hc] at hk; exact ⟨_, rfl, hk w h⟩
      · rw [if_pos (by simpa using hc)] at hk
        exact ⟨_, rfl, hk w h⟩
theorem elPo : El Pr T_s_p_damperref4_object T_p_damperref4_object 1 8 (.pointer none) := el_of (by kernel_rfl) (by kernel_rfl) rfl (by decide)
/-- a place for one: where it was, or a new one behind all -/
def Plc (L L1 : List ROb) (kind : Int) (name : ByteArray) (j : Nat) (old : ROb) : Prop :=
  (L[j]? = some old ∧ xis kind name old ∧ ∀ y, L1.set j y = L.set j y) ∨ ((∀ x ∈ L, ¬ xis kind name x) ∧ old = xnew kind name ∧ ∀ y, L1.set j y = L ++ [y])
def xmay (L : List ROb) (kind : Int) (name : ByteArray) (ver : Int) : Int := match L.find? fun x => decide (xis kind name x) with
  | some x => mayV x.is x.ver ver true
  | none => mayV false 0 ver true
theorem xmay_none {L : List ROb} {kind : Int} {name : ByteArray} {ver : Int} (h : ∀ x ∈ L, ¬ xis kind name x) : xmay L kind name ver = mayV false 0 ver true := by
  unfold xmay
  rw [List.find?_eq_none.2 (fun x hx => by simpa using h x hx)]
abbrev keyX (x : ROb) : Int × ByteArray := (x.kind, x.name)
theorem xmay_some {L : List ROb} (nd : (L.map keyX).Nodup) {kind : Int} {name : ByteArray} {ver : Int} {j : Nat} {x : ROb} (hj : L[j]? = some x) (hx : xis kind name x) : xmay L kind name ver = mayV x.is x.ver ver true := by
  unfold xmay
  cases hf : L.find? fun x => decide (xis kind name x) with
  | none => exact absurd hx (by simpa using List.find?_eq_none.1 hf x (List.mem_of_getElem? hj))
  | some y =>
    have h1 := List.mem_of_find?_eq_some hf
    have h2 : xis kind name y := by simpa using List.find?_some hf
    have : y = x := inj_on keyX nd h1 (List.mem_of_getElem? hj) (by simp only [keyX]; rw [h2.1, h2.2, hx.1, hx.2])
    rw [this]
theorem S_rput {b : Nat} {n : Int} {v : Sl} {sr : Seg} {Q : List (Ob ROb)} {F : List Seg} (hr : Rw eP T_p_damperref4_object 1 v (obB Q) sr) (hQ : ∀ o ∈ Q, XOb o.b o.x o.sg) (nd : ((obX Q).map keyX).Nodup) (hn : Q.length < 1000000000) (h0 : 0 ≤ n) (h1 : n < 1000000000) (h : St w0 (xsh b v n :: sr :: obS Q :: F) w) {kind : Int} {name : ByteArray} {ver : Int} {k : Option Addr × Int × Unit → PT}
    (bad : xmay (obX Q) kind name ver ≠ 0 → ∀ w', St w0 (xsh b v n :: sr :: obS Q :: F) w' → k (none, xmay (obX Q) kind name ver, ()) w')
    (good : xmay (obX Q) kind name ver = 0 → ∀ (Q' : List (Ob ROb)) v' sr' (j : Nat) (o : Ob ROb) s v0 old w', Rw eP T_p_damperref4_object 1 v' (obB Q') sr' → (∀ p ∈ Q', XOb p.b p.x p.sg) → Q'[j]? = some o → Q'.length ≤ Q.length + 1 → Rw eT T_api_Target 3 v0 old.r.ts s → Plc (obX Q) (obX Q') kind name j old →
      St w0 ([Cl o.b T_damperref4_object (obC { old with ver := n + 1 } v0)] :: s :: obR Q' j :: xsh b v' (n + 1) :: sr' :: F) w' → k (some ⟨o.b, 0, none⟩, 0, ()) w') :
    L.call Pr n_damperref4_Shelf_put [.pointer (some ⟨b, 0, none⟩), I kind, .string name, I ver] (.tup [.one .ptr, .one (.int .i64)]) k w := by
  refine call_of (C_damperref4_Shelf_put _ _ _ _) ?_
  unfold F_damperref4_Shelf_put
  have hlen := Rw.len encP hr
  rw [List.length_map] at hlen
  refine S_rfind hr hQ hn h (fun hno w h => ?_) (fun j o ho hx w h => ?_)
  · have em := xmay_none (ver := ver) (L := obX Q) (kind := kind) (name := name) (fun x hx => by obtain ⟨o, ho, rfl⟩ := List.mem_map.1 hx; exact hno o ho)
    rw [em] at bad good
    refine S_rmay0 h fun w h => ?_
    refine it (fun hb => ?_) (fun hb => ?_) <;> (try simp only [decide_eq_true_eq, decide_eq_false_iff_not, beq_iff_eq, bne_iff_ne, beq_eq_false_iff_ne, bne_eq_false_iff_eq, Bool.not_eq_true', Bool.not_eq_false', ne_eq, Bool.not_eq_true, Bool.not_eq_false] at hb)
    · exact ⟨_, rfl, bad hb w h⟩
    · refine jd (itT rfl ?_)
      refine nw h ?_; clear h; (try clear w); intro b5 w h
      ((try dsimp only [setN] at h); repeat (first | refine nn ?_ | (refine dr h ?_; clear h; (try clear w); intro w h) | refine ldC h ?_ | refine laC h ?_ | refine ckC h ?_ | (refine stC h ?_; clear h; (try clear w); intro w h; (try dsimp only [putN, setN] at h))))
      refine nw h ?_; clear h; (try clear w); intro b8 w h
      refine Rw.app encP elPo h 2 rfl hr b5 rfl (by rw [List.length_map]; omega) (by rw [List.length_map]; omega) fun v' sr' w hr' h => ?_
      have h : St w0 ([Cl b5 T_damperref4_object (obC (xnew kind name) ⟨none, 0, 0⟩)] :: xsh b v n :: sr' :: obS Q :: F) w := h
      have er : obB Q ++ [b5] = obB (Q ++ [(⟨b5, xnew kind name, [Cl b5 T_damperref4_object (obC (xnew kind name) ⟨none, 0, 0⟩)]⟩ : Ob ROb)]) := by simp [obB]
      rw [er] at hr'
      have h : St w0 ([Cl b5 T_damperref4_object [I kind, .string name, .string s_, I 0, I 0, I 0, I 0, I 0, .string s_, .string s_, .slice none 0 0, I 0, I 0, I 0, .bool false]] :: xsh b v n :: sr' :: obS Q :: F) w := h
      ((try dsimp only [setN] at h); repeat (first | refine nn ?_ | (refine dr h ?_; clear h; (try clear w); intro w h) | refine ldC h ?_ | refine laC h ?_ | refine ckC h ?_ | (refine stC h ?_; clear h; (try clear w); intro w h; (try dsimp only [putN, setN] at h))))
      rw [wr (by omega) (by omega)] at h
      refine ⟨(some ⟨b5, 0, none⟩, 0, ()), rfl, good (by simpa using hb) (Q ++ [⟨b5, xnew kind name, [Cl b5 T_damperref4_object (obC (xnew kind name) ⟨none, 0, 0⟩)]⟩]) v' sr' Q.length ⟨b5, xnew kind name, [Cl b5 T_damperref4_object (obC (xnew kind name) ⟨none, 0, 0⟩)]⟩ [] ⟨none, 0, 0⟩ (xnew kind name) w hr' ?_ (by simp) (by simp) Rw.nil ?_ ?_⟩
      · intro p hp
        rcases List.mem_append.1 hp with hp | hp
        · exact hQ p hp
        · simp at hp; subst hp; exact ⟨⟨none, 0, 0⟩, [], Rw.nil, by simp [xnew, noRt], by simp⟩
      · refine .inr ⟨fun x hx => by obtain ⟨o, ho, rfl⟩ := List.mem_map.1 hx; exact hno o ho, rfl, fun y => ?_⟩
        simp [obX]
      · have h : St w0 ([Cl b5 T_damperref4_object (obC { xnew kind name with ver := n + 1 } ⟨none, 0, 0⟩)] :: xsh b v' (n + 1) :: sr' :: obS Q :: F) w := h
        have e : obR (Q ++ [(⟨b5, xnew kind name, [Cl b5 T_damperref4_object (obC (xnew kind name) ⟨none, 0, 0⟩)]⟩ : Ob ROb)]) Q.length = obS Q := by simp [obR]
        rw [e]
        have h := fr3_ (fr3_ (fr2_ (fr2_ h)))
        exact h.eq (by simp)
  · have em := xmay_some (ver := ver) nd (ob_x ho) hx
    rw [em] at bad good
    obtain ⟨vr, s2, hr2, hf2, hxs⟩ := hQ o (List.mem_of_getElem? ho)
    have h := h.op3 ho hxs
    refine S_rmay1 h fun w h => ?_
    refine it (fun hb => ?_) (fun hb => ?_) <;> (try simp only [decide_eq_true_eq, decide_eq_false_iff_not, beq_iff_eq, bne_iff_ne, beq_eq_false_iff_ne, bne_eq_false_iff_eq, Bool.not_eq_true', Bool.not_eq_false', ne_eq, Bool.not_eq_true, Bool.not_eq_false] at hb)
    · exact ⟨_, rfl, bad hb w (h.cl3 ho hxs)⟩
    · refine jd (itF rfl ?_)
      ((try dsimp only [setN] at h); repeat (first | refine nn ?_ | (refine dr h ?_; clear h; (try clear w); intro w h) | refine ldC h ?_ | refine laC h ?_ | refine ckC h ?_ | (refine stC h ?_; clear h; (try clear w); intro w h; (try dsimp only [putN, setN] at h))))
      rw [wr (by omega) (by omega)] at h
      refine ⟨(some ⟨o.b, 0, none⟩, 0, ()), rfl, good (by simpa using hb) Q v sr j o s2 vr o.x w hr hQ ho (by omega) hr2 (.inl ⟨ob_x ho, hx, fun _ => rfl⟩) h⟩
end Go.Proofs.YtpnbgpolbjbhpaaGreatDoor
