/- Contracts of functions, and walks of laws (text Ta). No conditions beyond those its theorems state. -/
import Derived.Test.YtpnbgpolbjbhpaaGreatDoorLb
import Derived.Test.YtpnbgpolbjbhpaaGreatDoorSr
set_option linter.all false
namespace Go.Proofs.YtpnbgpolbjbhpaaGreatDoor
open Go.Dm
attribute [local irreducible] L.load L.store L.chk L.new L.nonnil L.guard L.ite L.draw L.idx L.sem L.semR L.semU L.chkSem L.next L.call L.callV L.join L.alts L.loop L.begin L.endRound L.range
variable {w0 w : World} {E : List Seg}
/-! ### routes: what is wrong with them -/
/-- no revision, or a sound one of less than a hundred -/
def revOk (r : ByteArray) : Prop := r = s_ ∨ ∃ c g, shortB c.data.toList 16 = true ∧ 1 ≤ g ∧ g < 100 ∧ r = revB c g
def tagBad (t : ByteArray) : Bool := !decide (t = s_) && !shortB t.data.toList 8
def tgE (t : Tgt) : Int := if tagBad t.2.1 = true then 1 else if 0 ≤ @id Int t.2.2.1 ∧ @id Int t.2.2.1 ≤ 100 then 0 else 2
theorem rev_ne (c : ByteArray) {g : Nat} (hg : g < 100) : revB c g ≠ s_ := fun e => by
  have := rev_size c hg
  rw [e] at this
  have h0 : s_.size = 0 := rfl
  omega
theorem S_target (h : St w0 E w) {t : Tgt} (hr : revOk t.1) {k : Int → PT} (hk : ∀ w', St w0 E w' → k (tgE t) w') : L.call Pr n_spec_target [.agg #[.string t.1, .string t.2.1, I t.2.2.1]] (.one (.one (.int .i64))) k w := by
  refine call_of (C_spec_target t) ?_
  unfold F_spec_target
  refine nw h ?_; clear h; (try clear w); intro b1 w h
  ((try dsimp only [setN] at h); repeat (first | refine nn ?_ | (refine dr h ?_; clear h; (try clear w); intro w h) | refine ldC h ?_ | refine laC h ?_ | refine ckC h ?_ | (refine stC h ?_; clear h; (try clear w); intro w h; (try dsimp only [putN, setN] at h))))
  have fin : ∀ {w}, St w0 ([Cl b1 T_api_Target [.string t.1, .string t.2.1, I t.2.2.1]] :: E) w →
      (L.ite (tagBad t.2.1) (fun w' => ∃ y, Value.int .i64 1 = RT.val (.one (.one (.int .i64))) y ∧ k y w') <|
        L.load (.one (.int .i64)) ((⟨b1, 0, none⟩ : Addr).add 2) fun (x13 : Int) =>
        L.callV Pr (.func (.func n_spec_span_has) #[.agg #[.int .i64 0, .int .i64 100]] #[]) [.int .i64 x13] (.one (.one (.bool))) fun (x14 : Bool) =>
        L.ite (!x14) (fun w' => ∃ y, Value.int .i64 2 = RT.val (.one (.one (.int .i64))) y ∧ k y w') <|
        fun w' => ∃ y, Value.int .i64 0 = RT.val (.one (.one (.int .i64))) y ∧ k y w') w := by
    intro w h
    refine it (fun hb => ?_) (fun hb => ?_)
    · have := hk w (dl0_ h)
      unfold tgE at this
      rw [if_pos hb] at this
      exact ⟨1, rfl, this⟩
    · ((try dsimp only [setN] at h); repeat (first | refine nn ?_ | (refine dr h ?_; clear h; (try clear w); intro w h) | refine ldC h ?_ | refine laC h ?_ | refine ckC h ?_ | (refine stC h ?_; clear h; (try clear w); intro w h; (try dsimp only [putN, setN] at h))))
      refine callV_of (fs := #[.agg #[.int .i64 0, .int .i64 100]]) (cs := #[]) E_spec_span_has (C_spec_span_has (0, 100, ()) t.2.2.1) ?_
      unfold F_spec_span_has
      refine nw h ?_; clear h; (try clear w); intro b2 w h
      ((try dsimp only [setN] at h); repeat (first | refine nn ?_ | (refine dr h ?_; clear h; (try clear w); intro w h) | refine ldC h ?_ | refine laC h ?_ | refine ckC h ?_ | (refine stC h ?_; clear h; (try clear w); intro w h; (try dsimp only [putN, setN] at h))))
      have fin2 : ∀ {w}, ∀ b : Bool, (b = decide (0 ≤ @id Int t.2.2.1 ∧ @id Int t.2.2.1 ≤ 100)) → St w0 ([Cl b2 T_spec_span [I 0, I 100]] :: [Cl b1 T_api_Target [.string t.1, .string t.2.1, I t.2.2.1]] :: E) w → (∃ x, Value.bool b = RT.val (.one (.one .bool)) x ∧
          (L.ite (!x) (fun w' => ∃ y, Value.int .i64 2 = RT.val (.one (.one (.int .i64))) y ∧ k y w') <| fun w' => ∃ y, Value.int .i64 0 = RT.val (.one (.one (.int .i64))) y ∧ k y w') w) := by
        intro w b e h
        refine ⟨b, rfl, ?_⟩
        have := hk w (dl0_ (dl0_ h))
        unfold tgE at this
        rw [if_neg (by simp [hb])] at this
        refine it (fun hx => ?_) (fun hx => ?_)
        · have hx : b = false := by simpa using hx
          rw [if_neg (of_decide_eq_false (e.symm.trans hx))] at this
          exact ⟨2, rfl, this⟩
        · have hx : b = true := by simpa using hx
          rw [if_pos (of_decide_eq_true (e.symm.trans hx))] at this
          exact ⟨0, rfl, this⟩
      refine it (fun h0 => ?_) (fun h0 => ?_)
      · have h0 := of_decide_eq_true h0
        ((try dsimp only [setN] at h); repeat (first | refine nn ?_ | (refine dr h ?_; clear h; (try clear w); intro w h) | refine ldC h ?_ | refine laC h ?_ | refine ckC h ?_ | (refine stC h ?_; clear h; (try clear w); intro w h; (try dsimp only [putN, setN] at h))))
        refine fin2 _ ?_ h
        exact decide_eq_decide.2 ⟨fun hh => ⟨h0, hh⟩, fun hh => hh.2⟩
      · have h0 := of_decide_eq_false h0
        exact fin2 _ (decide_eq_false fun hh => h0 hh.1).symm h
  have tag : ∀ {w} {k4 : Bool × Unit → PT}, (∀ w', St w0 ([Cl b1 T_api_Target [.string t.1, .string t.2.1, I t.2.2.1]] :: E) w' → k4 (tagBad t.2.1, ()) w') → St w0 ([Cl b1 T_api_Target [.string t.1, .string t.2.1, I t.2.2.1]] :: E) w →
      (L.load (.one (.str)) ((⟨b1, 0, none⟩ : Addr).add 1) fun (x7 : ByteArray) =>
        L.ite (!(x7.toList == s_.toList)) (
          L.load (.one (.str)) ((⟨b1, 0, none⟩ : Addr).add 1) fun (x8 : ByteArray) =>
          L.call Pr n_label_Tag [.string x8] (.one (.one (.bool))) fun (x9 : Bool) =>
          k4 (!x9, ())) <|
        k4 (false, ())) w := by
    intro w k4 hk4 h
    ((try dsimp only [setN] at h); repeat (first | refine nn ?_ | (refine dr h ?_; clear h; (try clear w); intro w h) | refine ldC h ?_ | refine laC h ?_ | refine ckC h ?_ | (refine stC h ?_; clear h; (try clear w); intro w h; (try dsimp only [putN, setN] at h))))
    rw [str_eq]
    refine it (fun hb => ?_) (fun hb => ?_)
    · have hb : decide (t.2.1 = s_) = false := by simpa using hb
      ((try dsimp only [setN] at h); repeat (first | refine nn ?_ | (refine dr h ?_; clear h; (try clear w); intro w h) | refine ldC h ?_ | refine laC h ?_ | refine ckC h ?_ | (refine stC h ?_; clear h; (try clear w); intro w h; (try dsimp only [putN, setN] at h))))
      refine S_Tag h und_str fun w h => ?_
      have := hk4 w h
      unfold tagBad at this
      rw [hb] at this
      exact this
    · have hb : decide (t.2.1 = s_) = true := by simpa using hb
      have := hk4 w h
      unfold tagBad at this
      rw [hb] at this
      exact this
  rcases hr with hr | ⟨c, g, hc, h1, hg, hr⟩
  · rw [hr] at h fin tag ⊢
    refine S_Split0 ?_
    refine join_of (fun z w => z = (tagBad t.2.1, ()) ∧ St w0 ([Cl b1 T_api_Target [.string s_, .string t.2.1, I t.2.2.1]] :: E) w) (fun k4 hk4 => ?_) (fun z w ⟨hz, h⟩ => by subst hz; exact fin h)
    ((try dsimp only [setN] at h); repeat (first | refine nn ?_ | (refine dr h ?_; clear h; (try clear w); intro w h) | refine ldC h ?_ | refine laC h ?_ | refine ckC h ?_ | (refine stC h ?_; clear h; (try clear w); intro w h; (try dsimp only [putN, setN] at h))))
    refine itF (by simp) ?_
    exact tag (fun w h => hk4 _ w ⟨rfl, h⟩) h
  · rw [hr] at h fin tag ⊢
    refine S_Split h und_str hc h1 hg fun w h => ?_
    refine join_of (fun z w => z = (tagBad t.2.1, ()) ∧ St w0 ([Cl b1 T_api_Target [.string (revB c g), .string t.2.1, I t.2.2.1]] :: E) w) (fun k4 hk4 => ?_) (fun z w ⟨hz, h⟩ => by subst hz; exact fin h)
    ((try dsimp only [setN] at h); repeat (first | refine nn ?_ | (refine dr h ?_; clear h; (try clear w); intro w h) | refine ldC h ?_ | refine laC h ?_ | refine ckC h ?_ | (refine stC h ?_; clear h; (try clear w); intro w h; (try dsimp only [putN, setN] at h))))
    refine itT (by rw [str_eq]; simp [rev_ne c hg]) (itF rfl ?_)
    exact tag (fun w h => hk4 _ w ⟨rfl, h⟩) h
end Go.Proofs.YtpnbgpolbjbhpaaGreatDoor
namespace Go.Proofs.YtpnbgpolbjbhpaaGreatDoor
open Go.Dm
attribute [local irreducible] L.load L.store L.chk L.new L.nonnil L.guard L.ite L.draw L.idx L.sem L.semR L.semU L.chkSem L.next L.call L.callV L.join L.alts L.loop L.begin L.endRound L.range
variable {w0 w : World} {E : List Seg}
abbrev tagIs (g : ByteArray) (x : Tgt) : Bool := decide (x.2.1 = g)
theorem S_Contains {b : Nat} {t : Tgt} (h : St w0 ([Cl b T_api_Target (eT t)] :: E) w) {v : Sl} {ts : List Tgt} (r : RdE w0 E eT v ts) (hn : ts.length < 1000000) {k : Bool → PT} (hk : ∀ w', St w0 ([Cl b T_api_Target (eT t)] :: E) w' → k (ts.any (tagIs t.2.1)) w') :
    L.call Pr n_slices_ContainsFunc_api_Target_api_Target [.slice v.a v.len v.cap, .func (.func n_spec_all_1) #[] #[.pointer (some ⟨b, 0, none⟩)]] (.one (.one .bool)) k w := by
  refine call_of (C_slices_ContainsFunc_api_Target_api_Target v ⟨.func n_spec_all_1, #[], #[.pointer (some ⟨b, 0, none⟩)]⟩) ?_
  unfold F_slices_ContainsFunc_api_Target_api_Target
  refine call_of (C_slices_IndexFunc_api_Target_api_Target v ⟨.func n_spec_all_1, #[], #[.pointer (some ⟨b, 0, none⟩)]⟩) ?_
  unfold F_slices_IndexFunc_api_Target_api_Target
  have hl := (r w (dl0_ h)).len
  refine loop_of (fun q y w => ∃ i : Nat, y = ((i : Int), ()) ∧ q + i = ts.length ∧ (ts.take i).any (tagIs t.2.1) = false ∧ St w0 ([Cl b T_api_Target (eT t)] :: E) w) ts.length ⟨0, rfl, rfl, rfl, h⟩ ?_
  clear h; (try clear w)
  rintro q y w ⟨i, rfl, hq, hno, h⟩ again hag
  dsimp only
  refine it (fun hb => ?_) (fun hb => ?_) <;> (try simp only [decide_eq_true_eq, decide_eq_false_iff_not, beq_iff_eq, bne_iff_ne, beq_eq_false_iff_ne, bne_eq_false_iff_eq, Bool.not_eq_true', Bool.not_eq_false', ne_eq, Bool.not_eq_true, Bool.not_eq_false] at hb)
  · have hi : i < ts.length := by omega
    have hx : ts[i]? = some ts[i] := List.getElem?_eq_getElem hi
    generalize ts[i] = x at hx
    have rr := r w (dl0_ h)
    refine rr.ix encT (by omega) (by simpa using hi) fun a ha => ?_
    rw [Int.toNat_natCast] at ha
    refine rr.lda encT ha hx rfl ?_
    refine callV_of (fs := #[]) (cs := #[.pointer (some ⟨b, 0, none⟩)]) E_spec_all_1 (C_spec_all_1 x ⟨b, 0, none⟩) ?_
    unfold F_spec_all_1
    have h : St w0 ([Cl b T_api_Target [.string t.1, .string t.2.1, I t.2.2.1]] :: E) w := h
    refine nw h ?_; clear h; (try clear w); intro b1 w h
    ((try dsimp only [setN] at h); repeat (first | refine nn ?_ | (refine dr h ?_; clear h; (try clear w); intro w h) | refine ldC h ?_ | refine laC h ?_ | refine ckC h ?_ | (refine stC h ?_; clear h; (try clear w); intro w h; (try dsimp only [putN, setN] at h))))
    refine ⟨_, rfl, ?_⟩
    have h : St w0 ([Cl b T_api_Target (eT t)] :: E) w := dl0_ h
    rw [str_eq]
    refine it (fun hc => ?_) (fun hc => ?_)
    · refine ⟨_, rfl, _, rfl, ?_⟩
      have e : ts.any (tagIs t.2.1) = true := List.any_eq_true.2 ⟨x, List.mem_of_getElem? hx, hc⟩
      have := hk w h
      rw [e] at this
      rw [decide_eq_true (show (i : Int) ≥ 0 by omega)]
      exact this
    · rw [wr (by omega) (by omega)]
      refine hag (q - 1) _ w (by omega) ⟨i + 1, by simp, by omega, ?_, h⟩
      rw [List.take_add_one, hx, List.any_append, hno]
      simpa using hc
  · have e : ts.take i = ts := List.take_of_length_le (by omega)
    rw [e] at hno
    refine ⟨_, rfl, _, rfl, ?_⟩
    have := hk w h
    rw [hno] at this
    exact this
def twiceAt (ts : List Tgt) (i : Nat) : Bool := match ts[i]? with
  | some t => !decide (t.2.1 = s_) && (ts.take i).any (tagIs t.2.1)
  | none => false
def pct (t : Tgt) : Int := t.2.2.1
def allE (ts : List Tgt) : Int := if (List.range ts.length).any (twiceAt ts) = true then 5 else if (ts.map pct).sum = 100 then 0 else 4
theorem sum_le {l : List Tgt} (h : ∀ t ∈ l, 0 ≤ pct t ∧ pct t ≤ 100) : 0 ≤ (l.map pct).sum ∧ (l.map pct).sum ≤ 100 * l.length := by
  induction l with
  | nil => simp
  | cons t l ih =>
    have h1 := h t (by simp)
    have h2 := ih fun x hx => h x (by simp [hx])
    simp only [List.map_cons, List.sum_cons, List.length_cons]
    omega
theorem S_spAll (h : St w0 E w) {v : Sl} {ts : List Tgt} (r : RdE w0 E eT v ts) (hvc : v.len ≤ v.cap) (hn : ts.length ≤ 1000) (hp : ∀ t ∈ ts, 0 ≤ pct t ∧ pct t ≤ 100) {k : Int → PT} (hk : ∀ w', St w0 E w' → k (allE ts) w') :
    L.call Pr n_spec_all [.slice v.a v.len v.cap] (.one (.one (.int .i64))) k w := by
  refine call_of (C_spec_all v) ?_
  unfold F_spec_all
  have hl := (r w h).len
  refine loop_of (fun q y w => ∃ i : Nat, y = (((ts.take i).map pct).sum, (i : Int), ()) ∧ q + i = ts.length ∧ (List.range i).any (twiceAt ts) = false ∧ St w0 E w) ts.length ⟨0, rfl, rfl, rfl, h⟩ ?_
  clear h; (try clear w)
  rintro q y w ⟨i, rfl, hq, hno, h⟩ again hag
  dsimp only
  refine it (fun hb => ?_) (fun hb => ?_) <;> (try simp only [decide_eq_true_eq, decide_eq_false_iff_not, beq_iff_eq, bne_iff_ne, beq_eq_false_iff_ne, bne_eq_false_iff_eq, Bool.not_eq_true', Bool.not_eq_false', ne_eq, Bool.not_eq_true, Bool.not_eq_false] at hb)
  · have hi : i < ts.length := by omega
    have hx : ts[i]? = some ts[i] := List.getElem?_eq_getElem hi
    generalize ts[i] = t at hx
    have ht := hp t (List.mem_of_getElem? hx)
    have hs := sum_le (l := ts.take i) fun x hx => hp x (List.mem_of_mem_take hx)
    rw [List.length_take] at hs
    have es : ((ts.take (i + 1)).map pct).sum = ((ts.take i).map pct).sum + pct t := by rw [List.take_add_one, hx]; simp
    have tw : twiceAt ts i = (!decide (t.2.1 = s_) && (ts.take i).any (tagIs t.2.1)) := by unfold twiceAt; rw [hx]
    have next : ∀ {w}, twiceAt ts i = false → St w0 E w → again (IntKind.wrap .i64 (((ts.take i).map pct).sum + pct t), IntKind.wrap .i64 ((i : Int) + 1), ()) w := by
      intro w hf h
      rw [wr (by omega) (by omega), wr (by omega) (by omega)]
      refine hag (q - 1) _ w (by omega) ⟨i + 1, by rw [es]; simp, by omega, ?_, h⟩
      rw [List.range_succ, List.any_append, hno]; simp [hf]
    refine jd ?_
    have rr := r w h
    refine rr.ix encT (by omega) (by simpa using hi) fun a ha => ?_
    rw [Int.toNat_natCast] at ha
    refine rr.lda encT ha hx rfl ?_
    refine nw h ?_; clear h; (try clear w); intro b7 w h
    ((try dsimp only [setN] at h); repeat (first | refine nn ?_ | (refine dr h ?_; clear h; (try clear w); intro w h) | refine ldC h ?_ | refine laC h ?_ | refine ckC h ?_ | (refine stC h ?_; clear h; (try clear w); intro w h; (try dsimp only [putN, setN] at h))))
    rw [str_eq]
    refine it (fun hc => ?_) (fun hc => ?_)
    · refine gd (by omega) ?_
      have hc : decide (t.2.1 = s_) = false := by simpa using hc
      rw [hc] at tw
      have h : St w0 ([Cl b7 T_api_Target (eT t)] :: E) w := h
      have r2 : RdE w0 E eT ⟨if Int.toNat ((v.cap : Nat) : Int) = Int.toNat (0 : Int) then v.a else Option.map (fun a : Addr => a.add (Int.toNat (0 : Int) * 3)) v.a, Int.toNat (i : Int) - Int.toNat (0 : Int), Int.toNat ((v.cap : Nat) : Int) - Int.toNat (0 : Int)⟩ (ts.take i) := by
        intro w h
        have := (r w h).cut encT 0 i (by omega) (by omega) hvc (v.cap - 0)
        simpa using this
      refine S_Contains h r2 (by rw [List.length_take]; omega) fun w h => ?_
      refine it (fun hd => ?_) (fun hd => ?_)
      · have e : (List.range ts.length).any (twiceAt ts) = true := List.any_eq_true.2 ⟨i, List.mem_range.2 hi, by rw [tw, hd]; rfl⟩
        have := hk w (dl0_ h)
        unfold allE at this
        rw [if_pos e] at this
        exact ⟨_, rfl, this⟩
      · have hd : (ts.take i).any (tagIs t.2.1) = false := by simpa using hd
        exact next (by rw [tw, hd]; rfl) (dl0_ h)
    · have hc : decide (t.2.1 = s_) = true := by simpa using hc
      exact next (by rw [tw, hc]; rfl) (dl0_ h)
  · have e : ts.take i = ts := List.take_of_length_le (by omega)
    have ei : i = ts.length := by omega
    rw [e]
    rw [ei] at hno
    have := hk w h
    unfold allE at this
    rw [if_neg (by simp [hno])] at this
    refine it (fun hs => ?_) (fun hs => ?_) <;> (try simp only [decide_eq_true_eq, decide_eq_false_iff_not, beq_iff_eq, bne_iff_ne, beq_eq_false_iff_ne, bne_eq_false_iff_eq, Bool.not_eq_true', Bool.not_eq_false', ne_eq, Bool.not_eq_true, Bool.not_eq_false] at hs)
    · rw [if_neg hs] at this; exact ⟨_, rfl, this⟩
    · rw [if_pos hs] at this; exact ⟨_, rfl, this⟩
end Go.Proofs.YtpnbgpolbjbhpaaGreatDoor
namespace Go.Proofs.YtpnbgpolbjbhpaaGreatDoor
open Go.Dm
attribute [local irreducible] L.load L.store L.chk L.new L.nonnil L.guard L.ite L.draw L.idx L.sem L.semR L.semU L.chkSem L.next L.call L.callV L.join L.alts L.loop L.begin L.endRound L.range
variable {w0 w : World} {E : List Seg}
def specE (a : ARt) : Int :=
  if shortB a.name.data.toList 16 = true ∧ shortB a.cfg.data.toList 16 = true then
    if 0 ≤ a.roll ∧ a.roll ≤ 60 then
      if 1 ≤ a.ts.length ∧ a.ts.length ≤ 6 then
        match a.ts.find? fun t => decide (tgE t ≠ 0) with
        | some t => tgE t
        | none => allE a.ts
      else 3
    else 2
  else 1
theorem tg_pct {t : Tgt} (h : tgE t = 0) : 0 ≤ pct t ∧ pct t ≤ 100 := by
  unfold tgE at h
  split at h
  · cases h
  · split at h
    · rename_i h2; exact h2
    · cases h
theorem S_specR (h : St w0 E w) {a : ARt} {v : Sl} (r : RdE w0 E eT v a.ts) (hvc : v.len ≤ v.cap) (hr : ∀ t ∈ a.ts, revOk t.1) {k : Int → PT} (hk : ∀ w', St w0 E w' → k (specE a) w') :
    L.call Pr n_spec_Route [.agg #[.string a.name, .string a.cfg, .slice v.a v.len v.cap, I a.roll]] (.one (.one (.int .i64))) k w := by
  refine call_of (C_spec_Route (a.name, a.cfg, v, a.roll, ())) ?_
  unfold F_spec_Route
  have hl := (r w h).len
  refine nw h ?_; clear h; (try clear w); intro b1 w h
  unfold specE at hk
  refine join_of (fun z w => z = (!(shortB a.name.data.toList 16 && shortB a.cfg.data.toList 16), ()) ∧ St w0 ([Cl b1 T_api_Route [.string a.name, .string a.cfg, .slice v.a v.len v.cap, I a.roll]] :: E) w) (fun k2 hk2 => ?_) (fun z w ⟨hz, h⟩ => ?_)
  · ((try dsimp only [setN] at h); repeat (first | refine nn ?_ | (refine dr h ?_; clear h; (try clear w); intro w h) | refine ldC h ?_ | refine laC h ?_ | refine ckC h ?_ | (refine stC h ?_; clear h; (try clear w); intro w h; (try dsimp only [putN, setN] at h))))
    refine S_Name h und_str fun w h => ?_
    refine it (fun hc => ?_) (fun hc => ?_)
    · have hc : shortB a.name.data.toList 16 = false := by simpa using hc
      rw [hc] at hk2 ⊢
      exact hk2 _ w ⟨rfl, h⟩
    · have hc : shortB a.name.data.toList 16 = true := by simpa using hc
      rw [hc] at hk2
      ((try dsimp only [setN] at h); repeat (first | refine nn ?_ | (refine dr h ?_; clear h; (try clear w); intro w h) | refine ldC h ?_ | refine laC h ?_ | refine ckC h ?_ | (refine stC h ?_; clear h; (try clear w); intro w h; (try dsimp only [putN, setN] at h))))
      refine S_Name h und_str fun w h => ?_
      exact hk2 _ w ⟨by simp, h⟩
  · subst hz
    dsimp only
    have out : ∀ {w} {x : Int}, (∀ w', St w0 E w' → k x w') → St w0 ([Cl b1 T_api_Route [.string a.name, .string a.cfg, .slice v.a v.len v.cap, I a.roll]] :: E) w → ∃ y, I x = RT.val (.one (.one (.int .i64))) y ∧ k y w := fun hx h => ⟨_, rfl, hx _ (dl0_ h)⟩
    refine it (fun hc => ?_) (fun hc => ?_)
    · have hc : (shortB a.name.data.toList 16 && shortB a.cfg.data.toList 16) = false := (Bool.not_eq_true' _).mp hc
      rw [if_neg (fun hh => by rw [hh.1, hh.2] at hc; cases hc)] at hk
      exact out hk h
    rw [if_pos (by simpa using hc)] at hk
    ((try dsimp only [setN] at h); repeat (first | refine nn ?_ | (refine dr h ?_; clear h; (try clear w); intro w h) | refine ldC h ?_ | refine laC h ?_ | refine ckC h ?_ | (refine stC h ?_; clear h; (try clear w); intro w h; (try dsimp only [putN, setN] at h))))
    refine S_has h fun w h => ?_
    refine it (fun hc => ?_) (fun hc => ?_)
    · have hc := of_decide_eq_false ((Bool.not_eq_true' _).mp hc)
      rw [if_neg hc] at hk
      exact out hk h
    rw [if_pos (by simpa using hc)] at hk
    ((try dsimp only [setN] at h); repeat (first | refine nn ?_ | (refine dr h ?_; clear h; (try clear w); intro w h) | refine ldC h ?_ | refine laC h ?_ | refine ckC h ?_ | (refine stC h ?_; clear h; (try clear w); intro w h; (try dsimp only [putN, setN] at h))))
    refine S_has h fun w h => ?_
    refine it (fun hc => ?_) (fun hc => ?_)
    · have hc := of_decide_eq_false (show decide (1 ≤ ((v.len : Nat) : Int) ∧ ((v.len : Nat) : Int) ≤ 6) = false from (Bool.not_eq_true' _).mp hc)
      rw [if_neg (by omega)] at hk
      exact out hk h
    have hc := of_decide_eq_true (show decide (1 ≤ ((v.len : Nat) : Int) ∧ ((v.len : Nat) : Int) ≤ 6) = true by simpa using hc)
    rw [if_pos (by omega)] at hk
    ((try dsimp only [setN] at h); repeat (first | refine nn ?_ | (refine dr h ?_; clear h; (try clear w); intro w h) | refine ldC h ?_ | refine laC h ?_ | refine ckC h ?_ | (refine stC h ?_; clear h; (try clear w); intro w h; (try dsimp only [putN, setN] at h))))
    refine loop_of (fun q y w => ∃ i : Nat, y = ((i : Int), ()) ∧ q + i = a.ts.length ∧ (a.ts.take i).find? (fun t => decide (tgE t ≠ 0)) = none ∧ St w0 ([Cl b1 T_api_Route [.string a.name, .string a.cfg, .slice v.a v.len v.cap, I a.roll]] :: E) w) a.ts.length ⟨0, rfl, rfl, rfl, h⟩ ?_
    clear h; (try clear w)
    rintro q y w ⟨i, rfl, hq, hno, h⟩ again hag
    dsimp only
    refine it (fun hb => ?_) (fun hb => ?_) <;> (try simp only [decide_eq_true_eq, decide_eq_false_iff_not, beq_iff_eq, bne_iff_ne, beq_eq_false_iff_ne, bne_eq_false_iff_eq, Bool.not_eq_true', Bool.not_eq_false', ne_eq, Bool.not_eq_true, Bool.not_eq_false] at hb)
    · have hi : i < a.ts.length := by omega
      have hx : a.ts[i]? = some a.ts[i] := List.getElem?_eq_getElem hi
      have hdr : a.ts = a.ts.take i ++ a.ts[i] :: a.ts.drop (i + 1) := by rw [← List.drop_eq_getElem_cons hi, List.take_append_drop]
      generalize a.ts[i] = t at hx hdr
      have rr := r w (dl0_ h)
      refine rr.ix encT (by omega) (by simpa using hi) fun ad ha => ?_
      rw [Int.toNat_natCast] at ha
      refine rr.lda encT ha hx rfl ?_
      refine nw h ?_; clear h; (try clear w); intro b17 w h
      ((try dsimp only [setN] at h); repeat (first | refine nn ?_ | (refine dr h ?_; clear h; (try clear w); intro w h) | refine ldC h ?_ | refine laC h ?_ | refine ckC h ?_ | (refine stC h ?_; clear h; (try clear w); intro w h; (try dsimp only [putN, setN] at h))))
      refine S_target (t := t) h (hr t (List.mem_of_getElem? hx)) fun w h => ?_
      have h := dl0_ h
      refine it (fun hc => ?_) (fun hc => ?_)
      · have hc : tgE t ≠ 0 := by simpa using hc
        have e : a.ts.find? (fun t => decide (tgE t ≠ 0)) = some t := by
          rw [hdr, List.find?_append, hno]; simp [hc]
        rw [e] at hk
        exact out hk h
      · have hc : tgE t = 0 := by simpa using hc
        rw [wr (by omega) (by omega)]
        refine hag (q - 1) _ w (by omega) ⟨i + 1, by simp, by omega, ?_, h⟩
        rw [List.take_add_one, hx, List.find?_append, hno]; simp [hc]
    · have e : a.ts.take i = a.ts := List.take_of_length_le (by omega)
      rw [e] at hno
      rw [hno] at hk
      have hall : ∀ t ∈ a.ts, 0 ≤ pct t ∧ pct t ≤ 100 := fun t ht => tg_pct (by simpa using List.find?_eq_none.1 hno t ht)
      ((try dsimp only [setN] at h); repeat (first | refine nn ?_ | (refine dr h ?_; clear h; (try clear w); intro w h) | refine ldC h ?_ | refine laC h ?_ | refine ckC h ?_ | (refine stC h ?_; clear h; (try clear w); intro w h; (try dsimp only [putN, setN] at h))))
      refine S_spAll h (fun w h => r w (dl0_ h)) hvc (by omega) hall fun w h => ?_
      exact out hk h
end Go.Proofs.YtpnbgpolbjbhpaaGreatDoor
