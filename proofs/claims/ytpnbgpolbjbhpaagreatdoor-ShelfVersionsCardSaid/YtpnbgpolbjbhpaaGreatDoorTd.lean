/- Contracts of functions, and walks of laws (text Td). No conditions beyond those its theorems state. -/
import Derived.Test.YtpnbgpolbjbhpaaGreatDoorTa
import Derived.Laws.StructEq
import Derived.Test.YtpnbgpolbjbhpaaGreatDoorSe
set_option linter.all false
namespace Go.Proofs.YtpnbgpolbjbhpaaGreatDoor
open Go.Dm
attribute [local irreducible] L.load L.store L.chk L.new L.nonnil L.guard L.ite L.draw L.idx L.sem L.semR L.semU L.chkSem L.next L.call L.callV L.join L.alts L.loop L.begin L.endRound L.range
variable {w0 w : World} {E : List Seg}
/-- a field of a target -/
theorem rt {v : Sl} {l : List Tgt} (r : Rd w eT v l) {n : Int} {x : Tgt} (hx : l[n.toNat]? = some x) (h0 : 0 ≤ n) {f : Nat} {lf : Lf} {u : Value} {y : lf.T} {kk : lf.T → PT} (hu : nth (eT x) f = some u) (hy : un2 lf u = some y) (hk : kk y w) :
    L.idx v.a n v.len 3 (fun a => L.load (.one lf) (a.add f) kk) w :=
  r.ix encT h0 (List.getElem?_eq_some_iff.1 hx).1 fun a ha => r.ld encT ha hx hu hy hk
theorem S_rrev (h : St w0 E w) {r : ByteArray} {c : ByteArray} {g : Nat} (hc : shortB c.data.toList 16 = true) (h1 : 1 ≤ g) (hg : g < 100) (e : r = revB c g) {k : Bool → PT} (hk : ∀ w', St w0 E w' → k true w') : L.call Pr n_damperref2_revision [.string r] (.one (.one .bool)) k w := by
  subst e
  refine call_of (C_damperref2_revision _) ?_
  unfold F_damperref2_revision
  exact S_rSplit h hc h1 hg fun w h => ⟨true, rfl, hk w h⟩
theorem S_rRoute (h : St w0 E w) {a : ARt} {v : Sl} (r : RdE w0 E eT v a.ts) (hr : ∀ t ∈ a.ts, revOk t.1) {k : Int → PT} (hk : ∀ w', St w0 E w' → k (specE a) w') :
    L.call Pr n_damperref2_Route [.agg #[.string a.name, .string a.cfg, .slice v.a v.len v.cap, I a.roll]] (.one (.one (.int .i64))) k w := by
  refine call_of (C_damperref2_Route (a.name, a.cfg, v, a.roll, ())) ?_
  unfold F_damperref2_Route
  have hl := (r w h).len
  refine nw h ?_; clear h; (try clear w); intro b1 w h
  unfold specE at hk
  have out : ∀ {w} {x : Int}, (∀ w', St w0 E w' → k x w') → St w0 ([Cl b1 T_api_Route [.string a.name, .string a.cfg, .slice v.a v.len v.cap, I a.roll]] :: E) w → ∃ y, I x = RT.val (.one (.one (.int .i64))) y ∧ k y w := fun hx h => ⟨_, rfl, hx _ (dl0_ h)⟩
  ((try dsimp only [setN] at h); repeat (first | refine nn ?_ | (refine dr h ?_; clear h; (try clear w); intro w h) | refine ldC h ?_ | refine laC h ?_ | refine ckC h ?_ | (refine stC h ?_; clear h; (try clear w); intro w h; (try dsimp only [putN, setN] at h))))
  refine S_rName h fun w h => ?_
  refine it (fun hc => ?_) (fun hc => ?_)
  · have hc : shortB a.name.data.toList 16 = false := (Bool.not_eq_true' _).mp hc
    rw [if_neg (fun hh => by rw [hh.1] at hc; cases hc)] at hk
    exact out hk h
  have hc1 : shortB a.name.data.toList 16 = true := by simpa using hc
  clear hc
  ((try dsimp only [setN] at h); repeat (first | refine nn ?_ | (refine dr h ?_; clear h; (try clear w); intro w h) | refine ldC h ?_ | refine laC h ?_ | refine ckC h ?_ | (refine stC h ?_; clear h; (try clear w); intro w h; (try dsimp only [putN, setN] at h))))
  refine S_rName h fun w h => ?_
  refine it (fun hc => ?_) (fun hc => ?_)
  · have hc : shortB a.cfg.data.toList 16 = false := (Bool.not_eq_true' _).mp hc
    rw [if_neg (fun hh => by rw [hh.2] at hc; cases hc)] at hk
    exact out hk h
  have hc2 : shortB a.cfg.data.toList 16 = true := by simpa using hc
  clear hc
  rw [if_pos ⟨hc1, hc2⟩] at hk
  ((try dsimp only [setN] at h); repeat (first | refine nn ?_ | (refine dr h ?_; clear h; (try clear w); intro w h) | refine ldC h ?_ | refine laC h ?_ | refine ckC h ?_ | (refine stC h ?_; clear h; (try clear w); intro w h; (try dsimp only [putN, setN] at h))))
  refine it (fun hc => ?_) (fun hc => ?_)
  · have hc : a.roll < 0 := of_decide_eq_true hc
    rw [if_neg (by omega)] at hk
    exact out hk h
  have hc3 : ¬ a.roll < 0 := of_decide_eq_false hc
  clear hc
  ((try dsimp only [setN] at h); repeat (first | refine nn ?_ | (refine dr h ?_; clear h; (try clear w); intro w h) | refine ldC h ?_ | refine laC h ?_ | refine ckC h ?_ | (refine stC h ?_; clear h; (try clear w); intro w h; (try dsimp only [putN, setN] at h))))
  refine it (fun hc => ?_) (fun hc => ?_)
  · have hc : a.roll > 60 := of_decide_eq_true hc
    rw [if_neg (by omega)] at hk
    exact out hk h
  have hc4 : ¬ a.roll > 60 := of_decide_eq_false hc
  clear hc
  rw [if_pos (by omega)] at hk
  ((try dsimp only [setN] at h); repeat (first | refine nn ?_ | (refine dr h ?_; clear h; (try clear w); intro w h) | refine ldC h ?_ | refine laC h ?_ | refine ckC h ?_ | (refine stC h ?_; clear h; (try clear w); intro w h; (try dsimp only [putN, setN] at h))))
  refine it (fun hc => ?_) (fun hc => ?_)
  · have hc : ((v.len : Nat) : Int) < 1 := of_decide_eq_true hc
    rw [if_neg (by omega)] at hk
    exact out hk h
  have hc5 : ¬ ((v.len : Nat) : Int) < 1 := of_decide_eq_false hc
  clear hc
  ((try dsimp only [setN] at h); repeat (first | refine nn ?_ | (refine dr h ?_; clear h; (try clear w); intro w h) | refine ldC h ?_ | refine laC h ?_ | refine ckC h ?_ | (refine stC h ?_; clear h; (try clear w); intro w h; (try dsimp only [putN, setN] at h))))
  refine it (fun hc => ?_) (fun hc => ?_)
  · have hc : ((v.len : Nat) : Int) > 6 := of_decide_eq_true hc
    rw [if_neg (by omega)] at hk
    exact out hk h
  have hc6 : ¬ ((v.len : Nat) : Int) > 6 := of_decide_eq_false hc
  clear hc
  rw [if_pos (by omega)] at hk
  refine loop_of (fun q y w => ∃ i : Nat, y = ((i : Int), ()) ∧ q + i = a.ts.length ∧ (a.ts.take i).find? (fun t => decide (tgE t ≠ 0)) = none ∧ St w0 ([Cl b1 T_api_Route [.string a.name, .string a.cfg, .slice v.a v.len v.cap, I a.roll]] :: E) w) a.ts.length ⟨0, rfl, rfl, rfl, h⟩ ?_
  clear h; (try clear w)
  rintro q y w ⟨i, rfl, hq, hno, h⟩ again hag
  dsimp only
  ((try dsimp only [setN] at h); repeat (first | refine nn ?_ | (refine dr h ?_; clear h; (try clear w); intro w h) | refine ldC h ?_ | refine laC h ?_ | refine ckC h ?_ | (refine stC h ?_; clear h; (try clear w); intro w h; (try dsimp only [putN, setN] at h))))
  refine it (fun hb => ?_) (fun hb => ?_) <;> (try simp only [decide_eq_true_eq, decide_eq_false_iff_not, beq_iff_eq, bne_iff_ne, beq_eq_false_iff_ne, bne_eq_false_iff_eq, Bool.not_eq_true', Bool.not_eq_false', ne_eq, Bool.not_eq_true, Bool.not_eq_false] at hb)
  · have hi : i < a.ts.length := by omega
    have hx : a.ts[i]? = some a.ts[i] := List.getElem?_eq_getElem hi
    have hdr : a.ts = a.ts.take i ++ a.ts[i] :: a.ts.drop (i + 1) := by rw [← List.drop_eq_getElem_cons hi, List.take_append_drop]
    generalize a.ts[i] = t at hx hdr
    have hrv := hr t (List.mem_of_getElem? hx)
    have bad : ∀ {w}, ∀ x : Int, tgE t = x → x ≠ 0 → St w0 ([Cl b1 T_api_Route [.string a.name, .string a.cfg, .slice v.a v.len v.cap, I a.roll]] :: E) w → ∃ y, I x = RT.val (.one (.one (.int .i64))) y ∧ k y w := by
      intro w x hx hx0 h
      have e : a.ts.find? (fun t => decide (tgE t ≠ 0)) = some t := by
        rw [hdr, List.find?_append, hno]; simp [hx, hx0]
      rw [e] at hk
      simp only [hx] at hk
      exact out hk h
    ((try dsimp only [setN] at h); repeat (first | refine nn ?_ | (refine dr h ?_; clear h; (try clear w); intro w h) | refine ldC h ?_ | refine laC h ?_ | refine ckC h ?_ | (refine stC h ?_; clear h; (try clear w); intro w h; (try dsimp only [putN, setN] at h))))
    have rr := r w (dl0_ h)
    refine rr.ix encT (by omega) (by simpa using hi) fun ad ha => ?_
    rw [Int.toNat_natCast] at ha
    refine rr.lda encT ha hx rfl ?_
    refine nw h ?_; clear h; (try clear w); intro b16 w h
    ((try dsimp only [setN] at h); repeat (first | refine nn ?_ | (refine dr h ?_; clear h; (try clear w); intro w h) | refine ldC h ?_ | refine laC h ?_ | refine ckC h ?_ | (refine stC h ?_; clear h; (try clear w); intro w h; (try dsimp only [putN, setN] at h))))
    refine join_of (fun z w => tagBad t.2.1 = false ∧ St w0 ([Cl b16 T_api_Target [.string t.1, .string t.2.1, I t.2.2.1]] :: [Cl b1 T_api_Route [.string a.name, .string a.cfg, .slice v.a v.len v.cap, I a.roll]] :: E) w) (fun k17 hk17 => ?_) (fun z w ⟨htb, h⟩ => ?_)
    · have tag : ∀ {w}, St w0 ([Cl b16 T_api_Target [.string t.1, .string t.2.1, I t.2.2.1]] :: [Cl b1 T_api_Route [.string a.name, .string a.cfg, .slice v.a v.len v.cap, I a.roll]] :: E) w →
          (L.load (.one (.str)) ((⟨b16, 0, none⟩ : Addr).add 1) fun (x22 : ByteArray) =>
            L.ite (!(x22.toList == s_.toList)) (
              L.load (.one (.str)) ((⟨b16, 0, none⟩ : Addr).add 1) fun (x23 : ByteArray) =>
              L.call Pr n_damperref1_Tag [.string x23] (.one (.one (.bool))) fun (x24 : Bool) =>
              L.ite (!x24) (fun w' => ∃ y, Value.int .i64 1 = RT.val (.one (.one (.int .i64))) y ∧ k y w') <|
              k17 (())) <|
            k17 (())) w := by
        intro w h
        ((try dsimp only [setN] at h); repeat (first | refine nn ?_ | (refine dr h ?_; clear h; (try clear w); intro w h) | refine ldC h ?_ | refine laC h ?_ | refine ckC h ?_ | (refine stC h ?_; clear h; (try clear w); intro w h; (try dsimp only [putN, setN] at h))))
        rw [str_eq]
        refine it (fun hb => ?_) (fun hb => ?_)
        · have hb : decide (t.2.1 = s_) = false := by simpa using hb
          ((try dsimp only [setN] at h); repeat (first | refine nn ?_ | (refine dr h ?_; clear h; (try clear w); intro w h) | refine ldC h ?_ | refine laC h ?_ | refine ckC h ?_ | (refine stC h ?_; clear h; (try clear w); intro w h; (try dsimp only [putN, setN] at h))))
          refine S_rTag h fun w h => ?_
          refine it (fun hc => ?_) (fun hc => ?_)
          · refine bad 1 ?_ (by decide) (dl0_ h)
            unfold tgE tagBad
            rw [hb, hc]; rfl
          · have hc : shortB (ByteArray.data t.2.1).toList 8 = true := by simpa using hc
            refine hk17 _ w ⟨?_, h⟩
            unfold tagBad
            rw [hb, hc]; rfl
        · have hb : decide (t.2.1 = s_) = true := by simpa using hb
          refine hk17 _ w ⟨?_, h⟩
          unfold tagBad
          rw [hb]; rfl
      rcases hrv with hrv | ⟨c, g, hc, h1, hg, hrv⟩
      · ((try dsimp only [setN] at h); repeat (first | refine nn ?_ | (refine dr h ?_; clear h; (try clear w); intro w h) | refine ldC h ?_ | refine laC h ?_ | refine ckC h ?_ | (refine stC h ?_; clear h; (try clear w); intro w h; (try dsimp only [putN, setN] at h))))
        refine itF (by rw [hrv]; simp) ?_
        exact tag h
      · ((try dsimp only [setN] at h); repeat (first | refine nn ?_ | (refine dr h ?_; clear h; (try clear w); intro w h) | refine ldC h ?_ | refine laC h ?_ | refine ckC h ?_ | (refine stC h ?_; clear h; (try clear w); intro w h; (try dsimp only [putN, setN] at h))))
        refine itT (by rw [str_eq, hrv]; simp [rev_ne c hg]) ?_
        ((try dsimp only [setN] at h); repeat (first | refine nn ?_ | (refine dr h ?_; clear h; (try clear w); intro w h) | refine ldC h ?_ | refine laC h ?_ | refine ckC h ?_ | (refine stC h ?_; clear h; (try clear w); intro w h; (try dsimp only [putN, setN] at h))))
        refine S_rrev h hc h1 hg hrv fun w h => itF rfl ?_
        exact tag h
    · have et : tgE t = if 0 ≤ @id Int t.2.2.1 ∧ @id Int t.2.2.1 ≤ 100 then 0 else 2 := by unfold tgE; rw [if_neg (by simp [htb])]
      ((try dsimp only [setN] at h); repeat (first | refine nn ?_ | (refine dr h ?_; clear h; (try clear w); intro w h) | refine ldC h ?_ | refine laC h ?_ | refine ckC h ?_ | (refine stC h ?_; clear h; (try clear w); intro w h; (try dsimp only [putN, setN] at h))))
      refine it (fun hc => ?_) (fun hc => ?_)
      · have hc := of_decide_eq_true hc
        refine bad 2 ?_ (by decide) (dl0_ h)
        rw [et, if_neg (fun hh => Int.not_lt.2 hh.1 hc)]
      have hc7 := of_decide_eq_false hc
      clear hc
      ((try dsimp only [setN] at h); repeat (first | refine nn ?_ | (refine dr h ?_; clear h; (try clear w); intro w h) | refine ldC h ?_ | refine laC h ?_ | refine ckC h ?_ | (refine stC h ?_; clear h; (try clear w); intro w h; (try dsimp only [putN, setN] at h))))
      refine it (fun hc => ?_) (fun hc => ?_)
      · have hc := of_decide_eq_true hc
        refine bad 2 ?_ (by decide) (dl0_ h)
        rw [et, if_neg (fun hh => Int.not_lt.2 hh.2 hc)]
      have hc8 := of_decide_eq_false hc
      have hc : tgE t = 0 := by rw [et, if_pos ⟨Int.not_lt.1 hc7, Int.not_lt.1 hc8⟩]
      rw [wr (by omega) (by omega)]
      refine hag (q - 1) _ w (by omega) ⟨i + 1, by simp, by omega, ?_, dl0_ h⟩
      rw [List.take_add_one, hx, List.find?_append, hno]; simp [hc]
  · have e : a.ts.take i = a.ts := List.take_of_length_le (by omega)
    rw [e] at hno
    rw [hno] at hk
    have hp : ∀ t ∈ a.ts, 0 ≤ pct t ∧ pct t ≤ 100 := fun t ht => tg_pct (by simpa using List.find?_eq_none.1 hno t ht)
    clear hag again hq hb hno e
    refine loop_of (fun q y w => ∃ i : Nat, y = (((a.ts.take i).map pct).sum, (i : Int), ()) ∧ q + i = a.ts.length ∧ (List.range i).any (twiceAt a.ts) = false ∧ St w0 ([Cl b1 T_api_Route [.string a.name, .string a.cfg, .slice v.a v.len v.cap, I a.roll]] :: E) w) a.ts.length ⟨0, rfl, rfl, rfl, h⟩ ?_
    clear h; (try clear w)
    rintro q y w ⟨i, rfl, hq, hno, h⟩ again hag
    dsimp only
    ((try dsimp only [setN] at h); repeat (first | refine nn ?_ | (refine dr h ?_; clear h; (try clear w); intro w h) | refine ldC h ?_ | refine laC h ?_ | refine ckC h ?_ | (refine stC h ?_; clear h; (try clear w); intro w h; (try dsimp only [putN, setN] at h))))
    refine it (fun hb => ?_) (fun hb => ?_) <;> (try simp only [decide_eq_true_eq, decide_eq_false_iff_not, beq_iff_eq, bne_iff_ne, beq_eq_false_iff_ne, bne_eq_false_iff_eq, Bool.not_eq_true', Bool.not_eq_false', ne_eq, Bool.not_eq_true, Bool.not_eq_false] at hb)
    · have hi : i < a.ts.length := by omega
      have hx : a.ts[i]? = some a.ts[i] := List.getElem?_eq_getElem hi
      generalize a.ts[i] = t at hx
      have ht := hp t (List.mem_of_getElem? hx)
      have hs := sum_le (l := a.ts.take i) fun x hx => hp x (List.mem_of_mem_take hx)
      rw [List.length_take] at hs
      have es : ((a.ts.take (i + 1)).map pct).sum = ((a.ts.take i).map pct).sum + pct t := by rw [List.take_add_one, hx]; simp
      have tw : twiceAt a.ts i = (!decide (t.2.1 = s_) && (a.ts.take i).any (tagIs t.2.1)) := by unfold twiceAt; rw [hx]
      ((try dsimp only [setN] at h); repeat (first | refine nn ?_ | (refine dr h ?_; clear h; (try clear w); intro w h) | refine ldC h ?_ | refine laC h ?_ | refine ckC h ?_ | (refine stC h ?_; clear h; (try clear w); intro w h; (try dsimp only [putN, setN] at h))))
      refine rt (r w (dl0_ h)) (by simpa using hx) (by omega) (u := I t.2.2.1) rfl rfl ?_
      refine loop_of (fun q y w => ∃ j : Nat, y = ((j : Int), ()) ∧ q + j = i ∧ (!decide (t.2.1 = s_) && (a.ts.take j).any (tagIs t.2.1)) = false ∧ St w0 ([Cl b1 T_api_Route [.string a.name, .string a.cfg, .slice v.a v.len v.cap, I a.roll]] :: E) w) i ⟨0, rfl, rfl, by simp, h⟩ ?_
      clear h; (try clear w)
      rintro q2 y w ⟨j, rfl, hq2, hno2, h⟩ again2 hag2
      dsimp only
      refine it (fun hj => ?_) (fun hj => ?_) <;> (try simp only [decide_eq_true_eq, decide_eq_false_iff_not, beq_iff_eq, bne_iff_ne, beq_eq_false_iff_ne, bne_eq_false_iff_eq, Bool.not_eq_true', Bool.not_eq_false', ne_eq, Bool.not_eq_true, Bool.not_eq_false] at hj)
      · have hjl : j < a.ts.length := by omega
        have hxj : a.ts[j]? = some a.ts[j] := List.getElem?_eq_getElem hjl
        generalize a.ts[j] = u at hxj
        have next : ∀ {w}, (!decide (t.2.1 = s_) && (a.ts.take (j + 1)).any (tagIs t.2.1)) = false → St w0 ([Cl b1 T_api_Route [.string a.name, .string a.cfg, .slice v.a v.len v.cap, I a.roll]] :: E) w → again2 (IntKind.wrap .i64 ((j : Int) + 1), ()) w := by
          intro w hf h
          rw [wr (by omega) (by omega)]
          exact hag2 (q2 - 1) _ w (by omega) ⟨j + 1, by simp, by omega, hf, h⟩
        refine jd ?_
        ((try dsimp only [setN] at h); repeat (first | refine nn ?_ | (refine dr h ?_; clear h; (try clear w); intro w h) | refine ldC h ?_ | refine laC h ?_ | refine ckC h ?_ | (refine stC h ?_; clear h; (try clear w); intro w h; (try dsimp only [putN, setN] at h))))
        refine rt (r w (dl0_ h)) (by simpa using hx) (by omega) (u := .string t.2.1) rfl rfl ?_
        rw [str_eq]
        refine it (fun hc => ?_) (fun hc => ?_)
        · have hc : decide (t.2.1 = s_) = false := by simpa using hc
          ((try dsimp only [setN] at h); repeat (first | refine nn ?_ | (refine dr h ?_; clear h; (try clear w); intro w h) | refine ldC h ?_ | refine laC h ?_ | refine ckC h ?_ | (refine stC h ?_; clear h; (try clear w); intro w h; (try dsimp only [putN, setN] at h))))
          refine rt (r w (dl0_ h)) (by simpa using hx) (by omega) (u := .string t.2.1) rfl rfl ?_
          ((try dsimp only [setN] at h); repeat (first | refine nn ?_ | (refine dr h ?_; clear h; (try clear w); intro w h) | refine ldC h ?_ | refine laC h ?_ | refine ckC h ?_ | (refine stC h ?_; clear h; (try clear w); intro w h; (try dsimp only [putN, setN] at h))))
          refine rt (r w (dl0_ h)) (by simpa using hxj) (by omega) (u := .string u.2.1) rfl rfl ?_
          rw [str_eq]
          refine it (fun hd => ?_) (fun hd => ?_)
          · have hd := of_decide_eq_true hd
            have e1 : (a.ts.take i).any (tagIs t.2.1) = true := List.any_eq_true.2 ⟨u, List.mem_of_getElem? (i := j) (by rw [List.getElem?_take_of_lt (by omega)]; exact hxj), decide_eq_true hd.symm⟩
            have e : (List.range a.ts.length).any (twiceAt a.ts) = true := List.any_eq_true.2 ⟨i, List.mem_range.2 hi, by rw [tw, hc, e1]; rfl⟩
            unfold allE at hk
            rw [if_pos e] at hk
            exact out hk h
          · have hd := of_decide_eq_false hd
            refine next ?_ h
            rw [hc] at hno2 ⊢
            rw [List.take_add_one, hxj, List.any_append]
            simp only [Bool.not_false, Bool.true_and] at hno2 ⊢
            rw [hno2]
            simp only [Option.toList_some, List.any_cons, List.any_nil, Bool.or_false, Bool.false_or]
            exact decide_eq_false fun e => hd (Eq.symm e)
        · have hc : decide (t.2.1 = s_) = true := by simpa using hc
          exact next (by rw [hc]; rfl) h
      · have ej : j = i := by omega
        subst ej
        have h2 := ht
        rw [wr (by unfold pct at *; omega) (by unfold pct at *; omega), wr (by omega) (by omega)]
        refine hag (q - 1) _ w (by omega) ⟨j + 1, by rw [es]; simp [pct], by omega, ?_, h⟩
        rw [List.range_succ, List.any_append, hno, List.any_cons, List.any_nil, tw, hno2]; rfl
    · have e : a.ts.take i = a.ts := List.take_of_length_le (by omega)
      have ei : i = a.ts.length := by omega
      rw [e]
      rw [ei] at hno
      unfold allE at hk
      rw [if_neg (by simp [hno])] at hk
      refine it (fun hs => ?_) (fun hs => ?_) <;> (try simp only [decide_eq_true_eq, decide_eq_false_iff_not, beq_iff_eq, bne_iff_ne, beq_eq_false_iff_ne, bne_eq_false_iff_eq, Bool.not_eq_true', Bool.not_eq_false', ne_eq, Bool.not_eq_true, Bool.not_eq_false] at hs)
      · rw [if_neg hs] at hk; exact out hk h
      · rw [if_pos hs] at hk; exact out hk h
end Go.Proofs.YtpnbgpolbjbhpaaGreatDoor
namespace Go.Proofs.YtpnbgpolbjbhpaaGreatDoor
open Go.Dm
attribute [local irreducible] L.load L.store L.chk L.new L.nonnil L.guard L.ite L.draw L.idx L.sem L.semR L.semU L.chkSem L.next L.call L.callV L.join L.alts L.loop L.begin L.endRound L.range
variable {w0 w : World} {E : List Seg}
abbrev T3 := ByteArray × ByteArray × Int
def sameT (a b : T3) : Bool := (a.1 == b.1) && ((a.2.1 == b.2.1) && ((a.2.2 == b.2.2) && true))
theorem sameT_iff (a b : T3) : sameT a b = true ↔ a = b := by
  obtain ⟨a1, a2, a3⟩ := a
  obtain ⟨b1, b2, b3⟩ := b
  have e1 : (@BEq.beq ByteArray _ a1 b1) = true ↔ a1 = b1 := ba_iff
  have e2 : (@BEq.beq ByteArray _ a2 b2) = true ↔ a2 = b2 := ba_iff
  unfold sameT
  simp only [Bool.and_eq_true, beq_iff_eq, and_true, Prod.mk.injEq]
  exact and_congr e1 (and_congr e2 Iff.rfl)
theorem eqin_tgt (a b : T3) (w : World) : (Op.equalIn 10000 T_api_Target (.agg #[.string a.1, .string a.2.1, I a.2.2]) (.agg #[.string b.1, .string b.2.1, I b.2.2])).run Pr w = .ok (sameT a b) w := by
  have hS : Pr.underlying T_api_Target = some (.struct (Pr.fieldsOf T_api_Target)) := by kernel_rfl
  have hp : Pr.stoodInHeld T_api_Target = false := by kernel_rfl
  obtain ⟨a1, a2, a3⟩ := a
  obtain ⟨b1, b2, b3⟩ := b
  rw [show (10000 : Nat) = 9999 + 1 from rfl, run_equalIn_agg w 9999 T_api_Target _ _ hS hp]
  have u3 := Tryz.underlying3
  have i3 := Tryz.isAgg3
  have z3 := Tryz.sizeOf3
  have u9 := Tryz.underlying9
  have i9 := Tryz.isAgg9
  have z9 := Tryz.sizeOf9
  simp only [Program.fieldsOf, Tryz.underlying34]
  go_simp
  have e1 : (ByteArray.toList a1 = ByteArray.toList b1) ↔ (@BEq.beq ByteArray _ a1 b1) = true := by rw [beq_toListBytes]; simp
  have e2 : (ByteArray.toList a2 = ByteArray.toList b2) ↔ (@BEq.beq ByteArray _ a2 b2) = true := by rw [beq_toListBytes]; simp
  unfold sameT
  by_cases h1 : (@BEq.beq ByteArray _ a1 b1) = true
  · rw [if_pos (e1.2 h1)]
    simp only [show (a1 == b1) = true from h1, Bool.true_and]
    by_cases h2 : (@BEq.beq ByteArray _ a2 b2) = true
    · rw [if_pos (e2.2 h2)]
      simp only [show (a2 == b2) = true from h2, Bool.true_and]
      by_cases h3 : @Eq Int a3 b3
      · cases h3; simp
      · simp [h3]
    · rw [if_neg (fun h => h2 (e2.1 h))]
      have : (a2 == b2) = false := by simpa using h2
      simp [this]
  · rw [if_neg (fun h => h1 (e1.1 h))]
    have : (a1 == b1) = false := by simpa using h1
    simp [this]
theorem eq_tgt (a b : T3) (w : World) : (do eqGuard .eql T_api_Target (.tmp 0) (.tmp 0) (.agg #[.string a.1, .string a.2.1, I a.2.2]) (.agg #[.string b.1, .string b.2.1, I b.2.2]); binOp .eql T_api_Target (.agg #[.string a.1, .string a.2.1, I a.2.2]) (.agg #[.string b.1, .string b.2.1, I b.2.2]) : Sem Value).run Pr w = .ok (.bool (sameT a b)) w :=
  eqS_of (by kernel_rfl) (eqin_tgt a b w)
theorem ne_tgt (a b : T3) (w : World) : (do eqGuard .neq T_api_Target (.tmp 0) (.tmp 0) (.agg #[.string a.1, .string a.2.1, I a.2.2]) (.agg #[.string b.1, .string b.2.1, I b.2.2]); binOp .neq T_api_Target (.agg #[.string a.1, .string a.2.1, I a.2.2]) (.agg #[.string b.1, .string b.2.1, I b.2.2]) : Sem Value).run Pr w = .ok (.bool (!sameT a b)) w :=
  neS_of (by kernel_rfl) (eqin_tgt a b w)
end Go.Proofs.YtpnbgpolbjbhpaaGreatDoor
namespace Go.Proofs.YtpnbgpolbjbhpaaGreatDoor
open Go.Dm
attribute [local irreducible] L.load L.store L.chk L.new L.nonnil L.guard L.ite L.draw L.idx L.sem L.semR L.semU L.chkSem L.next L.call L.callV L.join L.alts L.loop L.begin L.endRound L.range
variable {w0 w : World} {E : List Seg}
/-! ### routes compared, copied -/
abbrev sT3 (x y : Tgt) : Bool := (x.1 == y.1) && ((x.2.1 == y.2.1) && ((x.2.2.1 == y.2.2.1) && true))
theorem sT3_iff (x y : Tgt) : sT3 x y = true ↔ x = y := by
  obtain ⟨x1, x2, x3, ⟨⟩⟩ := x
  obtain ⟨y1, y2, y3, ⟨⟩⟩ := y
  have := sameT_iff (x1, x2, x3) (y1, y2, y3)
  simp only [Prod.mk.injEq] at this
  refine Iff.trans this ⟨fun ⟨a, b, c⟩ => ?_, fun h => ?_⟩
  · subst a; subst b; cases c; rfl
  · cases h; exact ⟨rfl, rfl, rfl⟩
theorem take_eq {α : Type} {l m : List α} {i : Nat} {x y : α} (h : l.take i = m.take i) (hx : l[i]? = some x) (hy : m[i]? = some y) (e : x = y) : l.take (i + 1) = m.take (i + 1) := by
  rw [List.take_add_one, List.take_add_one, hx, hy, h, e]
theorem S_eqT (h : St w0 E w) {v1 v2 : Sl} {l1 l2 : List Tgt} (r1 : RdE w0 E eT v1 l1) (r2 : RdE w0 E eT v2 l2) (hn : l1.length < 1000000000) {k : Bool → PT} (hk : ∀ b w', (b = true ↔ l1 = l2) → St w0 E w' → k b w') :
    L.call Pr n_slices_EqualFunc_api_Target_api_Target_api_Target_api_Target [.slice v1.a v1.len v1.cap, .slice v2.a v2.len v2.cap, .func (.func n_spec_same) #[] #[]] (.one (.one .bool)) k w := by
  refine call_of (C_slices_EqualFunc_api_Target_api_Target_api_Target_api_Target v1 v2 ⟨.func n_spec_same, #[], #[]⟩) ?_
  unfold F_slices_EqualFunc_api_Target_api_Target_api_Target_api_Target
  have hl1 := (r1 w h).len
  have hl2 := (r2 w h).len
  refine it (fun hc => ?_) (fun hc => ?_) <;> (try simp only [decide_eq_true_eq, decide_eq_false_iff_not, beq_iff_eq, bne_iff_ne, beq_eq_false_iff_ne, bne_eq_false_iff_eq, Bool.not_eq_true', Bool.not_eq_false', ne_eq, Bool.not_eq_true, Bool.not_eq_false] at hc)
  · exact ⟨_, rfl, hk false w ⟨fun h => by (cases h), fun e => (hc (by rw [hl1, hl2, e])).elim⟩ h⟩
  refine loop_of (fun q y w => ∃ i : Nat, y = ((i : Int), ()) ∧ q + i = l1.length ∧ l1.take i = l2.take i ∧ St w0 E w) l1.length ⟨0, rfl, rfl, rfl, h⟩ ?_
  clear h; (try clear w)
  rintro q y w ⟨i, rfl, hq, he, h⟩ again hag
  dsimp only
  refine it (fun hb => ?_) (fun hb => ?_) <;> (try simp only [decide_eq_true_eq, decide_eq_false_iff_not, beq_iff_eq, bne_iff_ne, beq_eq_false_iff_ne, bne_eq_false_iff_eq, Bool.not_eq_true', Bool.not_eq_false', ne_eq, Bool.not_eq_true, Bool.not_eq_false] at hb)
  · have hi : i < l1.length := by omega
    have hi2 : i < l2.length := by omega
    have hx : l1[i]? = some l1[i] := List.getElem?_eq_getElem hi
    have hy : l2[i]? = some l2[i] := List.getElem?_eq_getElem hi2
    generalize l1[i] = x at hx
    generalize l2[i] = y at hy
    refine (r1 w h).ix encT (by omega) (by simpa using hi) fun a ha => ?_
    rw [Int.toNat_natCast] at ha
    refine (r1 w h).lda encT ha hx rfl ?_
    refine nw h ?_; clear h; (try clear w); intro b5 w h
    ((try dsimp only [setN] at h); repeat (first | refine nn ?_ | (refine dr h ?_; clear h; (try clear w); intro w h) | refine ldC h ?_ | refine laC h ?_ | refine ckC h ?_ | (refine stC h ?_; clear h; (try clear w); intro w h; (try dsimp only [putN, setN] at h))))
    refine (r2 w (dl0_ h)).ix encT (by omega) (by simpa using hi2) fun a2 ha2 => ?_
    rw [Int.toNat_natCast] at ha2
    refine (r2 w (dl0_ h)).lda encT ha2 hy rfl ?_
    refine nw h ?_; clear h; (try clear w); intro b8 w h
    ((try dsimp only [setN] at h); repeat (first | refine nn ?_ | (refine dr h ?_; clear h; (try clear w); intro w h) | refine ldC h ?_ | refine laC h ?_ | refine ckC h ?_ | (refine stC h ?_; clear h; (try clear w); intro w h; (try dsimp only [putN, setN] at h))))
    refine callV_of (fs := #[]) (cs := #[]) E_spec_same (C_spec_same x y) ?_
    unfold F_spec_same
    refine nw h ?_; clear h; (try clear w); intro c1 w h
    refine nw h ?_; clear h; (try clear w); intro c2 w h
    ((try dsimp only [setN] at h); repeat (first | refine nn ?_ | (refine dr h ?_; clear h; (try clear w); intro w h) | refine ldC h ?_ | refine laC h ?_ | refine ckC h ?_ | (refine stC h ?_; clear h; (try clear w); intro w h; (try dsimp only [putN, setN] at h))))
    unfold L.chkSem
    refine ⟨eq_tgt (x.1, x.2.1, x.2.2.1) (y.1, y.2.1, y.2.2.1) w, _, rfl, ?_⟩
    have hs := sT3_iff x y
    have h := dl0_ (dl0_ (dl0_ (dl0_ h)))
    refine it (fun hc => ?_) (fun hc => ?_)
    · have hc : ¬ sT3 x y = true := by have hc : sT3 x y = false := (Bool.not_eq_true' _).mp hc; rw [hc]; decide
      refine ⟨_, rfl, hk false w ⟨fun h => by (cases h), fun e => (hc (hs.2 ?_)).elim⟩ h⟩
      rw [e, hy] at hx; exact (Option.some.inj hx).symm
    · have hc : sT3 x y = true := (Bool.not_eq_false' _).mp hc
      rw [wr (by omega) (by omega)]
      exact hag (q - 1) _ w (by omega) ⟨i + 1, by simp, by omega, take_eq he hx hy (hs.1 hc), h⟩
  · have e1 : l1.take i = l1 := List.take_of_length_le (by omega)
    have e2 : l2.take i = l2 := List.take_of_length_le (by omega)
    rw [e1, e2] at he
    exact ⟨_, rfl, hk true w ⟨fun _ => he, fun _ => rfl⟩ h⟩
theorem ARt.ext_iff' (a b : ARt) : a = b ↔ a.name = b.name ∧ a.cfg = b.cfg ∧ a.roll = b.roll ∧ a.ts = b.ts := by
  cases a; cases b; simp only [ARt.mk.injEq]; exact ⟨fun ⟨a, b, c, d⟩ => ⟨a, b, d, c⟩, fun ⟨a, b, d, c⟩ => ⟨a, b, c, d⟩⟩
abbrev rtC (a : ARt) (v : Sl) : List Value := [.string a.name, .string a.cfg, .slice v.a v.len v.cap, I a.roll]
theorem G_sameR (h : St w0 E w) {a b : ARt} {v1 v2 : Sl} (r1 : RdE w0 E eT v1 a.ts) (r2 : RdE w0 E eT v2 b.ts) (hn : a.ts.length < 1000000000) {k : Bool → PT} (hk : ∀ c w', (c = true ↔ a = b) → St w0 E w' → k c w') :
    F_spec_SameRoute (a.name, a.cfg, v1, a.roll, ()) (b.name, b.cfg, v2, b.roll, ()) (fun v w' => ∃ x, v = RT.val (.one (.one .bool)) x ∧ k x w') w := by
  unfold F_spec_SameRoute
  rw [ARt.ext_iff' a b] at hk
  refine nw h ?_; clear h; (try clear w); intro b1 w h
  refine nw h ?_; clear h; (try clear w); intro b2 w h
  have no : ∀ {w}, ¬ (a.name = b.name ∧ a.cfg = b.cfg ∧ a.roll = b.roll ∧ a.ts = b.ts) → St w0 ([Cl b2 T_api_Route (rtC b v2)] :: [Cl b1 T_api_Route (rtC a v1)] :: E) w → ∃ x, Value.bool false = RT.val (.one (.one .bool)) x ∧ k x w :=
    fun hne h => ⟨_, rfl, hk false _ ⟨fun h => by (cases h), fun e => (hne e).elim⟩ (dl0_ (dl0_ h))⟩
  ((try dsimp only [setN] at h); repeat (first | refine nn ?_ | (refine dr h ?_; clear h; (try clear w); intro w h) | refine ldC h ?_ | refine laC h ?_ | refine ckC h ?_ | (refine stC h ?_; clear h; (try clear w); intro w h; (try dsimp only [putN, setN] at h))))
  rw [str_eq]
  refine it (fun h1 => ?_) (fun h1 => no (fun e => of_decide_eq_false h1 e.1) h)
  ((try dsimp only [setN] at h); repeat (first | refine nn ?_ | (refine dr h ?_; clear h; (try clear w); intro w h) | refine ldC h ?_ | refine laC h ?_ | refine ckC h ?_ | (refine stC h ?_; clear h; (try clear w); intro w h; (try dsimp only [putN, setN] at h))))
  rw [str_eq]
  refine it (fun h2 => ?_) (fun h2 => no (fun e => of_decide_eq_false h2 e.2.1) h)
  ((try dsimp only [setN] at h); repeat (first | refine nn ?_ | (refine dr h ?_; clear h; (try clear w); intro w h) | refine ldC h ?_ | refine laC h ?_ | refine ckC h ?_ | (refine stC h ?_; clear h; (try clear w); intro w h; (try dsimp only [putN, setN] at h))))
  refine it (fun h3 => ?_) (fun h3 => no (fun e => by rw [e.2.2.1] at h3; simp at h3) h)
  ((try dsimp only [setN] at h); repeat (first | refine nn ?_ | (refine dr h ?_; clear h; (try clear w); intro w h) | refine ldC h ?_ | refine laC h ?_ | refine ckC h ?_ | (refine stC h ?_; clear h; (try clear w); intro w h; (try dsimp only [putN, setN] at h))))
  refine S_eqT h (fun w h => r1 w (dl0_ (dl0_ h))) (fun w h => r2 w (dl0_ (dl0_ h))) hn fun c w hc h => ?_
  refine ⟨_, rfl, hk c w ?_ (dl0_ (dl0_ h))⟩
  rw [hc]
  exact ⟨fun e => ⟨of_decide_eq_true h1, of_decide_eq_true h2, by simpa using h3, e⟩, fun e => e.2.2.2⟩
theorem S_sameR (h : St w0 E w) {a b : ARt} {v1 v2 : Sl} (r1 : RdE w0 E eT v1 a.ts) (r2 : RdE w0 E eT v2 b.ts) (hn : a.ts.length < 1000000000) {k : Bool → PT} (hk : ∀ c w', (c = true ↔ a = b) → St w0 E w' → k c w') :
    L.callV Pr (.func (.func n_spec_SameRoute) #[] #[]) [.agg #[.string a.name, .string a.cfg, .slice v1.a v1.len v1.cap, I a.roll], .agg #[.string b.name, .string b.cfg, .slice v2.a v2.len v2.cap, I b.roll]] (.one (.one .bool)) k w :=
  callV_of (fs := #[]) (cs := #[]) E_spec_SameRoute (C_spec_SameRoute (a.name, a.cfg, v1, a.roll, ()) (b.name, b.cfg, v2, b.roll, ())) (G_sameR h r1 r2 hn hk)
theorem S_rsameR (h : St w0 E w) {a b : ARt} {v1 v2 : Sl} (r1 : RdE w0 E eT v1 a.ts) (r2 : RdE w0 E eT v2 b.ts) (hn : a.ts.length < 1000000000) {k : Bool → PT} (hk : ∀ c w', (c = true ↔ a = b) → St w0 E w' → k c w') :
    L.call Pr n_damperref2_SameRoute [.agg #[.string a.name, .string a.cfg, .slice v1.a v1.len v1.cap, I a.roll], .agg #[.string b.name, .string b.cfg, .slice v2.a v2.len v2.cap, I b.roll]] (.one (.one .bool)) k w := by
  refine call_of (C_damperref2_SameRoute (a.name, a.cfg, v1, a.roll, ()) (b.name, b.cfg, v2, b.roll, ())) ?_
  unfold F_damperref2_SameRoute
  rw [ARt.ext_iff' a b] at hk
  have hl1 := (r1 w h).len
  have hl2 := (r2 w h).len
  refine nw h ?_; clear h; (try clear w); intro b1 w h
  refine nw h ?_; clear h; (try clear w); intro b2 w h
  have no : ∀ {w}, ¬ (a.name = b.name ∧ a.cfg = b.cfg ∧ a.roll = b.roll ∧ a.ts = b.ts) → St w0 ([Cl b2 T_api_Route (rtC b v2)] :: [Cl b1 T_api_Route (rtC a v1)] :: E) w → ∃ x, Value.bool false = RT.val (.one (.one .bool)) x ∧ k x w :=
    fun hne h => ⟨_, rfl, hk false _ ⟨fun h => by (cases h), fun e => (hne e).elim⟩ (dl0_ (dl0_ h))⟩
  ((try dsimp only [setN] at h); repeat (first | refine nn ?_ | (refine dr h ?_; clear h; (try clear w); intro w h) | refine ldC h ?_ | refine laC h ?_ | refine ckC h ?_ | (refine stC h ?_; clear h; (try clear w); intro w h; (try dsimp only [putN, setN] at h))))
  rw [str_eq]
  refine it (fun h1 => no (fun e => by rw [e.1] at h1; simp at h1) h) (fun h1 => ?_)
  have h1 : a.name = b.name := by simpa using h1
  ((try dsimp only [setN] at h); repeat (first | refine nn ?_ | (refine dr h ?_; clear h; (try clear w); intro w h) | refine ldC h ?_ | refine laC h ?_ | refine ckC h ?_ | (refine stC h ?_; clear h; (try clear w); intro w h; (try dsimp only [putN, setN] at h))))
  rw [str_eq]
  refine it (fun h2 => no (fun e => by rw [e.2.1] at h2; simp at h2) h) (fun h2 => ?_)
  have h2 : a.cfg = b.cfg := by simpa using h2
  ((try dsimp only [setN] at h); repeat (first | refine nn ?_ | (refine dr h ?_; clear h; (try clear w); intro w h) | refine ldC h ?_ | refine laC h ?_ | refine ckC h ?_ | (refine stC h ?_; clear h; (try clear w); intro w h; (try dsimp only [putN, setN] at h))))
  refine it (fun h3 => no (fun e => by rw [e.2.2.1] at h3; simp at h3) h) (fun h3 => ?_)
  have h3 : a.roll = b.roll := by simpa using h3
  ((try dsimp only [setN] at h); repeat (first | refine nn ?_ | (refine dr h ?_; clear h; (try clear w); intro w h) | refine ldC h ?_ | refine laC h ?_ | refine ckC h ?_ | (refine stC h ?_; clear h; (try clear w); intro w h; (try dsimp only [putN, setN] at h))))
  refine it (fun hc => ?_) (fun hc => ?_) <;> (try simp only [decide_eq_true_eq, decide_eq_false_iff_not, beq_iff_eq, bne_iff_ne, beq_eq_false_iff_ne, bne_eq_false_iff_eq, Bool.not_eq_true', Bool.not_eq_false', ne_eq, Bool.not_eq_true, Bool.not_eq_false] at hc)
  · exact no (fun e => hc (by rw [hl1, hl2, e.2.2.2])) h
  refine loop_of (fun q y w => ∃ i : Nat, y = ((i : Int), ()) ∧ q + i = a.ts.length ∧ a.ts.take i = b.ts.take i ∧ St w0 ([Cl b2 T_api_Route (rtC b v2)] :: [Cl b1 T_api_Route (rtC a v1)] :: E) w) a.ts.length ⟨0, rfl, rfl, rfl, h⟩ ?_
  clear h; (try clear w)
  rintro q y w ⟨i, rfl, hq, he, h⟩ again hag
  dsimp only
  ((try dsimp only [setN] at h); repeat (first | refine nn ?_ | (refine dr h ?_; clear h; (try clear w); intro w h) | refine ldC h ?_ | refine laC h ?_ | refine ckC h ?_ | (refine stC h ?_; clear h; (try clear w); intro w h; (try dsimp only [putN, setN] at h))))
  refine it (fun hb => ?_) (fun hb => ?_) <;> (try simp only [decide_eq_true_eq, decide_eq_false_iff_not, beq_iff_eq, bne_iff_ne, beq_eq_false_iff_ne, bne_eq_false_iff_eq, Bool.not_eq_true', Bool.not_eq_false', ne_eq, Bool.not_eq_true, Bool.not_eq_false] at hb)
  · have hi : i < a.ts.length := by omega
    have hi2 : i < b.ts.length := by omega
    have hx : a.ts[i]? = some a.ts[i] := List.getElem?_eq_getElem hi
    have hy : b.ts[i]? = some b.ts[i] := List.getElem?_eq_getElem hi2
    generalize a.ts[i] = x at hx
    generalize b.ts[i] = y at hy
    ((try dsimp only [setN] at h); repeat (first | refine nn ?_ | (refine dr h ?_; clear h; (try clear w); intro w h) | refine ldC h ?_ | refine laC h ?_ | refine ckC h ?_ | (refine stC h ?_; clear h; (try clear w); intro w h; (try dsimp only [putN, setN] at h))))
    refine (r1 w (dl0_ (dl0_ h))).ix encT (by omega) (by simpa using hi) fun a ha => ?_
    rw [Int.toNat_natCast] at ha
    refine (r1 w (dl0_ (dl0_ h))).lda encT ha hx rfl ?_
    ((try dsimp only [setN] at h); repeat (first | refine nn ?_ | (refine dr h ?_; clear h; (try clear w); intro w h) | refine ldC h ?_ | refine laC h ?_ | refine ckC h ?_ | (refine stC h ?_; clear h; (try clear w); intro w h; (try dsimp only [putN, setN] at h))))
    refine (r2 w (dl0_ (dl0_ h))).ix encT (by omega) (by simpa using hi2) fun a2 ha2 => ?_
    rw [Int.toNat_natCast] at ha2
    refine (r2 w (dl0_ (dl0_ h))).lda encT ha2 hy rfl ?_
    unfold L.chkSem
    refine ⟨ne_tgt (x.1, x.2.1, x.2.2.1) (y.1, y.2.1, y.2.2.1) w, ?_⟩
    have hs := sT3_iff x y
    refine it (fun hc => ?_) (fun hc => ?_)
    · have hc : ¬ sT3 x y = true := by have hc : sT3 x y = false := (Bool.not_eq_true' _).mp hc; rw [hc]; decide
      refine no (fun e => (hc (hs.2 ?_)).elim) h
      rw [e.2.2.2, hy] at hx; exact (Option.some.inj hx).symm
    · have hc : sT3 x y = true := (Bool.not_eq_false' _).mp hc
      rw [wr (by omega) (by omega)]
      exact hag (q - 1) _ w (by omega) ⟨i + 1, by simp, by omega, take_eq he hx hy (hs.1 hc), h⟩
  · have e1 : a.ts.take i = a.ts := List.take_of_length_le (by omega)
    have e2 : b.ts.take i = b.ts := List.take_of_length_le (by omega)
    rw [e1, e2] at he
    exact ⟨_, rfl, hk true w ⟨fun _ => ⟨h1, h2, h3, he⟩, fun _ => rfl⟩ (dl0_ (dl0_ h))⟩
theorem elT : El Pr T_s_api_Target T_api_Target 3 40 (.agg #[.string s_, .string s_, I 0]) := el_of (by kernel_rfl) (by kernel_rfl) rfl (by decide)
theorem S_CloneT (h : St w0 E w) {v : Sl} {l : List Tgt} (r : Rd w eT v l) (hn : l.length < 1000000000) (h0 : v.a = none → l = []) {k : Sl → PT}
    (hk : ∀ v' s' w', Rw eT T_api_Target 3 v' l s' → St w0 (s' :: E) w' → k v' w') : L.call Pr n_slices_Clone_api_Target_api_Target [SlV v] (.one (.one .slice)) k w := by
  refine call_of (C_slices_Clone_api_Target_api_Target v) ?_
  unfold F_slices_Clone_api_Target_api_Target
  exact clone_of (K := fun v w' => ∃ x, v = RT.val (.one (.one .slice)) x ∧ k x w') encT elT h r (by omega) (by omega) h0 fun v' s' w' hr hi h => ⟨v', rfl, hk v' s' w' hr h⟩
abbrev eRt : E1 := .agg [.str, .str, .slice, .int .i64]
theorem S_own (h : St w0 E w) {a : ARt} {v : Sl} (r : RdE w0 E eT v a.ts) (hn : a.ts.length < 1000000000) (h0 : v.a = none → a.ts = []) {k : eRt.T → PT}
    (hk : ∀ v' s' w', Rw eT T_api_Target 3 v' a.ts s' → St w0 (s' :: E) w' → k (a.name, a.cfg, v', a.roll, ()) w') :
    L.call Pr n_shelf_own [.agg #[.string a.name, .string a.cfg, .slice v.a v.len v.cap, I a.roll]] (.one eRt) k w := by
  refine call_of (C_shelf_own (a.name, a.cfg, v, a.roll, ())) ?_
  unfold F_shelf_own
  refine nw h ?_; clear h; (try clear w); intro b1 w h
  refine nw h ?_; clear h; (try clear w); intro b2 w h
  ((try dsimp only [setN] at h); repeat (first | refine nn ?_ | (refine dr h ?_; clear h; (try clear w); intro w h) | refine ldC h ?_ | refine laC h ?_ | refine ckC h ?_ | (refine stC h ?_; clear h; (try clear w); intro w h; (try dsimp only [putN, setN] at h))))
  refine S_CloneT h (r w (dl0_ (dl0_ h))) hn h0 fun v' s' w hr h => ?_
  ((try dsimp only [setN] at h); repeat (first | refine nn ?_ | (refine dr h ?_; clear h; (try clear w); intro w h) | refine ldC h ?_ | refine laC h ?_ | refine ckC h ?_ | (refine stC h ?_; clear h; (try clear w); intro w h; (try dsimp only [putN, setN] at h))))
  refine ⟨(a.name, a.cfg, v', a.roll, ()), rfl, hk v' s' w hr ?_⟩
  exact dl1_ (dl1_ h)
end Go.Proofs.YtpnbgpolbjbhpaaGreatDoor
namespace Go.Proofs.YtpnbgpolbjbhpaaGreatDoor
open Go.Dm
attribute [local irreducible] L.load L.store L.chk L.new L.nonnil L.guard L.ite L.draw L.idx L.sem L.semR L.semU L.chkSem L.next L.call L.callV L.join L.alts L.loop L.begin L.endRound L.range
variable {w0 w : World} {E : List Seg}
/-! ### routes on the shelf -/
theorem RtE.rde {Q : List RtE} {x : RtE} (hx : x ∈ Q) (ok : x.ok) (i : Nat) (hi : nth E i = some (Q.map RtE.sg).flatten) : RdE w0 E eT x.t.2.2.1 x.ts := by
  obtain ⟨A, B, rfl⟩ := List.append_of_mem hx
  intro w h
  exact Rw.rd encT (St.pick (g := RtE.sg) (h.front i hi)) 0 rfl ok
theorem lget_mem {Q : List RtE} {n : ByteArray} (h : (lget Q n).t.is = true) : lget Q n ∈ Q := by
  unfold lget at *
  cases hf : lfind RtE.k Q n with
  | none => rw [hf] at h; cases h
  | some x => exact List.mem_of_find?_eq_some hf
open Classical in
noncomputable def gen' (t : AThr) (r : ARt) : Int := if t.is = true ∧ t.r = r then t.gen else IntKind.wrap .i64 (t.gen + 1)
noncomputable def putRt (m : List (ByteArray × AThr)) (n : ByteArray) (r : ARt) (ver : Int) : List (ByteArray × AThr) := mset m n ⟨r, ver, gen' (rget m n) r, true⟩
theorem few_lget {Q : List RtE} (hQ : ∀ x ∈ Q, x.ts.length < 1000000000) (n : ByteArray) : (lget Q n).ts.length < 1000000000 := by
  unfold lget
  cases hf : lfind RtE.k Q n with
  | none => simp
  | some x => exact hQ _ (List.mem_of_find?_eq_some hf)
theorem S_putR {sv : Seg} (h : St w0 (sv :: E) w) (i : Nat) {b : Nat} {m : List (ByteArray × AThr)} {s : Seg} (hi : nth E i = some s) (hs : RackR b m s) (few : ∀ x ∈ m, x.2.r.ts.length < 1000000000) {n : ByteArray} {a : ARt} {v : Sl} (hr : Rw eT T_api_Target 3 v a.ts sv) {ver : Int} {k : Unit → PT}
    (hk : ∀ s' w', RackR b (putRt m n a ver) s' → St w0 (setN E i s') w' → k () w') :
    L.call Pr n_shelf_rack_api_Route_put [.pointer (some ⟨b, 0, none⟩), .string n, .agg #[.string a.name, .string a.cfg, .slice v.a v.len v.cap, I a.roll], I ver] (.tup []) k w := by
  obtain ⟨r, sm, Q, hm, hQ, rfl, rfl⟩ := hs
  refine call_of (C_shelf_rack_api_Route_put _ _ (a.name, a.cfg, v, a.roll, ()) _) ?_
  unfold F_shelf_rack_api_Route_put
  unfold putRt at hk
  rw [lget_a] at hk
  have fewQ : ∀ x ∈ Q, x.ts.length < 1000000000 := fun x hx => few _ (List.mem_map_of_mem hx)
  have h := h.front (i + 1) hi
  have h := h.split3
  have h : St w0 ([Cl b T_shelf_rack_api_Route [.map (some r), .func (.func n_spec_SameRoute) #[] #[]]] :: sm :: (Q.map RtE.sg).flatten :: sv :: delN E i) w := h
  refine nw h ?_; clear h; (try clear w); intro b1 w h
  ((try dsimp only [setN] at h); repeat (first | refine nn ?_ | (refine dr h ?_; clear h; (try clear w); intro w h) | refine ldC h ?_ | refine laC h ?_ | refine ckC h ?_ | (refine stC h ?_; clear h; (try clear w); intro w h; (try dsimp only [putN, setN] at h))))
  refine rlook h 2 rfl hm ?_
  have hin := fun hh => lget_mem (Q := Q) (n := n) hh
  have hfew := few_lget fewQ n
  generalize lget Q n = t at hk hin hfew
  refine nw h ?_; clear h; (try clear w); intro b5 w h
  ((try dsimp only [setN] at h); repeat (first | refine nn ?_ | (refine dr h ?_; clear h; (try clear w); intro w h) | refine ldC h ?_ | refine laC h ?_ | refine ckC h ?_ | (refine stC h ?_; clear h; (try clear w); intro w h; (try dsimp only [putN, setN] at h))))
  refine join_of (fun z w => St w0 ([Cl b5 T_shelf_thing_api_Route [.string t.t.1, .string t.t.2.1, .slice t.t.2.2.1.a t.t.2.2.1.len t.t.2.2.1.cap, I t.t.2.2.2.1, I t.t.2.2.2.2.1, I (gen' t.abs a), .bool t.t.2.2.2.2.2.2.1]] :: [Cl b1 T_api_Route (rtC a v)] :: [Cl b T_shelf_rack_api_Route [.map (some r), .func (.func n_spec_SameRoute) #[] #[]]] :: sm :: (Q.map RtE.sg).flatten :: sv :: delN E i) w) (fun k6 hk6 => ?_) (fun z w h => ?_)
  · have more : ∀ {w}, ¬ (t.abs.is = true ∧ t.abs.r = a) → St w0 ([Cl b5 T_shelf_thing_api_Route [.string t.t.1, .string t.t.2.1, .slice t.t.2.2.1.a t.t.2.2.1.len t.t.2.2.1.cap, I t.t.2.2.2.1, I t.t.2.2.2.2.1, I t.t.gen, .bool t.t.2.2.2.2.2.2.1]] :: [Cl b1 T_api_Route (rtC a v)] :: [Cl b T_shelf_rack_api_Route [.map (some r), .func (.func n_spec_SameRoute) #[] #[]]] :: sm :: (Q.map RtE.sg).flatten :: sv :: delN E i) w →
        L.load (.one (.int .i64)) ((⟨b5, 0, none⟩ : Addr).add 5) (fun (x9 : Int) =>
          L.store ((⟨b5, 0, none⟩ : Addr).add 5) [.int .i64 (IntKind.wrap .i64 (x9 + 1))] <| k6 (())) w := by
      intro w hn h
      ((try dsimp only [setN] at h); repeat (first | refine nn ?_ | (refine dr h ?_; clear h; (try clear w); intro w h) | refine ldC h ?_ | refine laC h ?_ | refine ckC h ?_ | (refine stC h ?_; clear h; (try clear w); intro w h; (try dsimp only [putN, setN] at h))))
      refine hk6 _ w ?_
      unfold gen'
      rw [if_neg hn]; exact h
    ((try dsimp only [setN] at h); repeat (first | refine nn ?_ | (refine dr h ?_; clear h; (try clear w); intro w h) | refine ldC h ?_ | refine laC h ?_ | refine ckC h ?_ | (refine stC h ?_; clear h; (try clear w); intro w h; (try dsimp only [putN, setN] at h))))
    refine it (fun h1 => ?_) (fun h1 => ?_) <;> (try simp only [decide_eq_true_eq, decide_eq_false_iff_not, beq_iff_eq, bne_iff_ne, beq_eq_false_iff_ne, bne_eq_false_iff_eq, Bool.not_eq_true', Bool.not_eq_false', ne_eq, Bool.not_eq_true, Bool.not_eq_false] at h1)
    · exact more (fun hh => by have := hh.1; simp only [RtE.abs, Thr.is] at this; rw [h1] at this; cases this) h
    · have h1 : t.t.is = true := by simpa using h1
      have hx := hin h1
      ((try dsimp only [setN] at h); repeat (first | refine nn ?_ | (refine dr h ?_; clear h; (try clear w); intro w h) | refine ldC h ?_ | refine laC h ?_ | refine ckC h ?_ | (refine stC h ?_; clear h; (try clear w); intro w h; (try dsimp only [putN, setN] at h))))
      have rr : RdE w0 ([Cl b5 T_shelf_thing_api_Route [.string t.t.1, .string t.t.2.1, .slice t.t.2.2.1.a t.t.2.2.1.len t.t.2.2.1.cap, I t.t.2.2.2.1, I t.t.2.2.2.2.1, I t.t.2.2.2.2.2.1, .bool t.t.2.2.2.2.2.2.1]] :: [Cl b1 T_api_Route (rtC a v)] :: [Cl b T_shelf_rack_api_Route [.map (some r), .func (.func n_spec_SameRoute) #[] #[]]] :: sm :: (Q.map RtE.sg).flatten :: sv :: delN E i) eT t.t.2.2.1 t.ts := RtE.rde hx (hQ _ hx) 4 rfl
      refine S_sameR (a := t.abs.r) (b := a) h rr (Rw.re encT 5 rfl hr) hfew fun c w hc h => ?_
      refine it (fun h2 => ?_) (fun h2 => ?_)
      · have h2 : c = false := by simpa using h2
        exact more (fun hh => by rw [hc.2 hh.2] at h2; cases h2) h
      · have h2 : c = true := by simpa using h2
        refine hk6 _ w ?_
        unfold gen'
        rw [if_pos ⟨h1, hc.1 h2⟩]; exact h
  · ((try dsimp only [setN] at h); repeat (first | refine nn ?_ | (refine dr h ?_; clear h; (try clear w); intro w h) | refine ldC h ?_ | refine laC h ?_ | refine ckC h ?_ | (refine stC h ?_; clear h; (try clear w); intro w h; (try dsimp only [putN, setN] at h))))
    refine MpS.set mkS und_rackR h 3 rfl hm (a.name, a.cfg, v, a.roll, ver, gen' t.abs a, true, ()) rfl fun sm' w hm' h => ?_
    have h : St w0 ([Cl b5 T_shelf_thing_api_Route [.string t.t.1, .string t.t.2.1, .slice t.t.2.2.1.a t.t.2.2.1.len t.t.2.2.1.cap, I t.t.2.2.2.1, I t.t.2.2.2.2.1, I (gen' t.abs a), .bool t.t.2.2.2.2.2.2.1]] :: [Cl b1 T_api_Route (rtC a v)] :: [Cl b T_shelf_rack_api_Route [.map (some r), .func (.func n_spec_SameRoute) #[] #[]]] :: sm' :: (Q.map RtE.sg).flatten :: sv :: delN E i) w := h
    have h := dl0_ (dl0_ h)
    have h := fr3_ (fr2_ (fr1_ (fr1_ h)))
    obtain ⟨s', hs', h⟩ := RackR.put (E := delN E i) ⟨n, (a.name, a.cfg, v, a.roll, ver, gen' t.abs a, true, ()), a.ts, sv⟩ hr hQ hm' h
    exact ⟨(), rfl, hk s' w hs' (St.back i hi h)⟩
theorem S_getR (h : St w0 E w) (i : Nat) {r : Nat} {b : Nat} {Q : List RtE} {sm : Seg} (hi : nth E i = some ([Cl b T_shelf_rack_api_Route [.map (some r), .func (.func n_spec_SameRoute) #[] #[]]] ++ (sm ++ (Q.map RtE.sg).flatten))) (hm : MpS Value.string vThr r (Q.map RtE.kt) sm) {n : ByteArray} {k : eThr.T × Bool × Unit → PT} (hk : ∀ w', St w0 E w' → k ((lget Q n).t, (lget Q n).t.is, ()) w') :
    L.call Pr n_shelf_rack_api_Route_get [.pointer (some ⟨b, 0, none⟩), .string n] (.tup [eThr, .one .bool]) k w := by
  refine call_of (C_shelf_rack_api_Route_get _ _) ?_
  unfold F_shelf_rack_api_Route_get
  have h := (h.front i hi).split3
  refine nw h ?_; clear h; (try clear w); intro b1 w h
  ((try dsimp only [setN] at h); repeat (first | refine nn ?_ | (refine dr h ?_; clear h; (try clear w); intro w h) | refine ldC h ?_ | refine laC h ?_ | refine ckC h ?_ | (refine stC h ?_; clear h; (try clear w); intro w h; (try dsimp only [putN, setN] at h))))
  refine rlook h 2 rfl hm ?_
  generalize lget Q n = t at hk
  refine nw h ?_; clear h; (try clear w); intro b5 w h
  ((try dsimp only [setN] at h); repeat (first | refine nn ?_ | (refine dr h ?_; clear h; (try clear w); intro w h) | refine ldC h ?_ | refine laC h ?_ | refine ckC h ?_ | (refine stC h ?_; clear h; (try clear w); intro w h; (try dsimp only [putN, setN] at h))))
  exact ⟨(t.t, t.t.is, ()), rfl, hk w (St.again i hi (dl0_ (dl0_ h)).glue3)⟩
noncomputable def shPutR (a : AShelf) (r : ARt) (ver : Int) : AShelf × Int × Int :=
  if specE r ≠ 0 then (a, 0, specE r) else if mayV (rget a.r r.name).is (rget a.r r.name).ver ver true ≠ 0 then (a, 0, mayV (rget a.r r.name).is (rget a.r r.name).ver ver true) else (⟨a.m, putRt a.r r.name r (a.n + 1), a.n + 1⟩, a.n + 1, 0)
theorem specE_len {a : ARt} (h : specE a = 0) : a.ts.length ≤ 6 := by
  unfold specE at h
  split at h
  · split at h
    · split at h
      · rename_i h3; exact h3.2
      · cases h
    · cases h
  · cases h
/-- all routes have few targets -/
def AShelf.Few (a : AShelf) : Prop := ∀ x ∈ a.r, x.2.r.ts.length ≤ 6
theorem S_shPutR (h : St w0 E w) (i : Nat) {b : Nat} {a : AShelf} {s : Seg} (hi : nth E i = some s) (hs : ShS b a s) (hfew : a.Few) (hn : a.n < 900000000) {r : ARt} {v : Sl} (rd : RdE w0 (delN E i) eT v r.ts) (hvc : v.len ≤ v.cap) (h0 : v.a = none → r.ts = []) (hrv : ∀ t ∈ r.ts, revOk t.1) {ver : Int} {k : Int × Int × Unit → PT}
    (hk : ∀ s' w', ShS b (shPutR a r ver).1 s' → St w0 (setN E i s') w' → k ((shPutR a r ver).2.1, (shPutR a r ver).2.2, ()) w') :
    L.call Pr n_shelf_Shelf_PutRoute [.pointer (some ⟨b, 0, none⟩), .agg #[.string r.name, .string r.cfg, .slice v.a v.len v.cap, I r.roll], I ver] (.tup [.one (.int .i64), .one (.int .i64)]) k w := by
  have hs0 := hs
  obtain ⟨ok, bc, br, sc, sr, hC, hR, rfl⟩ := hs
  have hlo := ok.lo
  refine call_of (C_shelf_Shelf_PutRoute _ (r.name, r.cfg, v, r.roll, ()) _) ?_
  unfold F_shelf_Shelf_PutRoute
  have h := (h.front i hi).split3
  refine nw h ?_; clear h; (try clear w); intro b1 w h
  ((try dsimp only [setN] at h); repeat (first | refine nn ?_ | (refine dr h ?_; clear h; (try clear w); intro w h) | refine ldC h ?_ | refine laC h ?_ | refine ckC h ?_ | (refine stC h ?_; clear h; (try clear w); intro w h; (try dsimp only [putN, setN] at h))))
  refine S_specR (a := r) h (fun w h => rd w (dl0_ (dl0_ (dl0_ (dl0_ h))))) hvc hrv fun w h => ?_
  unfold shPutR at hk
  refine jd ?_
  refine it (fun he => ?_) (fun he => ?_) <;> (try simp only [decide_eq_true_eq, decide_eq_false_iff_not, beq_iff_eq, bne_iff_ne, beq_eq_false_iff_ne, bne_eq_false_iff_eq, Bool.not_eq_true', Bool.not_eq_false', ne_eq, Bool.not_eq_true, Bool.not_eq_false] at he)
  · rw [if_neg (by simpa using he)] at hk
    have hl6 := specE_len he
    ((try dsimp only [setN] at h); repeat (first | refine nn ?_ | (refine dr h ?_; clear h; (try clear w); intro w h) | refine ldC h ?_ | refine laC h ?_ | refine ckC h ?_ | (refine stC h ?_; clear h; (try clear w); intro w h; (try dsimp only [putN, setN] at h))))
    refine S_mayR h 3 rfl hR fun w h => ?_
    refine it (fun hm => ?_) (fun hm => ?_) <;> (try simp only [decide_eq_true_eq, decide_eq_false_iff_not, beq_iff_eq, bne_iff_ne, beq_eq_false_iff_ne, bne_eq_false_iff_eq, Bool.not_eq_true', Bool.not_eq_false', ne_eq, Bool.not_eq_true, Bool.not_eq_false] at hm)
    · rw [if_pos hm] at hk
      exact ⟨_, rfl, hk _ w hs0 (St.back i hi (dl0_ h).glue3)⟩
    · rw [if_neg (by simpa using hm)] at hk
      ((try dsimp only [setN] at h); repeat (first | refine nn ?_ | (refine dr h ?_; clear h; (try clear w); intro w h) | refine ldC h ?_ | refine laC h ?_ | refine ckC h ?_ | (refine stC h ?_; clear h; (try clear w); intro w h; (try dsimp only [putN, setN] at h))))
      rw [wr (by omega) (by omega)] at h ⊢
      have h : St w0 ([Cl b1 T_api_Route (rtC r v)] :: shB b bc br (a.n + 1) :: sc :: sr :: delN E i) w := h
      refine S_own (a := r) h (fun w h => rd w (dl0_ (dl0_ (dl0_ (dl0_ h))))) (by omega) h0 fun v' sv w hrv' h => ?_
      ((try dsimp only [setN] at h); repeat (first | refine nn ?_ | (refine dr h ?_; clear h; (try clear w); intro w h) | refine ldC h ?_ | refine laC h ?_ | refine ckC h ?_ | (refine stC h ?_; clear h; (try clear w); intro w h; (try dsimp only [putN, setN] at h))))
      refine S_putR (a := r) h 3 rfl hR (fun x hx => by have := hfew x hx; omega) hrv' fun sr' w hR' h => ?_
      have h : St w0 ([Cl b1 T_api_Route (rtC r v)] :: shB b bc br (a.n + 1) :: sc :: sr' :: delN E i) w := h
      ((try dsimp only [setN] at h); repeat (first | refine nn ?_ | (refine dr h ?_; clear h; (try clear w); intro w h) | refine ldC h ?_ | refine laC h ?_ | refine ckC h ?_ | (refine stC h ?_; clear h; (try clear w); intro w h; (try dsimp only [putN, setN] at h))))
      refine ⟨(a.n + 1, 0, ()), rfl, hk _ w ⟨⟨by simp only; omega, by simp only; omega, fun x => ?_, ?_, ?_⟩, bc, br, sc, sr', hC, hR', rfl⟩ (St.back i hi (dl0_ h).glue3)⟩
      · have hx := ok.gen x; simp only; omega
      · have := ok.fm; simp only; omega
      · have := ok.fr; have := mset_le a.r r.name ⟨r, a.n + 1, gen' (rget a.r r.name) r, true⟩
        simp only [putRt]; omega
  · refine it (fun hm => ?_) (fun hm => ?_) <;> (try simp only [decide_eq_true_eq, decide_eq_false_iff_not, beq_iff_eq, bne_iff_ne, beq_eq_false_iff_ne, bne_eq_false_iff_eq, Bool.not_eq_true', Bool.not_eq_false', ne_eq, Bool.not_eq_true, Bool.not_eq_false] at hm)
    · rw [if_pos he] at hk
      exact ⟨_, rfl, hk _ w hs0 (St.back i hi (dl0_ h).glue3)⟩
    · exact (he hm).elim
def noRt : ARt := ⟨s_, s_, [], 0⟩
def shRt (a : AShelf) (n : ByteArray) : ARt × Int × Bool := if (rget a.r n).is = true then ((rget a.r n).r, (rget a.r n).ver, true) else (noRt, 0, false)
theorem S_shRoute (h : St w0 E w) (i : Nat) {b : Nat} {a : AShelf} {s : Seg} (hi : nth E i = some s) (hs : ShS b a s) (hfew : a.Few) {n : ByteArray} {k : eRt.T × Int × Bool × Unit → PT}
    (hk : ∀ v sv w', Rw eT T_api_Target 3 v (shRt a n).1.ts sv → St w0 (sv :: E) w' → k (((shRt a n).1.name, (shRt a n).1.cfg, v, (shRt a n).1.roll, ()), (shRt a n).2.1, (shRt a n).2.2, ()) w') :
    L.call Pr n_shelf_Shelf_Route [.pointer (some ⟨b, 0, none⟩), .string n] (.tup [eRt, .one (.int .i64), .one .bool]) k w := by
  obtain ⟨ok, bc, br, sc, sr, hC, ⟨r, sm, Q, hm, hQ, hq, rfl⟩, rfl⟩ := hs
  refine call_of (C_shelf_Shelf_Route _ _) ?_
  unfold F_shelf_Shelf_Route
  unfold shRt at hk
  rw [hq, lget_a] at hk
  have fewQ : ∀ x ∈ Q, x.ts.length < 1000000000 := fun x hx => by
    have := hfew x.ka (by rw [hq]; exact List.mem_map_of_mem hx)
    have : x.ts.length ≤ 6 := this
    omega
  have h := (h.front i hi).split3
  refine nw h ?_; clear h; (try clear w); intro b1 w h
  ((try dsimp only [setN] at h); repeat (first | refine nn ?_ | (refine dr h ?_; clear h; (try clear w); intro w h) | refine ldC h ?_ | refine laC h ?_ | refine ckC h ?_ | (refine stC h ?_; clear h; (try clear w); intro w h; (try dsimp only [putN, setN] at h))))
  refine S_getR h 3 rfl hm fun w h => ?_
  have hin := fun hh => lget_mem (Q := Q) (n := n) hh
  have hlf := few_lget fewQ n
  generalize lget Q n = t at hk hin hlf
  refine nw h ?_; clear h; (try clear w); intro b5 w h
  ((try dsimp only [setN] at h); repeat (first | refine nn ?_ | (refine dr h ?_; clear h; (try clear w); intro w h) | refine ldC h ?_ | refine laC h ?_ | refine ckC h ?_ | (refine stC h ?_; clear h; (try clear w); intro w h; (try dsimp only [putN, setN] at h))))
  refine it (fun hc => ?_) (fun hc => ?_) <;> (try simp only [decide_eq_true_eq, decide_eq_false_iff_not, beq_iff_eq, bne_iff_ne, beq_eq_false_iff_ne, bne_eq_false_iff_eq, Bool.not_eq_true', Bool.not_eq_false', ne_eq, Bool.not_eq_true, Bool.not_eq_false] at hc)
  · ((try dsimp only [setN] at h); repeat (first | refine nn ?_ | (refine dr h ?_; clear h; (try clear w); intro w h) | refine ldC h ?_ | refine laC h ?_ | refine ckC h ?_ | (refine stC h ?_; clear h; (try clear w); intro w h; (try dsimp only [putN, setN] at h))))
    have hc : ¬ t.abs.is = true := by have : t.t.is = false := hc; simp [RtE.abs, this]
    rw [if_neg hc] at hk
    refine ⟨((s_, s_, ⟨none, 0, 0⟩, 0, ()), 0, false, ()), rfl, hk ⟨none, 0, 0⟩ [] w Rw.nil ?_⟩
    exact (St.again i hi (dl0_ (dl0_ h)).glue3).nil
  · have hc : t.t.is = true := by simpa using hc
    have hx := hin hc
    have hca : t.abs.is = true := hc
    rw [if_pos hca] at hk
    ((try dsimp only [setN] at h); repeat (first | refine nn ?_ | (refine dr h ?_; clear h; (try clear w); intro w h) | refine ldC h ?_ | refine laC h ?_ | refine ckC h ?_ | (refine stC h ?_; clear h; (try clear w); intro w h; (try dsimp only [putN, setN] at h))))
    have h : St w0 ([Cl b5 T_shelf_thing_api_Route [.string t.t.1, .string t.t.2.1, .slice t.t.2.2.1.a t.t.2.2.1.len t.t.2.2.1.cap, I t.t.2.2.2.1, I t.t.2.2.2.2.1, I t.t.2.2.2.2.2.1, .bool t.t.2.2.2.2.2.2.1]] :: [Cl b1 T_api_Route [.string s_, .string s_, .slice none 0 0, I 0]] :: shB b bc br a.n :: sc :: [Cl br T_shelf_rack_api_Route [.map (some r), .func (.func n_spec_SameRoute) #[] #[]]] :: sm :: (Q.map RtE.sg).flatten :: delN E i) w := h.eq (by simp)
    refine S_own (a := t.abs.r) h (RtE.rde hx (hQ _ hx) 6 rfl) hlf (Rw.nil0 encT (hQ _ hx)) fun v' sv w hrv' h => ?_
    ((try dsimp only [setN] at h); repeat (first | refine nn ?_ | (refine dr h ?_; clear h; (try clear w); intro w h) | refine ldC h ?_ | refine laC h ?_ | refine ckC h ?_ | (refine stC h ?_; clear h; (try clear w); intro w h; (try dsimp only [putN, setN] at h))))
    refine ⟨((t.abs.r.name, t.abs.r.cfg, v', t.abs.r.roll, ()), t.t.ver, true, ()), rfl, hk v' sv w hrv' ?_⟩
    have h := dl1_ (dl1_ h)
    have h : St w0 ((shB b bc br a.n ++ (sc ++ ([Cl br T_shelf_rack_api_Route [.map (some r), .func (.func n_spec_SameRoute) #[] #[]]] ++ (sm ++ (Q.map RtE.sg).flatten)))) :: sv :: delN E i) w := by
      have h : St w0 (sv :: shB b bc br a.n :: sc :: [Cl br T_shelf_rack_api_Route [.map (some r), .func (.func n_spec_SameRoute) #[] #[]]] :: sm :: (Q.map RtE.sg).flatten :: delN E i) w := h
      have h := fr5_ (fr5_ (fr5_ (fr5_ (fr5_ h))))
      exact h.eq (by simp)
    exact St.again (i + 1) (E := sv :: E) hi h
theorem shPutR_few {a : AShelf} (h : a.Few) (r : ARt) (ver : Int) : (shPutR a r ver).1.Few := by
  unfold shPutR
  split
  · exact h
  · rename_i h1
    split
    · exact h
    · intro x hx
      simp only [putRt] at hx
      rcases mset_mem hx with rfl | hx
      · exact specE_len (by simpa using h1)
      · exact h x hx
theorem shDrop_few {a : AShelf} (h : a.Few) (kind : Int) (n : ByteArray) (ver : Int) : (shDrop a kind n ver).1.Few := by
  unfold shDrop
  split
  · split <;> exact h
  · split
    · split
      · intro x hx
        simp only [dropRt] at hx
        rcases mset_mem hx with rfl | hx
        · simp
        · exact h x hx
      · exact h
    · exact h
theorem shPut_few {a : AShelf} (h : a.Few) (c : Cfg) (ver : Int) : (shPut a c ver).1.Few := by
  unfold shPut
  split
  · exact h
  · split <;> exact h
end Go.Proofs.YtpnbgpolbjbhpaaGreatDoor
