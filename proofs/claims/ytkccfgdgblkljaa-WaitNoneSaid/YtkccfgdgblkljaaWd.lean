/- Contracts of functions, and walks of laws (text Wd). No conditions beyond those its theorems state. -/
import Derived.Test.YtkccfgdgblkljaaWc
set_option linter.all false
namespace Go.Proofs.Ytkccfgdgblkljaa
open Go.Dm
attribute [local irreducible] L.load L.store L.chk L.new L.nonnil L.guard L.ite L.draw L.idx L.sem L.semR L.semU L.chkSem L.next L.call L.callV L.join L.alts L.loop L.begin L.endRound L.range
variable {w0 w : World} {E : List Seg}
theorem elO : El Pr T_s_damperref8_one T_damperref8_one 2 16 (.agg #[I 0, I 0]) := el_of (by kernel_rfl) (by kernel_rfl) rfl (by decide)
def LnX (b : Nat) (room : Int) (l : List (Int × Int)) (s : Seg) : Prop := ∃ v sr, Rw eH T_damperref8_one 2 v l sr ∧ s = [Cl b T_damperref8_Line [I room, SlV v]] ++ sr
theorem S_xNew (h : St w0 E w) {room : Int} {k : Option Addr → PT} (hk : ∀ b s w', LnX b room [] s → St w0 (s :: E) w' → k (some ⟨b, 0, none⟩) w') : L.call Pr n_damperref8_New [I room] (.one (.one .ptr)) k w := by
  refine call_of (C_damperref8_New _) ?_
  unfold F_damperref8_New
  refine nw h ?_; clear h; (try clear w); intro b w h
  exact ⟨_, rfl, hk b _ w ⟨⟨none, 0, 0⟩, [], Rw.nil, rfl⟩ (h.eq (by simp))⟩
theorem S_xLen (h : St w0 E w) (i : Nat) {b : Nat} {room : Int} {l : List (Int × Int)} {s : Seg} (hi : nth E i = some s) (hl : LnX b room l s) {k : Int → PT} (hk : k l.length w) : L.call Pr n_damperref8_Line_Len [.pointer (some ⟨b, 0, none⟩)] (.one (.one (.int .i64))) k w := by
  obtain ⟨v, sr, hr, rfl⟩ := hl
  refine call_of (C_damperref8_Line_Len _) ?_
  unfold F_damperref8_Line_Len
  have h := (h.front i hi).split
  (repeat (first | refine nn ?_ | (refine dr h ?_; clear h; (try clear w); intro w h) | refine ld0_ h rfl rfl ?_ | refine ld1_ h rfl rfl ?_ | refine ld2_ h rfl rfl ?_ | refine ld3_ h rfl rfl ?_ | refine ld4_ h rfl rfl ?_ | refine ld5_ h rfl rfl ?_ | refine ld6_ h rfl rfl ?_ | refine ld7_ h rfl rfl ?_ | refine ld8_ h rfl rfl ?_ | refine ld9_ h rfl rfl ?_ | refine ld10_ h rfl rfl ?_ | refine ld11_ h rfl rfl ?_ | refine la0_ h rfl ?_ | refine la1_ h rfl ?_ | refine la2_ h rfl ?_ | refine la3_ h rfl ?_ | refine la4_ h rfl ?_ | refine la5_ h rfl ?_ | refine la6_ h rfl ?_ | refine la7_ h rfl ?_ | refine la8_ h rfl ?_ | refine la9_ h rfl ?_ | refine la10_ h rfl ?_ | refine la11_ h rfl ?_ | refine ck0_ h rfl ?_ | refine ck1_ h rfl ?_ | refine ck2_ h rfl ?_ | refine ck3_ h rfl ?_ | refine ck4_ h rfl ?_ | refine ck5_ h rfl ?_ | refine ck6_ h rfl ?_ | refine ck7_ h rfl ?_ | refine ck8_ h rfl ?_ | refine ck9_ h rfl ?_ | refine ck10_ h rfl ?_ | refine ck11_ h rfl ?_ | ((first | refine st0_ h rfl rfl ?_ | refine st1_ h rfl rfl ?_ | refine st2_ h rfl rfl ?_ | refine st3_ h rfl rfl ?_ | refine st4_ h rfl rfl ?_ | refine st5_ h rfl rfl ?_ | refine st6_ h rfl rfl ?_ | refine st7_ h rfl rfl ?_ | refine st8_ h rfl rfl ?_ | refine st9_ h rfl rfl ?_ | refine st10_ h rfl rfl ?_ | refine st11_ h rfl rfl ?_); clear h; (try clear w); intro w h; (try dsimp only [putN, setN] at h))))
  refine ⟨_, rfl, ?_⟩
  rw [Rw.len encH hr]; exact hk
theorem S_xPop (h : St w0 E w) (i : Nat) {b : Nat} {room : Int} {l : List (Int × Int)} {s : Seg} (hi : nth E i = some s) (hl : LnX b room l s) {k : Int × Bool × Unit → PT}
    (hk : ∀ s' w', LnX b room (lPop l).1 s' → St w0 (setN E i s') w' → k ((lPop l).2.1, (lPop l).2.2, ()) w') : L.call Pr n_damperref8_Line_Pop [.pointer (some ⟨b, 0, none⟩)] (.tup [.one (.int .i64), .one .bool]) k w := by
  obtain ⟨v, sr, hr, rfl⟩ := hl
  refine call_of (C_damperref8_Line_Pop _) ?_
  unfold F_damperref8_Line_Pop
  have hlen := Rw.len encH hr
  have h := (h.front i hi).split
  (repeat (first | refine nn ?_ | (refine dr h ?_; clear h; (try clear w); intro w h) | refine ld0_ h rfl rfl ?_ | refine ld1_ h rfl rfl ?_ | refine ld2_ h rfl rfl ?_ | refine ld3_ h rfl rfl ?_ | refine ld4_ h rfl rfl ?_ | refine ld5_ h rfl rfl ?_ | refine ld6_ h rfl rfl ?_ | refine ld7_ h rfl rfl ?_ | refine ld8_ h rfl rfl ?_ | refine ld9_ h rfl rfl ?_ | refine ld10_ h rfl rfl ?_ | refine ld11_ h rfl rfl ?_ | refine la0_ h rfl ?_ | refine la1_ h rfl ?_ | refine la2_ h rfl ?_ | refine la3_ h rfl ?_ | refine la4_ h rfl ?_ | refine la5_ h rfl ?_ | refine la6_ h rfl ?_ | refine la7_ h rfl ?_ | refine la8_ h rfl ?_ | refine la9_ h rfl ?_ | refine la10_ h rfl ?_ | refine la11_ h rfl ?_ | refine ck0_ h rfl ?_ | refine ck1_ h rfl ?_ | refine ck2_ h rfl ?_ | refine ck3_ h rfl ?_ | refine ck4_ h rfl ?_ | refine ck5_ h rfl ?_ | refine ck6_ h rfl ?_ | refine ck7_ h rfl ?_ | refine ck8_ h rfl ?_ | refine ck9_ h rfl ?_ | refine ck10_ h rfl ?_ | refine ck11_ h rfl ?_ | ((first | refine st0_ h rfl rfl ?_ | refine st1_ h rfl rfl ?_ | refine st2_ h rfl rfl ?_ | refine st3_ h rfl rfl ?_ | refine st4_ h rfl rfl ?_ | refine st5_ h rfl rfl ?_ | refine st6_ h rfl rfl ?_ | refine st7_ h rfl rfl ?_ | refine st8_ h rfl rfl ?_ | refine st9_ h rfl rfl ?_ | refine st10_ h rfl rfl ?_ | refine st11_ h rfl rfl ?_); clear h; (try clear w); intro w h; (try dsimp only [putN, setN] at h))))
  refine it (fun hb => ?_) (fun hb => ?_) <;> (try simp only [decide_eq_true_eq, decide_eq_false_iff_not, beq_iff_eq, bne_iff_ne, beq_eq_false_iff_ne, bne_eq_false_iff_eq, Bool.not_eq_true', Bool.not_eq_false', ne_eq, Bool.not_eq_true, Bool.not_eq_false] at hb)
  · cases l with
    | nil => exact ⟨(0, false, ()), rfl, hk _ w ⟨v, sr, hr, rfl⟩ (St.back i hi h.glue)⟩
    | cons x l => simp only [List.length_cons] at hlen; omega
  · cases l with
    | nil => simp only [List.length_nil] at hlen; omega
    | cons x l =>
      have hc := hr.cap
      have hr' := Rw.behind encH hr 1 (by simp)
      (repeat (first | refine nn ?_ | (refine dr h ?_; clear h; (try clear w); intro w h) | refine ld0_ h rfl rfl ?_ | refine ld1_ h rfl rfl ?_ | refine ld2_ h rfl rfl ?_ | refine ld3_ h rfl rfl ?_ | refine ld4_ h rfl rfl ?_ | refine ld5_ h rfl rfl ?_ | refine ld6_ h rfl rfl ?_ | refine ld7_ h rfl rfl ?_ | refine ld8_ h rfl rfl ?_ | refine ld9_ h rfl rfl ?_ | refine ld10_ h rfl rfl ?_ | refine ld11_ h rfl rfl ?_ | refine la0_ h rfl ?_ | refine la1_ h rfl ?_ | refine la2_ h rfl ?_ | refine la3_ h rfl ?_ | refine la4_ h rfl ?_ | refine la5_ h rfl ?_ | refine la6_ h rfl ?_ | refine la7_ h rfl ?_ | refine la8_ h rfl ?_ | refine la9_ h rfl ?_ | refine la10_ h rfl ?_ | refine la11_ h rfl ?_ | refine ck0_ h rfl ?_ | refine ck1_ h rfl ?_ | refine ck2_ h rfl ?_ | refine ck3_ h rfl ?_ | refine ck4_ h rfl ?_ | refine ck5_ h rfl ?_ | refine ck6_ h rfl ?_ | refine ck7_ h rfl ?_ | refine ck8_ h rfl ?_ | refine ck9_ h rfl ?_ | refine ck10_ h rfl ?_ | refine ck11_ h rfl ?_ | ((first | refine st0_ h rfl rfl ?_ | refine st1_ h rfl rfl ?_ | refine st2_ h rfl rfl ?_ | refine st3_ h rfl rfl ?_ | refine st4_ h rfl rfl ?_ | refine st5_ h rfl rfl ?_ | refine st6_ h rfl rfl ?_ | refine st7_ h rfl rfl ?_ | refine st8_ h rfl rfl ?_ | refine st9_ h rfl rfl ?_ | refine st10_ h rfl rfl ?_ | refine st11_ h rfl rfl ?_); clear h; (try clear w); intro w h; (try dsimp only [putN, setN] at h))))
      refine Rw.ix encH hr (by omega) (by simp) fun a ha => ?_
      refine Rw.ld encH h 1 rfl hr ha (x := x) (by simp) rfl rfl ?_
      (repeat (first | refine nn ?_ | (refine dr h ?_; clear h; (try clear w); intro w h) | refine ld0_ h rfl rfl ?_ | refine ld1_ h rfl rfl ?_ | refine ld2_ h rfl rfl ?_ | refine ld3_ h rfl rfl ?_ | refine ld4_ h rfl rfl ?_ | refine ld5_ h rfl rfl ?_ | refine ld6_ h rfl rfl ?_ | refine ld7_ h rfl rfl ?_ | refine ld8_ h rfl rfl ?_ | refine ld9_ h rfl rfl ?_ | refine ld10_ h rfl rfl ?_ | refine ld11_ h rfl rfl ?_ | refine la0_ h rfl ?_ | refine la1_ h rfl ?_ | refine la2_ h rfl ?_ | refine la3_ h rfl ?_ | refine la4_ h rfl ?_ | refine la5_ h rfl ?_ | refine la6_ h rfl ?_ | refine la7_ h rfl ?_ | refine la8_ h rfl ?_ | refine la9_ h rfl ?_ | refine la10_ h rfl ?_ | refine la11_ h rfl ?_ | refine ck0_ h rfl ?_ | refine ck1_ h rfl ?_ | refine ck2_ h rfl ?_ | refine ck3_ h rfl ?_ | refine ck4_ h rfl ?_ | refine ck5_ h rfl ?_ | refine ck6_ h rfl ?_ | refine ck7_ h rfl ?_ | refine ck8_ h rfl ?_ | refine ck9_ h rfl ?_ | refine ck10_ h rfl ?_ | refine ck11_ h rfl ?_ | ((first | refine st0_ h rfl rfl ?_ | refine st1_ h rfl rfl ?_ | refine st2_ h rfl rfl ?_ | refine st3_ h rfl rfl ?_ | refine st4_ h rfl rfl ?_ | refine st5_ h rfl rfl ?_ | refine st6_ h rfl rfl ?_ | refine st7_ h rfl rfl ?_ | refine st8_ h rfl rfl ?_ | refine st9_ h rfl rfl ?_ | refine st10_ h rfl rfl ?_ | refine st11_ h rfl rfl ?_); clear h; (try clear w); intro w h; (try dsimp only [putN, setN] at h))))
      refine gd (by (try dsimp only); omega) ?_
      (repeat (first | refine nn ?_ | (refine dr h ?_; clear h; (try clear w); intro w h) | refine ld0_ h rfl rfl ?_ | refine ld1_ h rfl rfl ?_ | refine ld2_ h rfl rfl ?_ | refine ld3_ h rfl rfl ?_ | refine ld4_ h rfl rfl ?_ | refine ld5_ h rfl rfl ?_ | refine ld6_ h rfl rfl ?_ | refine ld7_ h rfl rfl ?_ | refine ld8_ h rfl rfl ?_ | refine ld9_ h rfl rfl ?_ | refine ld10_ h rfl rfl ?_ | refine ld11_ h rfl rfl ?_ | refine la0_ h rfl ?_ | refine la1_ h rfl ?_ | refine la2_ h rfl ?_ | refine la3_ h rfl ?_ | refine la4_ h rfl ?_ | refine la5_ h rfl ?_ | refine la6_ h rfl ?_ | refine la7_ h rfl ?_ | refine la8_ h rfl ?_ | refine la9_ h rfl ?_ | refine la10_ h rfl ?_ | refine la11_ h rfl ?_ | refine ck0_ h rfl ?_ | refine ck1_ h rfl ?_ | refine ck2_ h rfl ?_ | refine ck3_ h rfl ?_ | refine ck4_ h rfl ?_ | refine ck5_ h rfl ?_ | refine ck6_ h rfl ?_ | refine ck7_ h rfl ?_ | refine ck8_ h rfl ?_ | refine ck9_ h rfl ?_ | refine ck10_ h rfl ?_ | refine ck11_ h rfl ?_ | ((first | refine st0_ h rfl rfl ?_ | refine st1_ h rfl rfl ?_ | refine st2_ h rfl rfl ?_ | refine st3_ h rfl rfl ?_ | refine st4_ h rfl rfl ?_ | refine st5_ h rfl rfl ?_ | refine st6_ h rfl rfl ?_ | refine st7_ h rfl rfl ?_ | refine st8_ h rfl rfl ?_ | refine st9_ h rfl rfl ?_ | refine st10_ h rfl rfl ?_ | refine st11_ h rfl rfl ?_); clear h; (try clear w); intro w h; (try dsimp only [putN, setN] at h))))
      simp only [Int.toNat_natCast, show Int.toNat 1 = 1 from rfl] at h
      exact ⟨(x.1, true, ()), rfl, hk _ w ⟨_, sr, hr', rfl⟩ (St.back i hi h.glue)⟩
theorem S_xPush (h : St w0 E w) (i : Nat) {b : Nat} {room : Int} {l : List (Int × Int)} {s : Seg} (hi : nth E i = some s) (hl : LnX b room l s) (hn : l.length < 1000000000) {id u : Int} {k : Int → PT}
    (hk : ∀ s' w', LnX b room (lPush room l id u).1 s' → St w0 (setN E i s') w' → k (lPush room l id u).2 w') : L.call Pr n_damperref8_Line_Push [.pointer (some ⟨b, 0, none⟩), I id, I u] (.one (.one (.int .i64))) k w := by
  obtain ⟨v, sr, hr, rfl⟩ := hl
  refine call_of (C_damperref8_Line_Push _ _ _) ?_
  unfold F_damperref8_Line_Push
  have hlen := Rw.len encH hr
  have h := (h.front i hi).split
  refine loop_of (fun q y w => ∃ m : Nat, y = ((m : Int), ()) ∧ q + m = l.length ∧ lHas (l.take m) id = false ∧ St w0 ([Cl b T_damperref8_Line [I room, SlV v]] :: sr :: delN E i) w) l.length ⟨0, rfl, rfl, rfl, h⟩ ?_
  clear h; (try clear w)
  rintro q y w ⟨m, rfl, hq, hf, h⟩ again hag
  dsimp only
  (repeat (first | refine nn ?_ | (refine dr h ?_; clear h; (try clear w); intro w h) | refine ld0_ h rfl rfl ?_ | refine ld1_ h rfl rfl ?_ | refine ld2_ h rfl rfl ?_ | refine ld3_ h rfl rfl ?_ | refine ld4_ h rfl rfl ?_ | refine ld5_ h rfl rfl ?_ | refine ld6_ h rfl rfl ?_ | refine ld7_ h rfl rfl ?_ | refine ld8_ h rfl rfl ?_ | refine ld9_ h rfl rfl ?_ | refine ld10_ h rfl rfl ?_ | refine ld11_ h rfl rfl ?_ | refine la0_ h rfl ?_ | refine la1_ h rfl ?_ | refine la2_ h rfl ?_ | refine la3_ h rfl ?_ | refine la4_ h rfl ?_ | refine la5_ h rfl ?_ | refine la6_ h rfl ?_ | refine la7_ h rfl ?_ | refine la8_ h rfl ?_ | refine la9_ h rfl ?_ | refine la10_ h rfl ?_ | refine la11_ h rfl ?_ | refine ck0_ h rfl ?_ | refine ck1_ h rfl ?_ | refine ck2_ h rfl ?_ | refine ck3_ h rfl ?_ | refine ck4_ h rfl ?_ | refine ck5_ h rfl ?_ | refine ck6_ h rfl ?_ | refine ck7_ h rfl ?_ | refine ck8_ h rfl ?_ | refine ck9_ h rfl ?_ | refine ck10_ h rfl ?_ | refine ck11_ h rfl ?_ | ((first | refine st0_ h rfl rfl ?_ | refine st1_ h rfl rfl ?_ | refine st2_ h rfl rfl ?_ | refine st3_ h rfl rfl ?_ | refine st4_ h rfl rfl ?_ | refine st5_ h rfl rfl ?_ | refine st6_ h rfl rfl ?_ | refine st7_ h rfl rfl ?_ | refine st8_ h rfl rfl ?_ | refine st9_ h rfl rfl ?_ | refine st10_ h rfl rfl ?_ | refine st11_ h rfl rfl ?_); clear h; (try clear w); intro w h; (try dsimp only [putN, setN] at h))))
  refine it (fun hb => ?_) (fun hb => ?_) <;> (try simp only [decide_eq_true_eq, decide_eq_false_iff_not, beq_iff_eq, bne_iff_ne, beq_eq_false_iff_ne, bne_eq_false_iff_eq, Bool.not_eq_true', Bool.not_eq_false', ne_eq, Bool.not_eq_true, Bool.not_eq_false] at hb)
  · have hm : m < l.length := by omega
    have hx : l[m]? = some l[m] := List.getElem?_eq_getElem hm
    (repeat (first | refine nn ?_ | (refine dr h ?_; clear h; (try clear w); intro w h) | refine ld0_ h rfl rfl ?_ | refine ld1_ h rfl rfl ?_ | refine ld2_ h rfl rfl ?_ | refine ld3_ h rfl rfl ?_ | refine ld4_ h rfl rfl ?_ | refine ld5_ h rfl rfl ?_ | refine ld6_ h rfl rfl ?_ | refine ld7_ h rfl rfl ?_ | refine ld8_ h rfl rfl ?_ | refine ld9_ h rfl rfl ?_ | refine ld10_ h rfl rfl ?_ | refine ld11_ h rfl rfl ?_ | refine la0_ h rfl ?_ | refine la1_ h rfl ?_ | refine la2_ h rfl ?_ | refine la3_ h rfl ?_ | refine la4_ h rfl ?_ | refine la5_ h rfl ?_ | refine la6_ h rfl ?_ | refine la7_ h rfl ?_ | refine la8_ h rfl ?_ | refine la9_ h rfl ?_ | refine la10_ h rfl ?_ | refine la11_ h rfl ?_ | refine ck0_ h rfl ?_ | refine ck1_ h rfl ?_ | refine ck2_ h rfl ?_ | refine ck3_ h rfl ?_ | refine ck4_ h rfl ?_ | refine ck5_ h rfl ?_ | refine ck6_ h rfl ?_ | refine ck7_ h rfl ?_ | refine ck8_ h rfl ?_ | refine ck9_ h rfl ?_ | refine ck10_ h rfl ?_ | refine ck11_ h rfl ?_ | ((first | refine st0_ h rfl rfl ?_ | refine st1_ h rfl rfl ?_ | refine st2_ h rfl rfl ?_ | refine st3_ h rfl rfl ?_ | refine st4_ h rfl rfl ?_ | refine st5_ h rfl rfl ?_ | refine st6_ h rfl rfl ?_ | refine st7_ h rfl rfl ?_ | refine st8_ h rfl rfl ?_ | refine st9_ h rfl rfl ?_ | refine st10_ h rfl rfl ?_ | refine st11_ h rfl rfl ?_); clear h; (try clear w); intro w h; (try dsimp only [putN, setN] at h))))
    refine Rw.ix encH hr (by omega) (by simpa using hm) fun a ha => ?_
    refine Rw.ld encH h 1 rfl hr ha (x := l[m]) (by simpa using hx) rfl rfl ?_
    refine it (fun hc => ?_) (fun hc => ?_) <;> (try simp only [decide_eq_true_eq, decide_eq_false_iff_not, beq_iff_eq, bne_iff_ne, beq_eq_false_iff_ne, bne_eq_false_iff_eq, Bool.not_eq_true', Bool.not_eq_false', ne_eq, Bool.not_eq_true, Bool.not_eq_false] at hc)
    · have e : lPush room l id u = (l, 5) := by simp [lPush, lHas_of hx hc]
      rw [e] at hk
      exact ⟨_, rfl, hk _ w ⟨v, sr, hr, rfl⟩ (St.back i hi h.glue)⟩
    · refine hag (q - 1) _ _ (by omega) ⟨m + 1, ?_, by omega, ?_, h⟩
      · rw [wr (by omega) (by omega)]; simp
      · rw [lHas_take hx, hf]; simpa using hc
  · have e : m = l.length := by omega
    subst e
    rw [List.take_length] at hf
    (repeat (first | refine nn ?_ | (refine dr h ?_; clear h; (try clear w); intro w h) | refine ld0_ h rfl rfl ?_ | refine ld1_ h rfl rfl ?_ | refine ld2_ h rfl rfl ?_ | refine ld3_ h rfl rfl ?_ | refine ld4_ h rfl rfl ?_ | refine ld5_ h rfl rfl ?_ | refine ld6_ h rfl rfl ?_ | refine ld7_ h rfl rfl ?_ | refine ld8_ h rfl rfl ?_ | refine ld9_ h rfl rfl ?_ | refine ld10_ h rfl rfl ?_ | refine ld11_ h rfl rfl ?_ | refine la0_ h rfl ?_ | refine la1_ h rfl ?_ | refine la2_ h rfl ?_ | refine la3_ h rfl ?_ | refine la4_ h rfl ?_ | refine la5_ h rfl ?_ | refine la6_ h rfl ?_ | refine la7_ h rfl ?_ | refine la8_ h rfl ?_ | refine la9_ h rfl ?_ | refine la10_ h rfl ?_ | refine la11_ h rfl ?_ | refine ck0_ h rfl ?_ | refine ck1_ h rfl ?_ | refine ck2_ h rfl ?_ | refine ck3_ h rfl ?_ | refine ck4_ h rfl ?_ | refine ck5_ h rfl ?_ | refine ck6_ h rfl ?_ | refine ck7_ h rfl ?_ | refine ck8_ h rfl ?_ | refine ck9_ h rfl ?_ | refine ck10_ h rfl ?_ | refine ck11_ h rfl ?_ | ((first | refine st0_ h rfl rfl ?_ | refine st1_ h rfl rfl ?_ | refine st2_ h rfl rfl ?_ | refine st3_ h rfl rfl ?_ | refine st4_ h rfl rfl ?_ | refine st5_ h rfl rfl ?_ | refine st6_ h rfl rfl ?_ | refine st7_ h rfl rfl ?_ | refine st8_ h rfl rfl ?_ | refine st9_ h rfl rfl ?_ | refine st10_ h rfl rfl ?_ | refine st11_ h rfl rfl ?_); clear h; (try clear w); intro w h; (try dsimp only [putN, setN] at h))))
    refine it (fun hc => ?_) (fun hc => ?_) <;> (try simp only [decide_eq_true_eq, decide_eq_false_iff_not, beq_iff_eq, bne_iff_ne, beq_eq_false_iff_ne, bne_eq_false_iff_eq, Bool.not_eq_true', Bool.not_eq_false', ne_eq, Bool.not_eq_true, Bool.not_eq_false] at hc)
    · have e : lPush room l id u = (l, 8) := by simp only [lPush, hf]; rw [if_neg (by simp), if_pos (by omega)]
      rw [e] at hk
      exact ⟨_, rfl, hk _ w ⟨v, sr, hr, rfl⟩ (St.back i hi h.glue)⟩
    · have e : lPush room l id u = (l ++ [(id, u)], 0) := by simp only [lPush, hf]; rw [if_neg (by simp), if_neg (by omega)]
      rw [e] at hk
      (repeat (first | refine nn ?_ | (refine dr h ?_; clear h; (try clear w); intro w h) | refine ld0_ h rfl rfl ?_ | refine ld1_ h rfl rfl ?_ | refine ld2_ h rfl rfl ?_ | refine ld3_ h rfl rfl ?_ | refine ld4_ h rfl rfl ?_ | refine ld5_ h rfl rfl ?_ | refine ld6_ h rfl rfl ?_ | refine ld7_ h rfl rfl ?_ | refine ld8_ h rfl rfl ?_ | refine ld9_ h rfl rfl ?_ | refine ld10_ h rfl rfl ?_ | refine ld11_ h rfl rfl ?_ | refine la0_ h rfl ?_ | refine la1_ h rfl ?_ | refine la2_ h rfl ?_ | refine la3_ h rfl ?_ | refine la4_ h rfl ?_ | refine la5_ h rfl ?_ | refine la6_ h rfl ?_ | refine la7_ h rfl ?_ | refine la8_ h rfl ?_ | refine la9_ h rfl ?_ | refine la10_ h rfl ?_ | refine la11_ h rfl ?_ | refine ck0_ h rfl ?_ | refine ck1_ h rfl ?_ | refine ck2_ h rfl ?_ | refine ck3_ h rfl ?_ | refine ck4_ h rfl ?_ | refine ck5_ h rfl ?_ | refine ck6_ h rfl ?_ | refine ck7_ h rfl ?_ | refine ck8_ h rfl ?_ | refine ck9_ h rfl ?_ | refine ck10_ h rfl ?_ | refine ck11_ h rfl ?_ | ((first | refine st0_ h rfl rfl ?_ | refine st1_ h rfl rfl ?_ | refine st2_ h rfl rfl ?_ | refine st3_ h rfl rfl ?_ | refine st4_ h rfl rfl ?_ | refine st5_ h rfl rfl ?_ | refine st6_ h rfl rfl ?_ | refine st7_ h rfl rfl ?_ | refine st8_ h rfl rfl ?_ | refine st9_ h rfl rfl ?_ | refine st10_ h rfl rfl ?_ | refine st11_ h rfl rfl ?_); clear h; (try clear w); intro w h; (try dsimp only [putN, setN] at h))))
      refine nw h ?_; clear h; (try clear w); intro b8 w h
      refine Rw.app encH elO h 1 rfl hr (id, u) rfl (by omega) (by omega) fun v' s' w hr h => ?_
      (repeat (first | refine nn ?_ | (refine dr h ?_; clear h; (try clear w); intro w h) | refine ld0_ h rfl rfl ?_ | refine ld1_ h rfl rfl ?_ | refine ld2_ h rfl rfl ?_ | refine ld3_ h rfl rfl ?_ | refine ld4_ h rfl rfl ?_ | refine ld5_ h rfl rfl ?_ | refine ld6_ h rfl rfl ?_ | refine ld7_ h rfl rfl ?_ | refine ld8_ h rfl rfl ?_ | refine ld9_ h rfl rfl ?_ | refine ld10_ h rfl rfl ?_ | refine ld11_ h rfl rfl ?_ | refine la0_ h rfl ?_ | refine la1_ h rfl ?_ | refine la2_ h rfl ?_ | refine la3_ h rfl ?_ | refine la4_ h rfl ?_ | refine la5_ h rfl ?_ | refine la6_ h rfl ?_ | refine la7_ h rfl ?_ | refine la8_ h rfl ?_ | refine la9_ h rfl ?_ | refine la10_ h rfl ?_ | refine la11_ h rfl ?_ | refine ck0_ h rfl ?_ | refine ck1_ h rfl ?_ | refine ck2_ h rfl ?_ | refine ck3_ h rfl ?_ | refine ck4_ h rfl ?_ | refine ck5_ h rfl ?_ | refine ck6_ h rfl ?_ | refine ck7_ h rfl ?_ | refine ck8_ h rfl ?_ | refine ck9_ h rfl ?_ | refine ck10_ h rfl ?_ | refine ck11_ h rfl ?_ | ((first | refine st0_ h rfl rfl ?_ | refine st1_ h rfl rfl ?_ | refine st2_ h rfl rfl ?_ | refine st3_ h rfl rfl ?_ | refine st4_ h rfl rfl ?_ | refine st5_ h rfl rfl ?_ | refine st6_ h rfl rfl ?_ | refine st7_ h rfl rfl ?_ | refine st8_ h rfl rfl ?_ | refine st9_ h rfl rfl ?_ | refine st10_ h rfl rfl ?_ | refine st11_ h rfl rfl ?_); clear h; (try clear w); intro w h; (try dsimp only [putN, setN] at h))))
      exact ⟨_, rfl, hk _ w ⟨v', s', hr, rfl⟩ (St.back i hi h.glue)⟩
theorem S_xAll (h : St w0 E w) (i : Nat) {b : Nat} {room : Int} {l : List (Int × Int)} {s : Seg} (hi : nth E i = some s) (hl : LnX b room l s) (hn : l.length < 1000000000) {k : Sl → PT}
    (hk : ∀ v s' w', Rw eI T_int 1 v (l.map (·.1)) s' → St w0 (s' :: E) w' → k v w') : L.call Pr n_damperref8_Line_All [.pointer (some ⟨b, 0, none⟩)] (.one (.one .slice)) k w := by
  obtain ⟨v, sr, hr, rfl⟩ := hl
  refine call_of (C_damperref8_Line_All _) ?_
  unfold F_damperref8_Line_All
  have hlen := Rw.len encH hr
  have h := (h.front i hi).split
  have h : St w0 ([] :: [Cl b T_damperref8_Line [I room, SlV v]] :: sr :: delN E i) w := h.eq (by simp)
  refine loop_of (fun q y w => ∃ (m : Nat) (v2 : Sl) (s2 : Seg), y = (v2, (m : Int), ()) ∧ q + m = l.length ∧ Rw eI T_int 1 v2 ((l.take m).map (·.1)) s2 ∧ St w0 (s2 :: [Cl b T_damperref8_Line [I room, SlV v]] :: sr :: delN E i) w) l.length ⟨0, _, [], rfl, rfl, Rw.nil, h⟩ ?_
  clear h; (try clear w)
  rintro q y w ⟨m, v2, s2, rfl, hq, hr2, h⟩ again hag
  dsimp only
  (repeat (first | refine nn ?_ | (refine dr h ?_; clear h; (try clear w); intro w h) | refine ld0_ h rfl rfl ?_ | refine ld1_ h rfl rfl ?_ | refine ld2_ h rfl rfl ?_ | refine ld3_ h rfl rfl ?_ | refine ld4_ h rfl rfl ?_ | refine ld5_ h rfl rfl ?_ | refine ld6_ h rfl rfl ?_ | refine ld7_ h rfl rfl ?_ | refine ld8_ h rfl rfl ?_ | refine ld9_ h rfl rfl ?_ | refine ld10_ h rfl rfl ?_ | refine ld11_ h rfl rfl ?_ | refine la0_ h rfl ?_ | refine la1_ h rfl ?_ | refine la2_ h rfl ?_ | refine la3_ h rfl ?_ | refine la4_ h rfl ?_ | refine la5_ h rfl ?_ | refine la6_ h rfl ?_ | refine la7_ h rfl ?_ | refine la8_ h rfl ?_ | refine la9_ h rfl ?_ | refine la10_ h rfl ?_ | refine la11_ h rfl ?_ | refine ck0_ h rfl ?_ | refine ck1_ h rfl ?_ | refine ck2_ h rfl ?_ | refine ck3_ h rfl ?_ | refine ck4_ h rfl ?_ | refine ck5_ h rfl ?_ | refine ck6_ h rfl ?_ | refine ck7_ h rfl ?_ | refine ck8_ h rfl ?_ | refine ck9_ h rfl ?_ | refine ck10_ h rfl ?_ | refine ck11_ h rfl ?_ | ((first | refine st0_ h rfl rfl ?_ | refine st1_ h rfl rfl ?_ | refine st2_ h rfl rfl ?_ | refine st3_ h rfl rfl ?_ | refine st4_ h rfl rfl ?_ | refine st5_ h rfl rfl ?_ | refine st6_ h rfl rfl ?_ | refine st7_ h rfl rfl ?_ | refine st8_ h rfl rfl ?_ | refine st9_ h rfl rfl ?_ | refine st10_ h rfl rfl ?_ | refine st11_ h rfl rfl ?_); clear h; (try clear w); intro w h; (try dsimp only [putN, setN] at h))))
  refine it (fun hb => ?_) (fun hb => ?_) <;> (try simp only [decide_eq_true_eq, decide_eq_false_iff_not, beq_iff_eq, bne_iff_ne, beq_eq_false_iff_ne, bne_eq_false_iff_eq, Bool.not_eq_true', Bool.not_eq_false', ne_eq, Bool.not_eq_true, Bool.not_eq_false] at hb)
  · have hm : m < l.length := by omega
    have hx : l[m]? = some l[m] := List.getElem?_eq_getElem hm
    (repeat (first | refine nn ?_ | (refine dr h ?_; clear h; (try clear w); intro w h) | refine ld0_ h rfl rfl ?_ | refine ld1_ h rfl rfl ?_ | refine ld2_ h rfl rfl ?_ | refine ld3_ h rfl rfl ?_ | refine ld4_ h rfl rfl ?_ | refine ld5_ h rfl rfl ?_ | refine ld6_ h rfl rfl ?_ | refine ld7_ h rfl rfl ?_ | refine ld8_ h rfl rfl ?_ | refine ld9_ h rfl rfl ?_ | refine ld10_ h rfl rfl ?_ | refine ld11_ h rfl rfl ?_ | refine la0_ h rfl ?_ | refine la1_ h rfl ?_ | refine la2_ h rfl ?_ | refine la3_ h rfl ?_ | refine la4_ h rfl ?_ | refine la5_ h rfl ?_ | refine la6_ h rfl ?_ | refine la7_ h rfl ?_ | refine la8_ h rfl ?_ | refine la9_ h rfl ?_ | refine la10_ h rfl ?_ | refine la11_ h rfl ?_ | refine ck0_ h rfl ?_ | refine ck1_ h rfl ?_ | refine ck2_ h rfl ?_ | refine ck3_ h rfl ?_ | refine ck4_ h rfl ?_ | refine ck5_ h rfl ?_ | refine ck6_ h rfl ?_ | refine ck7_ h rfl ?_ | refine ck8_ h rfl ?_ | refine ck9_ h rfl ?_ | refine ck10_ h rfl ?_ | refine ck11_ h rfl ?_ | ((first | refine st0_ h rfl rfl ?_ | refine st1_ h rfl rfl ?_ | refine st2_ h rfl rfl ?_ | refine st3_ h rfl rfl ?_ | refine st4_ h rfl rfl ?_ | refine st5_ h rfl rfl ?_ | refine st6_ h rfl rfl ?_ | refine st7_ h rfl rfl ?_ | refine st8_ h rfl rfl ?_ | refine st9_ h rfl rfl ?_ | refine st10_ h rfl rfl ?_ | refine st11_ h rfl rfl ?_); clear h; (try clear w); intro w h; (try dsimp only [putN, setN] at h))))
    refine Rw.ix encH hr (by omega) (by simpa using hm) fun a ha => ?_
    refine Rw.ld encH h 2 rfl hr ha (x := l[m]) (by simpa using hx) rfl rfl ?_
    refine nw h ?_; clear h; (try clear w); intro b9 w h
    refine Rw.app encI elI h 0 rfl hr2 l[m].1 rfl (by simp; omega) (by simp; omega) fun v' s' w hr' h => ?_
    refine hag (q - 1) _ _ (by omega) ⟨m + 1, v', s', ?_, by omega, ?_, h⟩
    · rw [wr (by omega) (by omega)]; simp
    · rw [List.take_add_one, hx, List.map_append]; exact hr'
  · have e : m = l.length := by omega
    subst e
    rw [List.take_length] at hr2
    refine ⟨v2, rfl, hk v2 s2 w hr2 ?_⟩
    have h := fr2_ (fr2_ h)
    exact St.setN_same (i + 1) (E := s2 :: E) hi (St.back (i + 1) (E := s2 :: E) hi h.glue)
theorem S_xLate (h : St w0 E w) (i : Nat) {b : Nat} {room : Int} {l : List (Int × Int)} {s : Seg} (hi : nth E i = some s) (hl : LnX b room l s) (hn : l.length < 1000000000) {now : Int} {k : Sl → PT}
    (hk : ∀ v s' s2 w', LnX b room (lRest l now) s' → Rw eI T_int 1 v (lLate l now) s2 → St w0 (s2 :: setN E i s') w' → k v w') : L.call Pr n_damperref8_Line_Late [.pointer (some ⟨b, 0, none⟩), I now] (.one (.one .slice)) k w := by
  obtain ⟨v, sr, hr, rfl⟩ := hl
  refine call_of (C_damperref8_Line_Late _ _) ?_
  unfold F_damperref8_Line_Late
  have hlen := Rw.len encH hr
  have h := (h.front i hi).split
  have h : St w0 ([] :: [] :: [Cl b T_damperref8_Line [I room, SlV v]] :: sr :: delN E i) w := h.eq (by simp)
  refine loop_of (fun q y w => ∃ (m : Nat) (v2 v3 : Sl) (s2 s3 : Seg), y = (v2, v3, (m : Int), ()) ∧ q + m = l.length ∧ Rw eI T_int 1 v2 (lLate (l.take m) now) s2 ∧ Rw eH T_damperref8_one 2 v3 (lRest (l.take m) now) s3 ∧ St w0 (s2 :: s3 :: [Cl b T_damperref8_Line [I room, SlV v]] :: sr :: delN E i) w) l.length ⟨0, _, _, [], [], rfl, rfl, Rw.nil, Rw.nil, h⟩ ?_
  clear h; (try clear w)
  rintro q y w ⟨m, v2, v3, s2, s3, rfl, hq, hr2, hr3, h⟩ again hag
  dsimp only
  have n2 := lLate_len (l.take m) now
  have n3 := lRest_len (l.take m) now
  simp only [List.length_take] at n2 n3
  (repeat (first | refine nn ?_ | (refine dr h ?_; clear h; (try clear w); intro w h) | refine ld0_ h rfl rfl ?_ | refine ld1_ h rfl rfl ?_ | refine ld2_ h rfl rfl ?_ | refine ld3_ h rfl rfl ?_ | refine ld4_ h rfl rfl ?_ | refine ld5_ h rfl rfl ?_ | refine ld6_ h rfl rfl ?_ | refine ld7_ h rfl rfl ?_ | refine ld8_ h rfl rfl ?_ | refine ld9_ h rfl rfl ?_ | refine ld10_ h rfl rfl ?_ | refine ld11_ h rfl rfl ?_ | refine la0_ h rfl ?_ | refine la1_ h rfl ?_ | refine la2_ h rfl ?_ | refine la3_ h rfl ?_ | refine la4_ h rfl ?_ | refine la5_ h rfl ?_ | refine la6_ h rfl ?_ | refine la7_ h rfl ?_ | refine la8_ h rfl ?_ | refine la9_ h rfl ?_ | refine la10_ h rfl ?_ | refine la11_ h rfl ?_ | refine ck0_ h rfl ?_ | refine ck1_ h rfl ?_ | refine ck2_ h rfl ?_ | refine ck3_ h rfl ?_ | refine ck4_ h rfl ?_ | refine ck5_ h rfl ?_ | refine ck6_ h rfl ?_ | refine ck7_ h rfl ?_ | refine ck8_ h rfl ?_ | refine ck9_ h rfl ?_ | refine ck10_ h rfl ?_ | refine ck11_ h rfl ?_ | ((first | refine st0_ h rfl rfl ?_ | refine st1_ h rfl rfl ?_ | refine st2_ h rfl rfl ?_ | refine st3_ h rfl rfl ?_ | refine st4_ h rfl rfl ?_ | refine st5_ h rfl rfl ?_ | refine st6_ h rfl rfl ?_ | refine st7_ h rfl rfl ?_ | refine st8_ h rfl rfl ?_ | refine st9_ h rfl rfl ?_ | refine st10_ h rfl rfl ?_ | refine st11_ h rfl rfl ?_); clear h; (try clear w); intro w h; (try dsimp only [putN, setN] at h))))
  refine it (fun hb => ?_) (fun hb => ?_) <;> (try simp only [decide_eq_true_eq, decide_eq_false_iff_not, beq_iff_eq, bne_iff_ne, beq_eq_false_iff_ne, bne_eq_false_iff_eq, Bool.not_eq_true', Bool.not_eq_false', ne_eq, Bool.not_eq_true, Bool.not_eq_false] at hb)
  · have hm : m < l.length := by omega
    have hx : l[m]? = some l[m] := List.getElem?_eq_getElem hm
    refine join_of (fun z w => ∃ s2 s3, Rw eI T_int 1 z.1 (lLate (l.take (m + 1)) now) s2 ∧ Rw eH T_damperref8_one 2 z.2.1 (lRest (l.take (m + 1)) now) s3 ∧ St w0 (s2 :: s3 :: [Cl b T_damperref8_Line [I room, SlV v]] :: sr :: delN E i) w) (fun k5 hk5 => ?_) (fun z w ⟨s2, s3, hr2, hr3, h⟩ => ?_)
    · (repeat (first | refine nn ?_ | (refine dr h ?_; clear h; (try clear w); intro w h) | refine ld0_ h rfl rfl ?_ | refine ld1_ h rfl rfl ?_ | refine ld2_ h rfl rfl ?_ | refine ld3_ h rfl rfl ?_ | refine ld4_ h rfl rfl ?_ | refine ld5_ h rfl rfl ?_ | refine ld6_ h rfl rfl ?_ | refine ld7_ h rfl rfl ?_ | refine ld8_ h rfl rfl ?_ | refine ld9_ h rfl rfl ?_ | refine ld10_ h rfl rfl ?_ | refine ld11_ h rfl rfl ?_ | refine la0_ h rfl ?_ | refine la1_ h rfl ?_ | refine la2_ h rfl ?_ | refine la3_ h rfl ?_ | refine la4_ h rfl ?_ | refine la5_ h rfl ?_ | refine la6_ h rfl ?_ | refine la7_ h rfl ?_ | refine la8_ h rfl ?_ | refine la9_ h rfl ?_ | refine la10_ h rfl ?_ | refine la11_ h rfl ?_ | refine ck0_ h rfl ?_ | refine ck1_ h rfl ?_ | refine ck2_ h rfl ?_ | refine ck3_ h rfl ?_ | refine ck4_ h rfl ?_ | refine ck5_ h rfl ?_ | refine ck6_ h rfl ?_ | refine ck7_ h rfl ?_ | refine ck8_ h rfl ?_ | refine ck9_ h rfl ?_ | refine ck10_ h rfl ?_ | refine ck11_ h rfl ?_ | ((first | refine st0_ h rfl rfl ?_ | refine st1_ h rfl rfl ?_ | refine st2_ h rfl rfl ?_ | refine st3_ h rfl rfl ?_ | refine st4_ h rfl rfl ?_ | refine st5_ h rfl rfl ?_ | refine st6_ h rfl rfl ?_ | refine st7_ h rfl rfl ?_ | refine st8_ h rfl rfl ?_ | refine st9_ h rfl rfl ?_ | refine st10_ h rfl rfl ?_ | refine st11_ h rfl rfl ?_); clear h; (try clear w); intro w h; (try dsimp only [putN, setN] at h))))
      refine Rw.ix encH hr (by omega) (by simpa using hm) fun a ha => ?_
      refine Rw.ld encH h 3 rfl hr ha (x := l[m]) (by simpa using hx) rfl rfl ?_
      refine it (fun hc => ?_) (fun hc => ?_) <;> (try simp only [decide_eq_true_eq, decide_eq_false_iff_not, beq_iff_eq, bne_iff_ne, beq_eq_false_iff_ne, bne_eq_false_iff_eq, Bool.not_eq_true', Bool.not_eq_false', ne_eq, Bool.not_eq_true, Bool.not_eq_false] at hc)
      · (repeat (first | refine nn ?_ | (refine dr h ?_; clear h; (try clear w); intro w h) | refine ld0_ h rfl rfl ?_ | refine ld1_ h rfl rfl ?_ | refine ld2_ h rfl rfl ?_ | refine ld3_ h rfl rfl ?_ | refine ld4_ h rfl rfl ?_ | refine ld5_ h rfl rfl ?_ | refine ld6_ h rfl rfl ?_ | refine ld7_ h rfl rfl ?_ | refine ld8_ h rfl rfl ?_ | refine ld9_ h rfl rfl ?_ | refine ld10_ h rfl rfl ?_ | refine ld11_ h rfl rfl ?_ | refine la0_ h rfl ?_ | refine la1_ h rfl ?_ | refine la2_ h rfl ?_ | refine la3_ h rfl ?_ | refine la4_ h rfl ?_ | refine la5_ h rfl ?_ | refine la6_ h rfl ?_ | refine la7_ h rfl ?_ | refine la8_ h rfl ?_ | refine la9_ h rfl ?_ | refine la10_ h rfl ?_ | refine la11_ h rfl ?_ | refine ck0_ h rfl ?_ | refine ck1_ h rfl ?_ | refine ck2_ h rfl ?_ | refine ck3_ h rfl ?_ | refine ck4_ h rfl ?_ | refine ck5_ h rfl ?_ | refine ck6_ h rfl ?_ | refine ck7_ h rfl ?_ | refine ck8_ h rfl ?_ | refine ck9_ h rfl ?_ | refine ck10_ h rfl ?_ | refine ck11_ h rfl ?_ | ((first | refine st0_ h rfl rfl ?_ | refine st1_ h rfl rfl ?_ | refine st2_ h rfl rfl ?_ | refine st3_ h rfl rfl ?_ | refine st4_ h rfl rfl ?_ | refine st5_ h rfl rfl ?_ | refine st6_ h rfl rfl ?_ | refine st7_ h rfl rfl ?_ | refine st8_ h rfl rfl ?_ | refine st9_ h rfl rfl ?_ | refine st10_ h rfl rfl ?_ | refine st11_ h rfl rfl ?_); clear h; (try clear w); intro w h; (try dsimp only [putN, setN] at h))))
        refine Rw.ix encH hr (by omega) (by simpa using hm) fun a ha => ?_
        refine Rw.ld encH h 3 rfl hr ha (x := l[m]) (by simpa using hx) rfl rfl ?_
        refine nw h ?_; clear h; (try clear w); intro b9 w h
        refine Rw.app encI elI h 0 rfl hr2 l[m].1 rfl (by omega) (by omega) fun v' s' w hr' h => hk5 _ w ⟨s', s3, ?_, ?_, h⟩
        · rw [lLate_take hx, if_pos hc]; exact hr'
        · rw [lRest_take hx, if_pos hc, List.append_nil]; exact hr3
      · (repeat (first | refine nn ?_ | (refine dr h ?_; clear h; (try clear w); intro w h) | refine ld0_ h rfl rfl ?_ | refine ld1_ h rfl rfl ?_ | refine ld2_ h rfl rfl ?_ | refine ld3_ h rfl rfl ?_ | refine ld4_ h rfl rfl ?_ | refine ld5_ h rfl rfl ?_ | refine ld6_ h rfl rfl ?_ | refine ld7_ h rfl rfl ?_ | refine ld8_ h rfl rfl ?_ | refine ld9_ h rfl rfl ?_ | refine ld10_ h rfl rfl ?_ | refine ld11_ h rfl rfl ?_ | refine la0_ h rfl ?_ | refine la1_ h rfl ?_ | refine la2_ h rfl ?_ | refine la3_ h rfl ?_ | refine la4_ h rfl ?_ | refine la5_ h rfl ?_ | refine la6_ h rfl ?_ | refine la7_ h rfl ?_ | refine la8_ h rfl ?_ | refine la9_ h rfl ?_ | refine la10_ h rfl ?_ | refine la11_ h rfl ?_ | refine ck0_ h rfl ?_ | refine ck1_ h rfl ?_ | refine ck2_ h rfl ?_ | refine ck3_ h rfl ?_ | refine ck4_ h rfl ?_ | refine ck5_ h rfl ?_ | refine ck6_ h rfl ?_ | refine ck7_ h rfl ?_ | refine ck8_ h rfl ?_ | refine ck9_ h rfl ?_ | refine ck10_ h rfl ?_ | refine ck11_ h rfl ?_ | ((first | refine st0_ h rfl rfl ?_ | refine st1_ h rfl rfl ?_ | refine st2_ h rfl rfl ?_ | refine st3_ h rfl rfl ?_ | refine st4_ h rfl rfl ?_ | refine st5_ h rfl rfl ?_ | refine st6_ h rfl rfl ?_ | refine st7_ h rfl rfl ?_ | refine st8_ h rfl rfl ?_ | refine st9_ h rfl rfl ?_ | refine st10_ h rfl rfl ?_ | refine st11_ h rfl rfl ?_); clear h; (try clear w); intro w h; (try dsimp only [putN, setN] at h))))
        refine Rw.ix encH hr (by omega) (by simpa using hm) fun a ha => ?_
        refine Rw.lda encH h 3 rfl hr ha (x := l[m]) (by simpa using hx) rfl ?_
        refine nw h ?_; clear h; (try clear w); intro b9 w h
        refine Rw.app encH elO h 1 rfl hr3 l[m] rfl (by omega) (by omega) fun v' s' w hr' h => hk5 _ w ⟨s2, s', ?_, ?_, h⟩
        · rw [lLate_take hx, if_neg hc, List.append_nil]; exact hr2
        · rw [lRest_take hx, if_neg hc]; exact hr'
    · refine hag (q - 1) _ _ (by omega) ⟨m + 1, z.1, z.2.1, s2, s3, ?_, by omega, hr2, hr3, h⟩
      rw [wr (by omega) (by omega)]; simp
  · have e : m = l.length := by omega
    subst e
    rw [List.take_length] at hr2 hr3
    (repeat (first | refine nn ?_ | (refine dr h ?_; clear h; (try clear w); intro w h) | refine ld0_ h rfl rfl ?_ | refine ld1_ h rfl rfl ?_ | refine ld2_ h rfl rfl ?_ | refine ld3_ h rfl rfl ?_ | refine ld4_ h rfl rfl ?_ | refine ld5_ h rfl rfl ?_ | refine ld6_ h rfl rfl ?_ | refine ld7_ h rfl rfl ?_ | refine ld8_ h rfl rfl ?_ | refine ld9_ h rfl rfl ?_ | refine ld10_ h rfl rfl ?_ | refine ld11_ h rfl rfl ?_ | refine la0_ h rfl ?_ | refine la1_ h rfl ?_ | refine la2_ h rfl ?_ | refine la3_ h rfl ?_ | refine la4_ h rfl ?_ | refine la5_ h rfl ?_ | refine la6_ h rfl ?_ | refine la7_ h rfl ?_ | refine la8_ h rfl ?_ | refine la9_ h rfl ?_ | refine la10_ h rfl ?_ | refine la11_ h rfl ?_ | refine ck0_ h rfl ?_ | refine ck1_ h rfl ?_ | refine ck2_ h rfl ?_ | refine ck3_ h rfl ?_ | refine ck4_ h rfl ?_ | refine ck5_ h rfl ?_ | refine ck6_ h rfl ?_ | refine ck7_ h rfl ?_ | refine ck8_ h rfl ?_ | refine ck9_ h rfl ?_ | refine ck10_ h rfl ?_ | refine ck11_ h rfl ?_ | ((first | refine st0_ h rfl rfl ?_ | refine st1_ h rfl rfl ?_ | refine st2_ h rfl rfl ?_ | refine st3_ h rfl rfl ?_ | refine st4_ h rfl rfl ?_ | refine st5_ h rfl rfl ?_ | refine st6_ h rfl rfl ?_ | refine st7_ h rfl rfl ?_ | refine st8_ h rfl rfl ?_ | refine st9_ h rfl rfl ?_ | refine st10_ h rfl rfl ?_ | refine st11_ h rfl rfl ?_); clear h; (try clear w); intro w h; (try dsimp only [putN, setN] at h))))
    refine ⟨v2, rfl, hk v2 _ s2 w ⟨v3, s3, hr3, rfl⟩ hr2 ?_⟩
    have h := fr2_ (fr1_ h)
    have h := dl3_ h
    exact St.back (i + 1) (E := s2 :: E) hi h.glue
theorem eq_of_take {l1 l2 : List Int} (hl : l1.length = l2.length) : l1.take l1.length = l2.take l1.length ↔ l1 = l2 := by rw [List.take_length, hl, List.take_length]
theorem S_Ints (h : St w0 E w) {v1 v2 : Sl} {l1 l2 : List Int} (r1 : RdE w0 E eI v1 l1) (r2 : RdE w0 E eI v2 l2) (hn : l1.length < 1000000000) {k : Bool → PT} (hk : ∀ w', St w0 E w' → k (decide (l1 = l2)) w') :
    L.call Pr n_damperlaw8_Ints [SlV v1, SlV v2] (.one (.one .bool)) k w := by
  refine call_of (C_damperlaw8_Ints _ _) ?_
  unfold F_damperlaw8_Ints
  have e1 := (r1 w h).len
  have e2 := (r2 w h).len
  refine it (fun hb => ?_) (fun hb => ?_) <;> (try simp only [decide_eq_true_eq, decide_eq_false_iff_not, beq_iff_eq, bne_iff_ne, beq_eq_false_iff_ne, bne_eq_false_iff_eq, Bool.not_eq_true', Bool.not_eq_false', ne_eq, Bool.not_eq_true, Bool.not_eq_false] at hb)
  · refine ⟨false, rfl, ?_⟩
    have : decide (l1 = l2) = false := decide_eq_false (fun e => hb (by rw [e1, e2, e]))
    rw [← this]; exact hk w h
  have hl : l1.length = l2.length := by omega
  refine loop_of (fun q y w => ∃ m : Nat, y = ((m : Int), ()) ∧ q + m = l1.length ∧ l1.take m = l2.take m ∧ St w0 E w) l1.length ⟨0, rfl, rfl, rfl, h⟩ ?_
  clear h; (try clear w)
  rintro q y w ⟨m, rfl, hq, hf, h⟩ again hag
  dsimp only
  refine it (fun hc => ?_) (fun hc => ?_) <;> (try simp only [decide_eq_true_eq, decide_eq_false_iff_not, beq_iff_eq, bne_iff_ne, beq_eq_false_iff_ne, bne_eq_false_iff_eq, Bool.not_eq_true', Bool.not_eq_false', ne_eq, Bool.not_eq_true, Bool.not_eq_false] at hc)
  · have hm : m < l1.length := by omega
    have hx : l1[m]? = some l1[m] := List.getElem?_eq_getElem hm
    have hy : l2[m]? = some l2[m] := List.getElem?_eq_getElem (by omega)
    (repeat (first | refine nn ?_ | (refine dr h ?_; clear h; (try clear w); intro w h) | refine ld0_ h rfl rfl ?_ | refine ld1_ h rfl rfl ?_ | refine ld2_ h rfl rfl ?_ | refine ld3_ h rfl rfl ?_ | refine ld4_ h rfl rfl ?_ | refine ld5_ h rfl rfl ?_ | refine ld6_ h rfl rfl ?_ | refine ld7_ h rfl rfl ?_ | refine ld8_ h rfl rfl ?_ | refine ld9_ h rfl rfl ?_ | refine ld10_ h rfl rfl ?_ | refine ld11_ h rfl rfl ?_ | refine la0_ h rfl ?_ | refine la1_ h rfl ?_ | refine la2_ h rfl ?_ | refine la3_ h rfl ?_ | refine la4_ h rfl ?_ | refine la5_ h rfl ?_ | refine la6_ h rfl ?_ | refine la7_ h rfl ?_ | refine la8_ h rfl ?_ | refine la9_ h rfl ?_ | refine la10_ h rfl ?_ | refine la11_ h rfl ?_ | refine ck0_ h rfl ?_ | refine ck1_ h rfl ?_ | refine ck2_ h rfl ?_ | refine ck3_ h rfl ?_ | refine ck4_ h rfl ?_ | refine ck5_ h rfl ?_ | refine ck6_ h rfl ?_ | refine ck7_ h rfl ?_ | refine ck8_ h rfl ?_ | refine ck9_ h rfl ?_ | refine ck10_ h rfl ?_ | refine ck11_ h rfl ?_ | ((first | refine st0_ h rfl rfl ?_ | refine st1_ h rfl rfl ?_ | refine st2_ h rfl rfl ?_ | refine st3_ h rfl rfl ?_ | refine st4_ h rfl rfl ?_ | refine st5_ h rfl rfl ?_ | refine st6_ h rfl rfl ?_ | refine st7_ h rfl rfl ?_ | refine st8_ h rfl rfl ?_ | refine st9_ h rfl rfl ?_ | refine st10_ h rfl rfl ?_ | refine st11_ h rfl rfl ?_); clear h; (try clear w); intro w h; (try dsimp only [putN, setN] at h))))
    refine (r1 w h).ix encI (by omega) (by simpa using hm) fun a ha => ?_
    refine (r1 w h).ld0 encI ha (x := l1[m]) (by simpa using hx) rfl rfl ?_
    refine (r2 w h).ix encI (by omega) (by simp; omega) fun a ha => ?_
    refine (r2 w h).ld0 encI ha (x := l2[m]) (by simpa using hy) rfl rfl ?_
    refine it (fun hd => ?_) (fun hd => ?_) <;> (try simp only [decide_eq_true_eq, decide_eq_false_iff_not, beq_iff_eq, bne_iff_ne, beq_eq_false_iff_ne, bne_eq_false_iff_eq, Bool.not_eq_true', Bool.not_eq_false', ne_eq, Bool.not_eq_true, Bool.not_eq_false] at hd)
    · refine ⟨false, rfl, ?_⟩
      have : decide (l1 = l2) = false := decide_eq_false (fun e => hd (by subst e; rfl))
      rw [← this]; exact hk w h
    · refine hag (q - 1) _ _ (by omega) ⟨m + 1, ?_, by omega, ?_, h⟩
      · rw [wr (by omega) (by omega)]; simp
      · rw [List.take_add_one, List.take_add_one, hx, hy, hf, hd]
  · have e : m = l1.length := by omega
    subst e
    refine ⟨true, rfl, ?_⟩
    have : decide (l1 = l2) = true := decide_eq_true ((eq_of_take hl).1 hf)
    rw [← this]; exact hk w h
theorem S_within {p0 p1 : Int} (h : 0 < p1) (hp : p1 ≤ 2147483648) {k : Int → PT} (hk : k (p0 % p1) w) : L.call Pr n_damperlaw8_within [I p0, I p1] (.one (.one (.int .i64))) k w := by
  refine call_of (C_damperlaw8_within p0 p1) ?_
  unfold F_damperlaw8_within
  refine gd (by omega) ?_
  have h1 := Int.emod_nonneg p0 (by omega : p1 ≠ 0)
  have h2 := Int.emod_lt_of_pos p0 h
  have e := tmod_within p0 p1 h
  refine join_of (fun z w' => z.1 = p0 % p1 ∧ w' = w) (fun k' hk' => ?_) (fun y w' ⟨h1, h2⟩ => by subst h2; exact ⟨_, rfl, by rw [h1]; exact hk⟩)
  refine it (fun hb => ?_) (fun hb => ?_) <;> (try simp only [decide_eq_true_eq, decide_eq_false_iff_not, beq_iff_eq, bne_iff_ne, beq_eq_false_iff_ne, bne_eq_false_iff_eq, Bool.not_eq_true', Bool.not_eq_false', ne_eq, Bool.not_eq_true, Bool.not_eq_false] at hb)
  · refine hk' _ _ ⟨?_, rfl⟩
    rw [e] at hb
    dsimp only
    rw [e]
    split at hb <;> rename_i hc
    · omega
    · rw [if_neg hc, wr] <;> omega
  · refine hk' _ _ ⟨?_, rfl⟩
    rw [e] at hb
    dsimp only
    rw [e]
    split at hb <;> rename_i hc
    · rw [if_pos hc]
    · omega
theorem S_known (h : St w0 E w) {k : Bool → PT} (hk : ∀ w', St w0 E w' → k true w') : L.call Pr n_damperlaw8_known [] (.one (.one .bool)) k w := by
  refine call_of C_damperlaw8_known ?_
  unfold F_damperlaw8_known
  refine S_wNew h fun b s w hl h => itF rfl ?_
  refine S_Pop h 0 rfl hl (by simp) fun s w hl h => itT rfl ?_
  refine S_Push h 0 rfl hl (by simp [lPop]) fun s w hl h => itT rfl ?_
  refine S_wLen h 0 rfl hl (itT rfl ?_)
  refine S_Push h 0 rfl hl (by simp [lPop, lPush, lHas]) fun s w hl h => ⟨true, rfl, hk w (dl0_ h)⟩
end Go.Proofs.Ytkccfgdgblkljaa
