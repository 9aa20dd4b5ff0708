/- Contracts of functions, and walks of laws (text Wa). No conditions beyond those its theorems state. -/
import Derived.Test.YtkccfgdgblkljaaBa
set_option linter.all false
namespace Go.Proofs.Ytkccfgdgblkljaa
open Go.Dm
attribute [local irreducible] L.load L.store L.chk L.new L.nonnil L.guard L.ite L.draw L.idx L.sem L.semR L.semU L.chkSem L.next L.call L.callV L.join L.alts L.loop L.begin L.endRound L.range
variable {w0 w : World} {E : List Seg}
def eH (p : Int × Int) : List Value := [I p.1, I p.2]
theorem encH : Enc eH 2 := ⟨fun _ => rfl, fun _ => rfl, by decide⟩
theorem elH : El Pr T_s_wait_held_int T_wait_held_int 2 16 (.agg #[I 0, I 0]) := el_of (by kernel_rfl) (by kernel_rfl) rfl (by decide)
/-- who waits: the line's block, its row -/
def LnS (b : Nat) (room : Int) (l : List (Int × Int)) (s : Seg) : Prop := ∃ v sr, Rw eH T_wait_held_int 2 v l sr ∧ s = [Cl b T_wait_Line [SlV v, I room]] ++ sr
def lHas (l : List (Int × Int)) (id : Int) : Bool := l.any fun x => x.1 == id
def lPush (room : Int) (l : List (Int × Int)) (id u : Int) : List (Int × Int) × Int :=
  if lHas l id then (l, 5) else if (l.length : Int) ≥ room then (l, 8) else (l ++ [(id, u)], 0)
def lPop : List (Int × Int) → List (Int × Int) × Int × Bool
  | [] => ([], 0, false)
  | x :: l => (l, x.1, true)
def lLate (l : List (Int × Int)) (now : Int) : List Int := (l.filter fun x => x.2 ≤ now).map (·.1)
def lRest (l : List (Int × Int)) (now : Int) : List (Int × Int) := l.filter fun x => !decide (x.2 ≤ now)
theorem S_wNew (h : St w0 E w) {room : Int} {k : Option Addr → PT} (hk : ∀ b s w', LnS b room [] s → St w0 (s :: E) w' → k (some ⟨b, 0, none⟩) w') : L.call Pr n_wait_New [I room] (.one (.one .ptr)) k w := by
  refine call_of (C_wait_New _) ?_
  unfold F_wait_New
  refine nw h ?_; clear h; (try clear w); intro b w h
  exact ⟨_, rfl, hk b _ w ⟨⟨none, 0, 0⟩, [], Rw.nil, rfl⟩ (h.eq (by simp))⟩
theorem S_wLen (h : St w0 E w) (i : Nat) {b : Nat} {room : Int} {l : List (Int × Int)} {s : Seg} (hi : nth E i = some s) (hl : LnS b room l s) {k : Int → PT} (hk : k l.length w) : L.call Pr n_wait_Line_Len [.pointer (some ⟨b, 0, none⟩)] (.one (.one (.int .i64))) k w := by
  obtain ⟨v, sr, hr, rfl⟩ := hl
  refine call_of (C_wait_Line_Len _) ?_
  unfold F_wait_Line_Len
  have h := (h.front i hi).split
  (repeat (first | refine nn ?_ | (refine dr h ?_; clear h; (try clear w); intro w h) | refine ld0_ h rfl rfl ?_ | refine ld1_ h rfl rfl ?_ | refine ld2_ h rfl rfl ?_ | refine ld3_ h rfl rfl ?_ | refine ld4_ h rfl rfl ?_ | refine ld5_ h rfl rfl ?_ | refine ld6_ h rfl rfl ?_ | refine ld7_ h rfl rfl ?_ | refine ld8_ h rfl rfl ?_ | refine ld9_ h rfl rfl ?_ | refine ld10_ h rfl rfl ?_ | refine ld11_ h rfl rfl ?_ | refine la0_ h rfl ?_ | refine la1_ h rfl ?_ | refine la2_ h rfl ?_ | refine la3_ h rfl ?_ | refine la4_ h rfl ?_ | refine la5_ h rfl ?_ | refine la6_ h rfl ?_ | refine la7_ h rfl ?_ | refine la8_ h rfl ?_ | refine la9_ h rfl ?_ | refine la10_ h rfl ?_ | refine la11_ h rfl ?_ | refine ck0_ h rfl ?_ | refine ck1_ h rfl ?_ | refine ck2_ h rfl ?_ | refine ck3_ h rfl ?_ | refine ck4_ h rfl ?_ | refine ck5_ h rfl ?_ | refine ck6_ h rfl ?_ | refine ck7_ h rfl ?_ | refine ck8_ h rfl ?_ | refine ck9_ h rfl ?_ | refine ck10_ h rfl ?_ | refine ck11_ h rfl ?_ | ((first | refine st0_ h rfl rfl ?_ | refine st1_ h rfl rfl ?_ | refine st2_ h rfl rfl ?_ | refine st3_ h rfl rfl ?_ | refine st4_ h rfl rfl ?_ | refine st5_ h rfl rfl ?_ | refine st6_ h rfl rfl ?_ | refine st7_ h rfl rfl ?_ | refine st8_ h rfl rfl ?_ | refine st9_ h rfl rfl ?_ | refine st10_ h rfl rfl ?_ | refine st11_ h rfl rfl ?_); clear h; (try clear w); intro w h; (try dsimp only [putN, setN] at h))))
  refine ⟨_, rfl, ?_⟩
  rw [Rw.len encH hr]; exact hk
/-- 'each' of a row: what is yielded -/
theorem S_each (h : St w0 E w) {b : Nat} {k : FV → PT} (hk : ∀ c w', St w0 ([Cl c T_p_wait_row_int [.pointer (some ⟨b, 0, none⟩)]] :: E) w' → k ⟨.func n_wait_row_int_each_1, #[], #[.pointer (some ⟨c, 0, none⟩)]⟩ w') :
    L.call Pr n_wait_row_int_each [.pointer (some ⟨b, 0, none⟩)] (.one (.one .func)) k w := by
  refine call_of (C_wait_row_int_each _) ?_
  unfold F_wait_row_int_each
  refine nw h ?_; clear h; (try clear w); intro c w h
  exact ⟨_, rfl, hk c w h⟩
def argH (l : List (Int × Int)) (m : Nat) : TT [.one (.int .i64), .one (.int .i64)] := (((l[m]?).getD (0, 0)).1, ((l[m]?).getD (0, 0)).2, ())
theorem Y_each {b c T : Nat} {rm : Value} {v : Sl} {l : List (Int × Int)} {sr : Seg} (hr : Rw eH T_wait_held_int 2 v l sr) (hn : l.length < 1000000000) :
    Yld Pr w0 [[Cl c T_p_wait_row_int [.pointer (some ⟨b, 0, none⟩)]], [Cl b T [SlV v, rm]], sr] (.func (.func n_wait_row_int_each_1) #[] #[.pointer (some ⟨c, 0, none⟩)]) l.length fun m => TV _ (argH l m) := by
  intro yv R J Jd F w h hJ step fin fin2
  have hlen := Rw.len encH hr
  refine ⟨E_wait_row_int_each_1, C_wait_row_int_each_1 yv ⟨c, 0, none⟩ ?_⟩
  unfold F_wait_row_int_each_1
  (repeat (first | refine nn ?_ | (refine dr h ?_; clear h; (try clear w); intro w h) | refine ld0_ h rfl rfl ?_ | refine ld1_ h rfl rfl ?_ | refine ld2_ h rfl rfl ?_ | refine ld3_ h rfl rfl ?_ | refine ld4_ h rfl rfl ?_ | refine ld5_ h rfl rfl ?_ | refine ld6_ h rfl rfl ?_ | refine ld7_ h rfl rfl ?_ | refine ld8_ h rfl rfl ?_ | refine ld9_ h rfl rfl ?_ | refine ld10_ h rfl rfl ?_ | refine ld11_ h rfl rfl ?_ | refine la0_ h rfl ?_ | refine la1_ h rfl ?_ | refine la2_ h rfl ?_ | refine la3_ h rfl ?_ | refine la4_ h rfl ?_ | refine la5_ h rfl ?_ | refine la6_ h rfl ?_ | refine la7_ h rfl ?_ | refine la8_ h rfl ?_ | refine la9_ h rfl ?_ | refine la10_ h rfl ?_ | refine la11_ h rfl ?_ | refine ck0_ h rfl ?_ | refine ck1_ h rfl ?_ | refine ck2_ h rfl ?_ | refine ck3_ h rfl ?_ | refine ck4_ h rfl ?_ | refine ck5_ h rfl ?_ | refine ck6_ h rfl ?_ | refine ck7_ h rfl ?_ | refine ck8_ h rfl ?_ | refine ck9_ h rfl ?_ | refine ck10_ h rfl ?_ | refine ck11_ h rfl ?_ | ((first | refine st0_ h rfl rfl ?_ | refine st1_ h rfl rfl ?_ | refine st2_ h rfl rfl ?_ | refine st3_ h rfl rfl ?_ | refine st4_ h rfl rfl ?_ | refine st5_ h rfl rfl ?_ | refine st6_ h rfl rfl ?_ | refine st7_ h rfl rfl ?_ | refine st8_ h rfl rfl ?_ | refine st9_ h rfl rfl ?_ | refine st10_ h rfl rfl ?_ | refine st11_ h rfl rfl ?_); clear h; (try clear w); intro w h; (try dsimp only [putN, setN] at h))))
  refine loop_of (fun q y w => ∃ (m : Nat) (F : List Seg), @Eq Int y.1 m ∧ q + m = l.length ∧ J m F ∧ St w0 ([Cl c T_p_wait_row_int [.pointer (some ⟨b, 0, none⟩)]] :: [Cl b T [SlV v, rm]] :: sr :: F) w) l.length ⟨0, F, rfl, rfl, hJ, h⟩ ?_
  rintro q ⟨y, ⟨⟩⟩ w ⟨m, F, hy, hq, hJ, h⟩ again hag
  simp only at hy
  subst hy
  refine it (fun hb => ?_) (fun hb => ?_) <;> (try simp only [decide_eq_true_eq, decide_eq_false_iff_not, beq_iff_eq, bne_iff_ne, beq_eq_false_iff_ne, bne_eq_false_iff_eq, Bool.not_eq_true', Bool.not_eq_false', ne_eq, Bool.not_eq_true, Bool.not_eq_false] at hb)
  · have hm : m < l.length := by omega
    have hx : l[m]? = some l[m] := List.getElem?_eq_getElem hm
    refine Rw.ix encH hr (by omega) (by simpa using hm) fun a ha => ?_
    refine Rw.lda encH h 2 rfl hr ha (x := l[m]) (by simpa using hx) rfl ?_
    refine nw h ?_; clear h; (try clear w); intro b2 w h
    (repeat (first | refine nn ?_ | (refine dr h ?_; clear h; (try clear w); intro w h) | refine ld0_ h rfl rfl ?_ | refine ld1_ h rfl rfl ?_ | refine ld2_ h rfl rfl ?_ | refine ld3_ h rfl rfl ?_ | refine ld4_ h rfl rfl ?_ | refine ld5_ h rfl rfl ?_ | refine ld6_ h rfl rfl ?_ | refine ld7_ h rfl rfl ?_ | refine ld8_ h rfl rfl ?_ | refine ld9_ h rfl rfl ?_ | refine ld10_ h rfl rfl ?_ | refine ld11_ h rfl rfl ?_ | refine la0_ h rfl ?_ | refine la1_ h rfl ?_ | refine la2_ h rfl ?_ | refine la3_ h rfl ?_ | refine la4_ h rfl ?_ | refine la5_ h rfl ?_ | refine la6_ h rfl ?_ | refine la7_ h rfl ?_ | refine la8_ h rfl ?_ | refine la9_ h rfl ?_ | refine la10_ h rfl ?_ | refine la11_ h rfl ?_ | refine ck0_ h rfl ?_ | refine ck1_ h rfl ?_ | refine ck2_ h rfl ?_ | refine ck3_ h rfl ?_ | refine ck4_ h rfl ?_ | refine ck5_ h rfl ?_ | refine ck6_ h rfl ?_ | refine ck7_ h rfl ?_ | refine ck8_ h rfl ?_ | refine ck9_ h rfl ?_ | refine ck10_ h rfl ?_ | refine ck11_ h rfl ?_ | ((first | refine st0_ h rfl rfl ?_ | refine st1_ h rfl rfl ?_ | refine st2_ h rfl rfl ?_ | refine st3_ h rfl rfl ?_ | refine st4_ h rfl rfl ?_ | refine st5_ h rfl rfl ?_ | refine st6_ h rfl rfl ?_ | refine st7_ h rfl rfl ?_ | refine st8_ h rfl rfl ?_ | refine st9_ h rfl rfl ?_ | refine st10_ h rfl rfl ?_ | refine st11_ h rfl rfl ?_); clear h; (try clear w); intro w h; (try dsimp only [putN, setN] at h))))
    have h := dl0_ h
    have ea : TV _ (argH l m) = [I l[m].1, I l[m].2] := by simp [argH, hx]; rfl
    have step := step m F w hm hJ h
    simp only [ea] at step
    refine cv (FCall.mono step fun u w' hu => ?_)
    rcases hu with ⟨rfl, F', h, hJ⟩ | ⟨rfl, hd⟩
    · refine ⟨true, rfl, itF rfl (hag (q - 1) _ _ (by omega) ⟨m + 1, F', ?_, by omega, hJ, h⟩)⟩
      show IntKind.wrap .i64 _ = _
      rw [wr (by omega) (by omega)]; omega
    · exact ⟨false, rfl, itT rfl (fin2 w' hd)⟩
  · have e : m = l.length := by omega
    subst e
    exact fin F w hJ h
end Go.Proofs.Ytkccfgdgblkljaa
