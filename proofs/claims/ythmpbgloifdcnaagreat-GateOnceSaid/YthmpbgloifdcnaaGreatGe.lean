/- Contracts of functions, and walks of laws (text Ge). No conditions beyond those its theorems state. -/
import Derived.Test.YthmpbgloifdcnaaGreatGa
import Derived.Laws.StructEq
set_option linter.all false
namespace Go.Proofs.YthmpbgloifdcnaaGreat
open Go.Dm
attribute [local irreducible] L.load L.store L.chk L.new L.nonnil L.guard L.ite L.draw L.idx L.sem L.semR L.semU L.chkSem L.next L.call L.callV L.join L.alts L.loop L.begin L.endRound L.range
variable {w0 w : World} {E : List Seg}
theorem gt_open {b bf : Nat} {G : AGate} {sg : Seg} (hg : GtS b bf G sg) (h : St w0 (sg :: E) w) : ∃ rA rL c sA sL, ∃ Q : List LnE, GtR G rA rL sA sL Q ∧ St w0 (gtB b bf rA rL c G.room G.pat :: [Cl c T_int [I G.room]] :: sA :: sL :: (Q.map LnE.sg).flatten :: E) w := by
  obtain ⟨ok, rA, rL, c, sA, sL, Q, hr, rfl⟩ := hg
  exact ⟨rA, rL, c, sA, sL, Q, hr, h.split5⟩
theorem S_gsetC {sg : Seg} (h : St w0 (sg :: E) w) {b bf : Nat} {G : AGate} (hg : GtS b bf G sg) {id : Int} {rev : ByteArray} {f : Fate} (ok' : ({ G with all := mset G.all id (rev, f.2.1) } : AGate).Ok) {k : eFate.T → PT}
    (hk : ∀ sg' w', GtS b bf { G with all := mset G.all id (rev, f.2.1) } sg' → St w0 (sg' :: E) w' → k (fset f id) w') :
    L.call Pr n_gate_Gate_set [.pointer (some ⟨b, 0, none⟩), I id, .string rev, .agg (Fate.cells f).toArray] (.one eFate) k w := by
  obtain ⟨rA, rL, c, sA, sL, Q, hr, h⟩ := gt_open hg h
  have h := fr1_ (fr2_ h)
  refine S_gset (f := f) hr.all h fun sA' w hA' h => ?_
  have h := fr2_ (fr2_ (fr1_ h))
  obtain ⟨sg', hg', h⟩ := gt_close ok' (Q := Q) ⟨hA', hr.lns, hr.each, hr.abs⟩ h
  exact hk sg' w hg' h
theorem S_gseenC {sg : Seg} (h : St w0 (sg :: E) w) {b bf : Nat} {G : AGate} (hg : GtS b bf G sg) {id : Int} {k : Bool → PT} (hk : ∀ sg' w', GtS b bf G sg' → St w0 (sg' :: E) w' → k (gSeen G.all id) w') :
    L.call Pr n_gate_Gate_Seen [.pointer (some ⟨b, 0, none⟩), I id] (.one (.one .bool)) k w := by
  have ok := hg.1
  obtain ⟨rA, rL, c, sA, sL, Q, hr, h⟩ := gt_open hg h
  have h := fr1_ (fr2_ h)
  refine S_gseen hr.all h fun w h => ?_
  have h := fr2_ (fr2_ (fr1_ h))
  obtain ⟨sg', hg', h⟩ := gt_close ok hr h
  exact hk sg' w hg' h
/-- a request is answered -/
def gDone (F : AFleet) (G : AGate) (id : Int) : AFleet × AGate × List Fate × Int :=
  if (fGive F id).2.2 ≠ 0 then ((fGive F id).1, G, [], (fGive F id).2.2)
  else ((gFlow (fGive F id).1 { G with all := mset G.all id ((fGive F id).2.1, 3) } (fGive F id).2.1).1, (gFlow (fGive F id).1 { G with all := mset G.all id ((fGive F id).2.1, 3) } (fGive F id).2.1).2.1,
    (id, 3, 0, s_, ()) :: (gFlow (fGive F id).1 { G with all := mset G.all id ((fGive F id).2.1, 3) } (fGive F id).2.1).2.2, 0)
theorem gFlow_len {F : AFleet} {G : AGate} (ok : G.Ok) (rev : ByteArray) : ((gFlow F G rev).2.2.length : Int) ≤ G.room ∧ ((gFlow F G rev).2.1.all.length : Int) ≤ G.all.length + G.room ∧ (gFlow F G rev).2.1.lines.length ≤ G.lines.length + 1 := by
  have hlen := lineOf_len ok rev
  have h1 := flowA_len (rev := rev) (l := lineOf G.lines rev) (F := F) (all := G.all) (out := [])
  simp only [List.length_nil] at h1
  have h2 := mset_le' G.lines rev (flowA rev (lineOf G.lines rev) F G.all []).2.2.1
  refine ⟨?_, ?_, h2⟩
  · show ((flowA rev (lineOf G.lines rev) F G.all []).2.2.2.length : Int) ≤ _; omega
  · show ((flowA rev (lineOf G.lines rev) F G.all []).2.1.length : Int) ≤ _; omega
theorem S_gDone {sg sf : Seg} (h : St w0 (sg :: sf :: E) w) {b bf : Nat} {G : AGate} {F : AFleet} (hg : GtS b bf G sg) (hf : FlS bf F sf) (hfew : FFew F) (hn : G.all.length < 80000000) (hl : G.lines.length < 90000000) {id : Int} {k : Sl × Int × Unit → PT}
    (hk : ∀ v sv sg' sf' w', Rw Fate.cells T_gate_Fate 4 v (gDone F G id).2.2.1 sv → GtS b bf (gDone F G id).2.1 sg' → FlS bf (gDone F G id).1 sf' → St w0 (sv :: sg' :: sf' :: E) w' → k (v, (gDone F G id).2.2.2, ()) w') :
    L.call Pr n_gate_Gate_Done [.pointer (some ⟨b, 0, none⟩), I id] (.tup [.one .slice, .one (.int .i64)]) k w := by
  have ok := hg.1
  have hhi := ok.hi
  refine call_of (C_gate_Gate_Done _ _) ?_
  unfold F_gate_Gate_Done
  unfold gDone at hk
  obtain ⟨rA, rL, c, sA, sL, Q, hr, h⟩ := gt_open hg h
  (repeat (first | refine nn ?_ | (refine dr h ?_; clear h; (try clear w); intro w h) | refine ld0_ h rfl rfl ?_ | refine ld1_ h rfl rfl ?_ | refine ld2_ h rfl rfl ?_ | refine ld3_ h rfl rfl ?_ | refine ld4_ h rfl rfl ?_ | refine ld5_ h rfl rfl ?_ | refine ld6_ h rfl rfl ?_ | refine ld7_ h rfl rfl ?_ | refine ld8_ h rfl rfl ?_ | refine ld9_ h rfl rfl ?_ | refine ld10_ h rfl rfl ?_ | refine ld11_ h rfl rfl ?_ | refine la0_ h rfl ?_ | refine la1_ h rfl ?_ | refine la2_ h rfl ?_ | refine la3_ h rfl ?_ | refine la4_ h rfl ?_ | refine la5_ h rfl ?_ | refine la6_ h rfl ?_ | refine la7_ h rfl ?_ | refine la8_ h rfl ?_ | refine la9_ h rfl ?_ | refine la10_ h rfl ?_ | refine la11_ h rfl ?_ | refine ck0_ h rfl ?_ | refine ck1_ h rfl ?_ | refine ck2_ h rfl ?_ | refine ck3_ h rfl ?_ | refine ck4_ h rfl ?_ | refine ck5_ h rfl ?_ | refine ck6_ h rfl ?_ | refine ck7_ h rfl ?_ | refine ck8_ h rfl ?_ | refine ck9_ h rfl ?_ | refine ck10_ h rfl ?_ | refine ck11_ h rfl ?_ | ((first | refine st0_ h rfl rfl ?_ | refine st1_ h rfl rfl ?_ | refine st2_ h rfl rfl ?_ | refine st3_ h rfl rfl ?_ | refine st4_ h rfl rfl ?_ | refine st5_ h rfl rfl ?_ | refine st6_ h rfl rfl ?_ | refine st7_ h rfl rfl ?_ | refine st8_ h rfl rfl ?_ | refine st9_ h rfl rfl ?_ | refine st10_ h rfl rfl ?_ | refine st11_ h rfl rfl ?_); clear h; (try clear w); intro w h; (try dsimp only [putN, setN] at h))))
  refine S_fGive h 5 rfl hf fun sf' w hf' h => ?_
  obtain ⟨sg, hg, h⟩ := gt_close (E := sf' :: E) ok hr h
  refine it (fun he => ?_) (fun he => ?_) <;> (try simp only [decide_eq_true_eq, decide_eq_false_iff_not, beq_iff_eq, bne_iff_ne, beq_eq_false_iff_ne, bne_eq_false_iff_eq, Bool.not_eq_true', Bool.not_eq_false', ne_eq, Bool.not_eq_true, Bool.not_eq_false] at he)
  · rw [if_pos he] at hk
    exact ⟨(⟨none, 0, 0⟩, (fGive F id).2.2, ()), rfl, hk _ [] sg sf' w Rw.nil hg hf' h.nil⟩
  · rw [if_neg (by simpa using he)] at hk
    have hf1 := hfew.give id
    generalize (fGive F id).1 = F1 at *
    generalize (fGive F id).2.1 = rev at *
    have ok1 := ok.req (by omega) id (rev, 3)
    refine S_gsetC (f := (0, 3, 0, s_, ())) h hg ok1 fun sg w hg h => ?_
    refine nw h ?_; clear h; (try clear w); intro b5 w h
    (repeat (first | refine nn ?_ | (refine dr h ?_; clear h; (try clear w); intro w h) | refine ld0_ h rfl rfl ?_ | refine ld1_ h rfl rfl ?_ | refine ld2_ h rfl rfl ?_ | refine ld3_ h rfl rfl ?_ | refine ld4_ h rfl rfl ?_ | refine ld5_ h rfl rfl ?_ | refine ld6_ h rfl rfl ?_ | refine ld7_ h rfl rfl ?_ | refine ld8_ h rfl rfl ?_ | refine ld9_ h rfl rfl ?_ | refine ld10_ h rfl rfl ?_ | refine ld11_ h rfl rfl ?_ | refine la0_ h rfl ?_ | refine la1_ h rfl ?_ | refine la2_ h rfl ?_ | refine la3_ h rfl ?_ | refine la4_ h rfl ?_ | refine la5_ h rfl ?_ | refine la6_ h rfl ?_ | refine la7_ h rfl ?_ | refine la8_ h rfl ?_ | refine la9_ h rfl ?_ | refine la10_ h rfl ?_ | refine la11_ h rfl ?_ | refine ck0_ h rfl ?_ | refine ck1_ h rfl ?_ | refine ck2_ h rfl ?_ | refine ck3_ h rfl ?_ | refine ck4_ h rfl ?_ | refine ck5_ h rfl ?_ | refine ck6_ h rfl ?_ | refine ck7_ h rfl ?_ | refine ck8_ h rfl ?_ | refine ck9_ h rfl ?_ | refine ck10_ h rfl ?_ | refine ck11_ h rfl ?_ | ((first | refine st0_ h rfl rfl ?_ | refine st1_ h rfl rfl ?_ | refine st2_ h rfl rfl ?_ | refine st3_ h rfl rfl ?_ | refine st4_ h rfl rfl ?_ | refine st5_ h rfl rfl ?_ | refine st6_ h rfl rfl ?_ | refine st7_ h rfl rfl ?_ | refine st8_ h rfl rfl ?_ | refine st9_ h rfl rfl ?_ | refine st10_ h rfl rfl ?_ | refine st11_ h rfl rfl ?_); clear h; (try clear w); intro w h; (try dsimp only [putN, setN] at h))))
    have hm := mset_le' G.all id (rev, (3 : Int))
    have hfl := gFlow_len (F := F1) ok1 rev
    dsimp only at hfl
    refine join_of (fun z w => ∃ v sv sg' sf', z = (v, 0, ()) ∧ Rw Fate.cells T_gate_Fate 4 v ((id, 3, 0, s_, ()) :: (gFlow F1 { G with all := mset G.all id (rev, 3) } rev).2.2) sv ∧ GtS b bf (gFlow F1 { G with all := mset G.all id (rev, 3) } rev).2.1 sg' ∧ FlS bf (gFlow F1 { G with all := mset G.all id (rev, 3) } rev).1 sf' ∧ St w0 (sv :: sg' :: sf' :: E) w) (fun k6 hk6 => ?_) (fun z w ⟨v, sv, sg', sf', hz, hv, hg', hf', h⟩ => ?_)
    · have app : ∀ {b9 : Nat} {v10 : Sl} {sv sg' sf' : Seg} {w}, Rw Fate.cells T_gate_Fate 4 v10 (gFlow F1 { G with all := mset G.all id (rev, 3) } rev).2.2 sv → GtS b bf (gFlow F1 { G with all := mset G.all id (rev, 3) } rev).2.1 sg' → FlS bf (gFlow F1 { G with all := mset G.all id (rev, 3) } rev).1 sf' →
          St w0 ([Cl b9 T_gate_Fate [I id, I 3, I 0, .string s_]] :: sv :: sg' :: sf' :: E) w →
          (L.sem Pr (.one (.one .slice)) (Builtin.append_ #[T_s_gate_Fate, T_s_gate_Fate] T_s_gate_Fate #[.slice (some ⟨b9, 0, none⟩) 1 1, .slice v10.a v10.len v10.cap]) fun (s11 : Sl) => k6 (⟨s11.a, s11.len, s11.cap⟩, 0, ())) w := by
        intro b9 v10 sv sg' sf' w hv hg' hf' h
        have hr1 : Rw Fate.cells T_gate_Fate 4 ⟨some ⟨b9, 0, none⟩, 1, 1⟩ [((id, 3, 0, s_, ()) : Fate)] [Cl b9 T_gate_Fate [I id, I 3, I 0, .string s_]] := fate1
        refine Rw.appRd (v := ⟨some ⟨b9, 0, none⟩, 1, 1⟩) (l := [((id, 3, 0, s_, ()) : Fate)]) encF elF h 0 rfl hr1 (Rw.rd encF h 1 rfl hv) (by simp only [List.length_cons, List.length_nil]; omega) (by simp only [List.length_cons, List.length_nil]; omega) fun v' s' w hv' _ _ h => ?_
        have h : St w0 (s' :: sv :: sg' :: sf' :: E) w := h
        have h := dl1_ h
        exact hk6 _ w ⟨v', s', sg', sf', rfl, hv', hg', hf', h⟩
      (repeat (first | refine nn ?_ | (refine dr h ?_; clear h; (try clear w); intro w h) | refine ld0_ h rfl rfl ?_ | refine ld1_ h rfl rfl ?_ | refine ld2_ h rfl rfl ?_ | refine ld3_ h rfl rfl ?_ | refine ld4_ h rfl rfl ?_ | refine ld5_ h rfl rfl ?_ | refine ld6_ h rfl rfl ?_ | refine ld7_ h rfl rfl ?_ | refine ld8_ h rfl rfl ?_ | refine ld9_ h rfl rfl ?_ | refine ld10_ h rfl rfl ?_ | refine ld11_ h rfl rfl ?_ | refine la0_ h rfl ?_ | refine la1_ h rfl ?_ | refine la2_ h rfl ?_ | refine la3_ h rfl ?_ | refine la4_ h rfl ?_ | refine la5_ h rfl ?_ | refine la6_ h rfl ?_ | refine la7_ h rfl ?_ | refine la8_ h rfl ?_ | refine la9_ h rfl ?_ | refine la10_ h rfl ?_ | refine la11_ h rfl ?_ | refine ck0_ h rfl ?_ | refine ck1_ h rfl ?_ | refine ck2_ h rfl ?_ | refine ck3_ h rfl ?_ | refine ck4_ h rfl ?_ | refine ck5_ h rfl ?_ | refine ck6_ h rfl ?_ | refine ck7_ h rfl ?_ | refine ck8_ h rfl ?_ | refine ck9_ h rfl ?_ | refine ck10_ h rfl ?_ | refine ck11_ h rfl ?_ | ((first | refine st0_ h rfl rfl ?_ | refine st1_ h rfl rfl ?_ | refine st2_ h rfl rfl ?_ | refine st3_ h rfl rfl ?_ | refine st4_ h rfl rfl ?_ | refine st5_ h rfl rfl ?_ | refine st6_ h rfl rfl ?_ | refine st7_ h rfl rfl ?_ | refine st8_ h rfl rfl ?_ | refine st9_ h rfl rfl ?_ | refine st10_ h rfl rfl ?_ | refine st11_ h rfl rfl ?_); clear h; (try clear w); intro w h; (try dsimp only [putN, setN] at h))))
      refine alts2 ?_ ?_
      · refine nw h ?_; clear h; (try clear w); intro b9 w h
        have h := fr3_ (fr3_ (fr1_ (fr1_ h)))
        refine S_gFlow h hg hf' hf1 (by simp only; omega) hl fun v10 sv sg' sf' w hv hg' hf' h => ?_
        (repeat (first | refine nn ?_ | (refine dr h ?_; clear h; (try clear w); intro w h) | refine ld0_ h rfl rfl ?_ | refine ld1_ h rfl rfl ?_ | refine ld2_ h rfl rfl ?_ | refine ld3_ h rfl rfl ?_ | refine ld4_ h rfl rfl ?_ | refine ld5_ h rfl rfl ?_ | refine ld6_ h rfl rfl ?_ | refine ld7_ h rfl rfl ?_ | refine ld8_ h rfl rfl ?_ | refine ld9_ h rfl rfl ?_ | refine ld10_ h rfl rfl ?_ | refine ld11_ h rfl rfl ?_ | refine la0_ h rfl ?_ | refine la1_ h rfl ?_ | refine la2_ h rfl ?_ | refine la3_ h rfl ?_ | refine la4_ h rfl ?_ | refine la5_ h rfl ?_ | refine la6_ h rfl ?_ | refine la7_ h rfl ?_ | refine la8_ h rfl ?_ | refine la9_ h rfl ?_ | refine la10_ h rfl ?_ | refine la11_ h rfl ?_ | refine ck0_ h rfl ?_ | refine ck1_ h rfl ?_ | refine ck2_ h rfl ?_ | refine ck3_ h rfl ?_ | refine ck4_ h rfl ?_ | refine ck5_ h rfl ?_ | refine ck6_ h rfl ?_ | refine ck7_ h rfl ?_ | refine ck8_ h rfl ?_ | refine ck9_ h rfl ?_ | refine ck10_ h rfl ?_ | refine ck11_ h rfl ?_ | ((first | refine st0_ h rfl rfl ?_ | refine st1_ h rfl rfl ?_ | refine st2_ h rfl rfl ?_ | refine st3_ h rfl rfl ?_ | refine st4_ h rfl rfl ?_ | refine st5_ h rfl rfl ?_ | refine st6_ h rfl rfl ?_ | refine st7_ h rfl rfl ?_ | refine st8_ h rfl rfl ?_ | refine st9_ h rfl rfl ?_ | refine st10_ h rfl rfl ?_ | refine st11_ h rfl rfl ?_); clear h; (try clear w); intro w h; (try dsimp only [putN, setN] at h))))
        have h := dl4_ h
        have h := fr3_ h
        exact app hv hg' hf' h
      · have h := fr2_ (fr2_ h)
        refine S_gFlow h hg hf' hf1 (by simp only; omega) hl fun v10 sv sg' sf' w hv hg' hf' h => ?_
        (repeat (first | refine nn ?_ | (refine dr h ?_; clear h; (try clear w); intro w h) | refine ld0_ h rfl rfl ?_ | refine ld1_ h rfl rfl ?_ | refine ld2_ h rfl rfl ?_ | refine ld3_ h rfl rfl ?_ | refine ld4_ h rfl rfl ?_ | refine ld5_ h rfl rfl ?_ | refine ld6_ h rfl rfl ?_ | refine ld7_ h rfl rfl ?_ | refine ld8_ h rfl rfl ?_ | refine ld9_ h rfl rfl ?_ | refine ld10_ h rfl rfl ?_ | refine ld11_ h rfl rfl ?_ | refine la0_ h rfl ?_ | refine la1_ h rfl ?_ | refine la2_ h rfl ?_ | refine la3_ h rfl ?_ | refine la4_ h rfl ?_ | refine la5_ h rfl ?_ | refine la6_ h rfl ?_ | refine la7_ h rfl ?_ | refine la8_ h rfl ?_ | refine la9_ h rfl ?_ | refine la10_ h rfl ?_ | refine la11_ h rfl ?_ | refine ck0_ h rfl ?_ | refine ck1_ h rfl ?_ | refine ck2_ h rfl ?_ | refine ck3_ h rfl ?_ | refine ck4_ h rfl ?_ | refine ck5_ h rfl ?_ | refine ck6_ h rfl ?_ | refine ck7_ h rfl ?_ | refine ck8_ h rfl ?_ | refine ck9_ h rfl ?_ | refine ck10_ h rfl ?_ | refine ck11_ h rfl ?_ | ((first | refine st0_ h rfl rfl ?_ | refine st1_ h rfl rfl ?_ | refine st2_ h rfl rfl ?_ | refine st3_ h rfl rfl ?_ | refine st4_ h rfl rfl ?_ | refine st5_ h rfl rfl ?_ | refine st6_ h rfl rfl ?_ | refine st7_ h rfl rfl ?_ | refine st8_ h rfl rfl ?_ | refine st9_ h rfl rfl ?_ | refine st10_ h rfl rfl ?_ | refine st11_ h rfl rfl ?_); clear h; (try clear w); intro w h; (try dsimp only [putN, setN] at h))))
        refine nw h ?_; clear h; (try clear w); intro b9 w h
        have h := dl4_ h
        exact app hv hg' hf' h
    · subst hz
      exact ⟨(v, 0, ()), rfl, hk v sv sg' sf' w hv hg' hf' h⟩
/-! ### those whose pods are gone -/
def reqOf (all : Alls) (id : Int) : ByteArray × Int := (mget all id).getD (s_, 0)
def lostA : List Int → Alls → List Fate → Alls × List Fate
  | [], all, out => (all, out)
  | id :: l, all, out => if (reqOf all id).2 = 1 then lostA l (mset all id ((reqOf all id).1, 4)) (out ++ [(id, 4, 0, s_pod_lost, ())]) else lostA l all out
def sameReq (a b : ByteArray × Int) : Bool := (a.1 == b.1) && ((a.2 == b.2) && true)
theorem eqin_req (a b : ByteArray × Int) (w : World) : (Op.equalIn 10000 T_gate_request (.agg #[.string a.1, I a.2]) (.agg #[.string b.1, I b.2])).run Pr w = .ok (sameReq a b) w := by
  have hS : Pr.underlying T_gate_request = some (.struct (Pr.fieldsOf T_gate_request)) := by kernel_rfl
  have hp : Pr.stoodInHeld T_gate_request = false := by kernel_rfl
  obtain ⟨a1, a2⟩ := a
  obtain ⟨b1, b2⟩ := b
  rw [show (10000 : Nat) = 9999 + 1 from rfl, run_equalIn_agg w 9999 T_gate_request _ _ hS hp]
  have u3 := Tryz.underlying3
  have i3 := Tryz.isAgg3
  have z3 := Tryz.sizeOf3
  have u9 := Tryz.underlying9
  have i9 := Tryz.isAgg9
  have z9 := Tryz.sizeOf9
  simp only [Program.fieldsOf, Tryz.underlying91]
  go_simp
  have e : (ByteArray.toList a1 = ByteArray.toList b1) ↔ (@BEq.beq ByteArray _ a1 b1) = true := by rw [beq_toListBytes]; simp
  unfold sameReq
  by_cases h1 : (@BEq.beq ByteArray _ a1 b1) = true
  · rw [if_pos (e.2 h1)]
    simp only [show (a1 == b1) = true from h1, Bool.true_and]
    by_cases h2 : @Eq Int a2 b2
    · cases h2; simp
    · simp [h2]
  · rw [if_neg (fun h => h1 (e.1 h))]
    have : (a1 == b1) = false := by simpa using h1
    simp [this]
theorem sameReq_iff (a b : ByteArray × Int) : sameReq a b = true ↔ a = b := by
  obtain ⟨a1, a2⟩ := a
  obtain ⟨b1, b2⟩ := b
  have e : (@BEq.beq ByteArray _ a1 b1) = true ↔ a1 = b1 := ba_iff
  unfold sameReq
  simp only [Bool.and_eq_true, beq_iff_eq, and_true, Prod.mk.injEq]
  exact and_congr e Iff.rfl
theorem eq_req (a b : ByteArray × Int) (w : World) : (do eqGuard .eql T_gate_request (.tmp 0) (.tmp 0) (.agg #[.string a.1, I a.2]) (.agg #[.string b.1, I b.2]); binOp .eql T_gate_request (.agg #[.string a.1, I a.2]) (.agg #[.string b.1, I b.2]) : Sem Value).run Pr w = .ok (.bool (sameReq a b)) w :=
  eqS_of (by kernel_rfl) (eqin_req a b w)
end Go.Proofs.YthmpbgloifdcnaaGreat
namespace Go.Proofs.YthmpbgloifdcnaaGreat
open Go.Dm
attribute [local irreducible] L.load L.store L.chk L.new L.nonnil L.guard L.ite L.draw L.idx L.sem L.semR L.semU L.chkSem L.next L.call L.callV L.join L.alts L.loop L.begin L.endRound L.range
variable {w0 w : World} {E : List Seg}
theorem lostA_len : ∀ {l : List Int} {all : Alls} {out : List Fate}, (lostA l all out).2.length ≤ out.length + l.length ∧ (lostA l all out).1.length ≤ all.length + l.length
  | [], _, _ => by simp [lostA]
  | id :: l, all, out => by
    unfold lostA; split
    · have := lostA_len (l := l) (all := mset all id ((reqOf all id).1, 4)) (out := out ++ [(id, 4, 0, s_pod_lost, ())])
      have h2 := mset_le' all id ((reqOf all id).1, (4 : Int))
      simp only [List.length_append, List.length_cons, List.length_nil] at this ⊢
      omega
    · have := lostA_len (l := l) (all := all) (out := out)
      simp only [List.length_cons]; omega
theorem lostA_ok {G : AGate} : ∀ {l : List Int} {all : Alls} {out : List Fate}, ({ G with all := all } : AGate).Ok → ({ G with all := (lostA l all out).1 } : AGate).Ok
  | [], _, _, h => h
  | id :: l, all, out, h => by
    unfold lostA; split
    · rename_i h1
      refine lostA_ok ?_
      refine h.reqIn (id := id) ?_ ((reqOf all id).1, 4)
      cases hg : mget all id with
      | none => unfold reqOf at h1; rw [hg] at h1; cases h1
      | some x => rfl
    · exact lostA_ok h
def gLost (G : AGate) (ids : List Int) : AGate × List Fate := ({ G with all := (lostA ids G.all []).1 }, (lostA ids G.all []).2)
theorem lostA_app : ∀ {l m : List Int} {all : Alls} {out : List Fate}, lostA (l ++ m) all out = lostA m (lostA l all out).1 (lostA l all out).2
  | [], m, all, out => rfl
  | id :: l, m, all, out => by
    rw [List.cons_append, lostA]
    split
    · rename_i h; rw [lostA_app]; conv => rhs; rw [lostA, if_pos h]
    · rename_i h; rw [lostA_app]; conv => rhs; rw [lostA, if_neg h]
theorem S_gLost {sg si : Seg} (h : St w0 (sg :: si :: E) w) {b bf : Nat} {G : AGate} (hg : GtS b bf G sg) {v0 : Sl} {ids : List Int} (hi : Rw eI T_int 1 v0 ids si) (hn : ids.length < 1000000) {k : Sl → PT}
    (hk : ∀ v sv sg' w', Rw Fate.cells T_gate_Fate 4 v (gLost G ids).2 sv → GtS b bf (gLost G ids).1 sg' → St w0 (sv :: sg' :: si :: E) w' → k v w') :
    L.call Pr n_gate_Gate_Lost [.pointer (some ⟨b, 0, none⟩), .slice v0.a v0.len v0.cap] (.one (.one .slice)) k w := by
  have ok := hg.1
  refine call_of (C_gate_Gate_Lost _ v0) ?_
  unfold F_gate_Gate_Lost
  have hl0 := Rw.len encI hi
  refine loop_of (fun q y w => ∃ (j : Nat) (all' : Alls) (out : List Fate) (v : Sl) (sv sg' : Seg), y = (v, (j : Int), ()) ∧ q + j = ids.length ∧ lostA (ids.take j) G.all [] = (all', out) ∧ Rw Fate.cells T_gate_Fate 4 v out sv ∧ GtS b bf { G with all := all' } sg' ∧ St w0 (sg' :: sv :: si :: E) w) ids.length
    ⟨0, G.all, [], _, [], sg, rfl, rfl, rfl, Rw.nil, hg, h.eq (by simp)⟩ ?_
  clear h; (try clear w)
  rintro q y w ⟨j, all', out, v, sv, sg', rfl, hq, hla, hv, hg', h⟩ again hag
  dsimp only
  have hll := lostA_len (l := ids.take j) (all := G.all) (out := [])
  rw [hla] at hll
  simp only [List.length_nil, List.length_take] at hll
  refine it (fun hb => ?_) (fun hb => ?_) <;> (try simp only [decide_eq_true_eq, decide_eq_false_iff_not, beq_iff_eq, bne_iff_ne, beq_eq_false_iff_ne, bne_eq_false_iff_eq, Bool.not_eq_true', Bool.not_eq_false', ne_eq, Bool.not_eq_true, Bool.not_eq_false] at hb)
  · have hj : j < ids.length := by omega
    have hx : ids[j]? = some ids[j] := List.getElem?_eq_getElem hj
    generalize ids[j] = id at hx
    have htk : ids.take (j + 1) = ids.take j ++ [id] := by rw [List.take_add_one, hx]; rfl
    have next : ∀ {all2 out2 v sv sg2 w}, lostA [id] all' out = (all2, out2) → Rw Fate.cells T_gate_Fate 4 v out2 sv → GtS b bf { G with all := all2 } sg2 → St w0 (sg2 :: sv :: si :: E) w → again (v, IntKind.wrap .i64 ((j : Int) + 1), ()) w := by
      intro all2 out2 v sv sg2 w e hv hg2 h
      rw [wr (by omega) (by omega)]
      refine hag (q - 1) _ w (by omega) ⟨j + 1, all2, out2, v, sv, sg2, by simp, by omega, ?_, hv, hg2, h⟩
      rw [htk, lostA_app, hla]; exact e
    refine jd ?_
    refine rd1 (Rw.rd encI h 2 rfl hi) encI (lf := .int .i64) (fun x => x) (fun x => ⟨_, rfl, rfl⟩) (by omega) hb fun y' hy' => ?_
    simp only [Int.toNat_natCast, hx, Option.some.injEq] at hy'
    subst hy'
    have ok2 := hg'.1
    obtain ⟨rA, rL, c, sA, sL, Q, hr, h⟩ := gt_open hg' h
    (repeat (first | refine nn ?_ | (refine dr h ?_; clear h; (try clear w); intro w h) | refine ld0_ h rfl rfl ?_ | refine ld1_ h rfl rfl ?_ | refine ld2_ h rfl rfl ?_ | refine ld3_ h rfl rfl ?_ | refine ld4_ h rfl rfl ?_ | refine ld5_ h rfl rfl ?_ | refine ld6_ h rfl rfl ?_ | refine ld7_ h rfl rfl ?_ | refine ld8_ h rfl rfl ?_ | refine ld9_ h rfl rfl ?_ | refine ld10_ h rfl rfl ?_ | refine ld11_ h rfl rfl ?_ | refine la0_ h rfl ?_ | refine la1_ h rfl ?_ | refine la2_ h rfl ?_ | refine la3_ h rfl ?_ | refine la4_ h rfl ?_ | refine la5_ h rfl ?_ | refine la6_ h rfl ?_ | refine la7_ h rfl ?_ | refine la8_ h rfl ?_ | refine la9_ h rfl ?_ | refine la10_ h rfl ?_ | refine la11_ h rfl ?_ | refine ck0_ h rfl ?_ | refine ck1_ h rfl ?_ | refine ck2_ h rfl ?_ | refine ck3_ h rfl ?_ | refine ck4_ h rfl ?_ | refine ck5_ h rfl ?_ | refine ck6_ h rfl ?_ | refine ck7_ h rfl ?_ | refine ck8_ h rfl ?_ | refine ck9_ h rfl ?_ | refine ck10_ h rfl ?_ | refine ck11_ h rfl ?_ | ((first | refine st0_ h rfl rfl ?_ | refine st1_ h rfl rfl ?_ | refine st2_ h rfl rfl ?_ | refine st3_ h rfl rfl ?_ | refine st4_ h rfl rfl ?_ | refine st5_ h rfl rfl ?_ | refine st6_ h rfl rfl ?_ | refine st7_ h rfl rfl ?_ | refine st8_ h rfl rfl ?_ | refine st9_ h rfl rfl ?_ | refine st10_ h rfl rfl ?_ | refine st11_ h rfl rfl ?_); clear h; (try clear w); intro w h; (try dsimp only [putN, setN] at h))))
    refine MpS.get mkI und_req zreq (fun x : ByteArray × Int => (x.1, x.2, ())) (fun _ => rfl) h 2 rfl hr.all ?_
    have er : ((mget all' id).map fun x : ByteArray × Int => (x.1, x.2, ())).getD (s_, 0, ()) = ((reqOf all' id).1, (reqOf all' id).2, ()) := by
      unfold reqOf; cases mget all' id <;> rfl
    dsimp only
    rw [er]
    refine nw h ?_; clear h; (try clear w); intro b10 w h
    (repeat (first | refine nn ?_ | (refine dr h ?_; clear h; (try clear w); intro w h) | refine ld0_ h rfl rfl ?_ | refine ld1_ h rfl rfl ?_ | refine ld2_ h rfl rfl ?_ | refine ld3_ h rfl rfl ?_ | refine ld4_ h rfl rfl ?_ | refine ld5_ h rfl rfl ?_ | refine ld6_ h rfl rfl ?_ | refine ld7_ h rfl rfl ?_ | refine ld8_ h rfl rfl ?_ | refine ld9_ h rfl rfl ?_ | refine ld10_ h rfl rfl ?_ | refine ld11_ h rfl rfl ?_ | refine la0_ h rfl ?_ | refine la1_ h rfl ?_ | refine la2_ h rfl ?_ | refine la3_ h rfl ?_ | refine la4_ h rfl ?_ | refine la5_ h rfl ?_ | refine la6_ h rfl ?_ | refine la7_ h rfl ?_ | refine la8_ h rfl ?_ | refine la9_ h rfl ?_ | refine la10_ h rfl ?_ | refine la11_ h rfl ?_ | refine ck0_ h rfl ?_ | refine ck1_ h rfl ?_ | refine ck2_ h rfl ?_ | refine ck3_ h rfl ?_ | refine ck4_ h rfl ?_ | refine ck5_ h rfl ?_ | refine ck6_ h rfl ?_ | refine ck7_ h rfl ?_ | refine ck8_ h rfl ?_ | refine ck9_ h rfl ?_ | refine ck10_ h rfl ?_ | refine ck11_ h rfl ?_ | ((first | refine st0_ h rfl rfl ?_ | refine st1_ h rfl rfl ?_ | refine st2_ h rfl rfl ?_ | refine st3_ h rfl rfl ?_ | refine st4_ h rfl rfl ?_ | refine st5_ h rfl rfl ?_ | refine st6_ h rfl rfl ?_ | refine st7_ h rfl rfl ?_ | refine st8_ h rfl rfl ?_ | refine st9_ h rfl rfl ?_ | refine st10_ h rfl rfl ?_ | refine st11_ h rfl rfl ?_); clear h; (try clear w); intro w h; (try dsimp only [putN, setN] at h))))
    unfold L.chkSem
    refine ⟨eq_req (reqOf all' id) ((reqOf all' id).1, 1) w, ?_⟩
    refine it (fun hc => ?_) (fun hc => ?_)
    · have hc : (reqOf all' id).2 = 1 := by
        have := (sameReq_iff (reqOf all' id) ((reqOf all' id).1, 1)).1 hc
        rw [this]
      (repeat (first | refine nn ?_ | (refine dr h ?_; clear h; (try clear w); intro w h) | refine ld0_ h rfl rfl ?_ | refine ld1_ h rfl rfl ?_ | refine ld2_ h rfl rfl ?_ | refine ld3_ h rfl rfl ?_ | refine ld4_ h rfl rfl ?_ | refine ld5_ h rfl rfl ?_ | refine ld6_ h rfl rfl ?_ | refine ld7_ h rfl rfl ?_ | refine ld8_ h rfl rfl ?_ | refine ld9_ h rfl rfl ?_ | refine ld10_ h rfl rfl ?_ | refine ld11_ h rfl rfl ?_ | refine la0_ h rfl ?_ | refine la1_ h rfl ?_ | refine la2_ h rfl ?_ | refine la3_ h rfl ?_ | refine la4_ h rfl ?_ | refine la5_ h rfl ?_ | refine la6_ h rfl ?_ | refine la7_ h rfl ?_ | refine la8_ h rfl ?_ | refine la9_ h rfl ?_ | refine la10_ h rfl ?_ | refine la11_ h rfl ?_ | refine ck0_ h rfl ?_ | refine ck1_ h rfl ?_ | refine ck2_ h rfl ?_ | refine ck3_ h rfl ?_ | refine ck4_ h rfl ?_ | refine ck5_ h rfl ?_ | refine ck6_ h rfl ?_ | refine ck7_ h rfl ?_ | refine ck8_ h rfl ?_ | refine ck9_ h rfl ?_ | refine ck10_ h rfl ?_ | refine ck11_ h rfl ?_ | ((first | refine st0_ h rfl rfl ?_ | refine st1_ h rfl rfl ?_ | refine st2_ h rfl rfl ?_ | refine st3_ h rfl rfl ?_ | refine st4_ h rfl rfl ?_ | refine st5_ h rfl rfl ?_ | refine st6_ h rfl rfl ?_ | refine st7_ h rfl rfl ?_ | refine st8_ h rfl rfl ?_ | refine st9_ h rfl rfl ?_ | refine st10_ h rfl rfl ?_ | refine st11_ h rfl rfl ?_); clear h; (try clear w); intro w h; (try dsimp only [putN, setN] at h))))
      refine S_gwhy h fun w h => ?_
      (repeat (first | refine nn ?_ | (refine dr h ?_; clear h; (try clear w); intro w h) | refine ld0_ h rfl rfl ?_ | refine ld1_ h rfl rfl ?_ | refine ld2_ h rfl rfl ?_ | refine ld3_ h rfl rfl ?_ | refine ld4_ h rfl rfl ?_ | refine ld5_ h rfl rfl ?_ | refine ld6_ h rfl rfl ?_ | refine ld7_ h rfl rfl ?_ | refine ld8_ h rfl rfl ?_ | refine ld9_ h rfl rfl ?_ | refine ld10_ h rfl rfl ?_ | refine ld11_ h rfl rfl ?_ | refine la0_ h rfl ?_ | refine la1_ h rfl ?_ | refine la2_ h rfl ?_ | refine la3_ h rfl ?_ | refine la4_ h rfl ?_ | refine la5_ h rfl ?_ | refine la6_ h rfl ?_ | refine la7_ h rfl ?_ | refine la8_ h rfl ?_ | refine la9_ h rfl ?_ | refine la10_ h rfl ?_ | refine la11_ h rfl ?_ | refine ck0_ h rfl ?_ | refine ck1_ h rfl ?_ | refine ck2_ h rfl ?_ | refine ck3_ h rfl ?_ | refine ck4_ h rfl ?_ | refine ck5_ h rfl ?_ | refine ck6_ h rfl ?_ | refine ck7_ h rfl ?_ | refine ck8_ h rfl ?_ | refine ck9_ h rfl ?_ | refine ck10_ h rfl ?_ | refine ck11_ h rfl ?_ | ((first | refine st0_ h rfl rfl ?_ | refine st1_ h rfl rfl ?_ | refine st2_ h rfl rfl ?_ | refine st3_ h rfl rfl ?_ | refine st4_ h rfl rfl ?_ | refine st5_ h rfl rfl ?_ | refine st6_ h rfl rfl ?_ | refine st7_ h rfl rfl ?_ | refine st8_ h rfl rfl ?_ | refine st9_ h rfl rfl ?_ | refine st10_ h rfl rfl ?_ | refine st11_ h rfl rfl ?_); clear h; (try clear w); intro w h; (try dsimp only [putN, setN] at h))))
      have h := dl0_ h
      obtain ⟨sg2, hg2, h⟩ := gt_close (G := { G with all := all' }) ok2 hr h
      have hin : (mget all' id).isSome = true := by
        cases hg : mget all' id with
        | none => unfold reqOf at hc; rw [hg] at hc; cases hc
        | some x => rfl
      refine S_gsetC (f := (0, 4, 0, s_pod_lost, ())) h hg2 (ok2.reqIn hin _) fun sg2 w hg2 h => ?_
      refine nw h ?_; clear h; (try clear w); intro b16 w h
      refine Rw.app (l := out) encF elF h 1 rfl hv (id, 4, 0, s_pod_lost, ()) rfl (by omega) (by omega) fun v' sv' w hv' h => ?_
      refine next (v := v') ?_ hv' hg2 h
      simp only [lostA]; rw [if_pos hc]
    · have hc : ¬ (reqOf all' id).2 = 1 := fun e => by
        have : sameReq (reqOf all' id) ((reqOf all' id).1, 1) = true := (sameReq_iff _ _).2 (by rw [← e])
        unfold sameReq at this; rw [this] at hc; cases hc
      have h := dl0_ h
      obtain ⟨sg2, hg2, h⟩ := gt_close (G := { G with all := all' }) ok2 hr h
      refine next (v := v) ?_ hv hg2 h
      simp only [lostA]; rw [if_neg hc]
  · have e : ids.take j = ids := List.take_of_length_le (by omega)
    rw [e] at hla
    refine S_cloneF h (Rw.rd encF h 1 rfl hv) (by omega) (fun h0 => Rw.nil_of encF hv h0) fun v' sv' w hv' h => ⟨v', rfl, ?_⟩
    have h := dl2_ h
    refine hk v' sv' sg' w ?_ ?_ h
    · unfold gLost; rw [hla]; exact hv'
    · unfold gLost; rw [hla]; exact hg'
/-! ### who waits, who is sent -/
def gWith (all : Alls) (rev : ByteArray) : List Int := isort ((all.filter fun p => decide (p.2 = (rev, 1))).map (·.1))
def gWait (G : AGate) (rev : ByteArray) : List Int := (lineOf G.lines rev).map (·.1)
def unReq : Value → ByteArray × Int
  | .agg ⟨.string s :: .int _ n :: _⟩ => (s, n)
  | _ => (s_, 0)
theorem S_gInside {sg : Seg} (h : St w0 (sg :: E) w) {b bf : Nat} {G : AGate} (hg : GtS b bf G sg) {rev : ByteArray} {k : Sl × Sl × Unit → PT}
    (hk : ∀ v1 v2 s1 s2 sg' w', Rw eI T_int 1 v1 (gWait G rev) s1 → Rw eI T_int 1 v2 (gWith G.all rev) s2 → GtS b bf G sg' → St w0 (s1 :: s2 :: sg' :: E) w' → k (v1, v2, ()) w') :
    L.call Pr n_gate_Gate_Inside [.pointer (some ⟨b, 0, none⟩), .string rev] (.tup [.one .slice, .one .slice]) k w := by
  have ok := hg.1
  have hfew := ok.few
  refine call_of (C_gate_Gate_Inside _ _) ?_
  unfold F_gate_Gate_Inside
  obtain ⟨rA, rL, c, sA, sL, Q, hr, h⟩ := gt_open hg h
  (repeat (first | refine nn ?_ | (refine dr h ?_; clear h; (try clear w); intro w h) | refine ld0_ h rfl rfl ?_ | refine ld1_ h rfl rfl ?_ | refine ld2_ h rfl rfl ?_ | refine ld3_ h rfl rfl ?_ | refine ld4_ h rfl rfl ?_ | refine ld5_ h rfl rfl ?_ | refine ld6_ h rfl rfl ?_ | refine ld7_ h rfl rfl ?_ | refine ld8_ h rfl rfl ?_ | refine ld9_ h rfl rfl ?_ | refine ld10_ h rfl rfl ?_ | refine ld11_ h rfl rfl ?_ | refine la0_ h rfl ?_ | refine la1_ h rfl ?_ | refine la2_ h rfl ?_ | refine la3_ h rfl ?_ | refine la4_ h rfl ?_ | refine la5_ h rfl ?_ | refine la6_ h rfl ?_ | refine la7_ h rfl ?_ | refine la8_ h rfl ?_ | refine la9_ h rfl ?_ | refine la10_ h rfl ?_ | refine la11_ h rfl ?_ | refine ck0_ h rfl ?_ | refine ck1_ h rfl ?_ | refine ck2_ h rfl ?_ | refine ck3_ h rfl ?_ | refine ck4_ h rfl ?_ | refine ck5_ h rfl ?_ | refine ck6_ h rfl ?_ | refine ck7_ h rfl ?_ | refine ck8_ h rfl ?_ | refine ck9_ h rfl ?_ | refine ck10_ h rfl ?_ | refine ck11_ h rfl ?_ | ((first | refine st0_ h rfl rfl ?_ | refine st1_ h rfl rfl ?_ | refine st2_ h rfl rfl ?_ | refine st3_ h rfl rfl ?_ | refine st4_ h rfl rfl ?_ | refine st5_ h rfl rfl ?_ | refine st6_ h rfl rfl ?_ | refine st7_ h rfl rfl ?_ | refine st8_ h rfl rfl ?_ | refine st9_ h rfl rfl ?_ | refine st10_ h rfl rfl ?_ | refine st11_ h rfl rfl ?_); clear h; (try clear w); intro w h; (try dsimp only [putN, setN] at h))))
  have h := fr2_ h
  have h : St w0 (sA :: [] :: gtB b bf rA rL c G.room G.pat :: [Cl c T_int [I G.room]] :: sL :: (Q.map LnE.sg).flatten :: E) w := h.eq (by simp)
  refine mapRange (kv := KI) (vv := vReq) unI (fun _ => rfl) unReq (fun _ => rfl) und_req (lk := .int .i64) (ev := .agg [.str, .int .i64]) (fun x => x) (fun _ => rfl) (fun x : ByteArray × Int => (x.1, x.2, ())) (fun _ => rfl) hr.all h
    (fun seen y F => ∃ v sv, y = (v, ()) ∧ Rw eI T_int 1 v ((seen.filter fun p => decide (p.2 = (rev, (1 : Int)))).map (·.1)) sv ∧ F = sv :: gtB b bf rA rL c G.room G.pat :: [Cl c T_int [I G.room]] :: sL :: (Q.map LnE.sg).flatten :: E)
    (y0 := (⟨none, 0, 0⟩, ())) ⟨_, [], rfl, Rw.nil, rfl⟩ ?_ ?_
  · rintro seen id x y F X w again hsl hmem hnew ⟨v, sv, rfl, hv, rfl⟩ h hN
    have hfl := List.length_filter_le (fun p : Int × (ByteArray × Int) => decide (p.2 = (rev, 1))) seen
    have h : St w0 (sA :: sv :: (gtB b bf rA rL c G.room G.pat :: [Cl c T_int [I G.room]] :: sL :: (Q.map LnE.sg).flatten :: E ++ X)) w := h
    refine nw h ?_; clear h; (try clear w); intro b16 w h
    (repeat (first | refine nn ?_ | (refine dr h ?_; clear h; (try clear w); intro w h) | refine ld0_ h rfl rfl ?_ | refine ld1_ h rfl rfl ?_ | refine ld2_ h rfl rfl ?_ | refine ld3_ h rfl rfl ?_ | refine ld4_ h rfl rfl ?_ | refine ld5_ h rfl rfl ?_ | refine ld6_ h rfl rfl ?_ | refine ld7_ h rfl rfl ?_ | refine ld8_ h rfl rfl ?_ | refine ld9_ h rfl rfl ?_ | refine ld10_ h rfl rfl ?_ | refine ld11_ h rfl rfl ?_ | refine la0_ h rfl ?_ | refine la1_ h rfl ?_ | refine la2_ h rfl ?_ | refine la3_ h rfl ?_ | refine la4_ h rfl ?_ | refine la5_ h rfl ?_ | refine la6_ h rfl ?_ | refine la7_ h rfl ?_ | refine la8_ h rfl ?_ | refine la9_ h rfl ?_ | refine la10_ h rfl ?_ | refine la11_ h rfl ?_ | refine ck0_ h rfl ?_ | refine ck1_ h rfl ?_ | refine ck2_ h rfl ?_ | refine ck3_ h rfl ?_ | refine ck4_ h rfl ?_ | refine ck5_ h rfl ?_ | refine ck6_ h rfl ?_ | refine ck7_ h rfl ?_ | refine ck8_ h rfl ?_ | refine ck9_ h rfl ?_ | refine ck10_ h rfl ?_ | refine ck11_ h rfl ?_ | ((first | refine st0_ h rfl rfl ?_ | refine st1_ h rfl rfl ?_ | refine st2_ h rfl rfl ?_ | refine st3_ h rfl rfl ?_ | refine st4_ h rfl rfl ?_ | refine st5_ h rfl rfl ?_ | refine st6_ h rfl rfl ?_ | refine st7_ h rfl rfl ?_ | refine st8_ h rfl rfl ?_ | refine st9_ h rfl rfl ?_ | refine st10_ h rfl rfl ?_ | refine st11_ h rfl rfl ?_); clear h; (try clear w); intro w h; (try dsimp only [putN, setN] at h))))
    unfold L.chkSem
    refine ⟨eq_req x (rev, 1) w, ?_⟩
    refine it (fun hc => ?_) (fun hc => ?_)
    · have hc : x = (rev, 1) := (sameReq_iff x (rev, 1)).1 hc
      refine nw h ?_; clear h; (try clear w); intro b18 w h
      refine Rw.app (l := (seen.filter fun p => decide (p.2 = (rev, (1 : Int)))).map (·.1)) encI elI h 2 rfl hv id rfl (by rw [List.length_map]; omega) (by rw [List.length_map]; omega) fun v' sv' w hv' h => ?_
      have h : St w0 ([Cl b16 T_gate_request [.string x.1, I x.2]] :: sA :: sv' :: (gtB b bf rA rL c G.room G.pat :: [Cl c T_int [I G.room]] :: sL :: (Q.map LnE.sg).flatten :: E ++ X)) w := h
      refine hN (v', ()) _ w ⟨v', sv', rfl, ?_, rfl⟩ (dl0_ h)
      rw [List.filter_append, List.map_append]
      simpa [hc] using hv'
    · have hc : ¬ x = (rev, 1) := fun e => by
        have : sameReq x (rev, 1) = true := (sameReq_iff _ _).2 e
        unfold sameReq at this; rw [this] at hc; cases hc
      refine hN (v, ()) _ w ⟨v, sv, rfl, ?_, rfl⟩ (dl0_ h)
      rw [List.filter_append, List.map_append]
      simpa [hc] using hv
  · rintro seen y F w hp ⟨v, sv, rfl, hv, rfl⟩ h
    have hfl := List.length_filter_le (fun p : Int × (ByteArray × Int) => decide (p.2 = (rev, 1))) seen
    rw [hp.length_eq] at hfl
    dsimp only
    refine S_SortI h 1 rfl hv (by rw [List.length_map]; omega) fun sv w hv h => ?_
    have e1 : isort ((seen.filter fun p => decide (p.2 = (rev, (1 : Int)))).map (·.1)) = gWith G.all rev := isort_eq ((hp.filter _).map _)
    rw [e1] at hv
    have h : St w0 (sA :: sv :: gtB b bf rA rL c G.room G.pat :: [Cl c T_int [I G.room]] :: sL :: (Q.map LnE.sg).flatten :: E) w := h
    have hgl : (gWith G.all rev).length < 1000000000 := by
      rw [← e1, isort_len, List.length_map]; omega
    have fin : ∀ {v1 : Sl} {s1 : Seg} {w}, Rw eI T_int 1 v1 (gWait G rev) s1 → St w0 (s1 :: sA :: sv :: gtB b bf rA rL c G.room G.pat :: [Cl c T_int [I G.room]] :: sL :: (Q.map LnE.sg).flatten :: E) w →
        L.call Pr n_slices_Clone_int_int [.slice v.a v.len v.cap] (.one (.one .slice)) (fun x14 w' => ∃ z, Value.tuple #[.slice v1.a v1.len v1.cap, .slice x14.a x14.len x14.cap] = RT.val (.tup [.one .slice, .one .slice]) z ∧ k z w') w := by
      intro v1 s1 w h1 h
      refine S_cloneI h (Rw.rd encI h 2 rfl hv) (by omega) (fun h0 => Rw.nil_of encI hv h0) fun v2 s2 w h2 _ h => ⟨(v1, v2, ()), rfl, ?_⟩
      have h := dl3_ h
      have h := fr6_ (fr6_ (fr4_ (fr6_ (fr6_ (fr1_ h)))))
      obtain ⟨sg', hg', h⟩ := gt_close ok hr h
      have h := fr2_ (fr2_ h)
      exact hk v1 v2 s1 s2 sg' w h1 h2 hg' h
    refine jd ?_
    (repeat (first | refine nn ?_ | (refine dr h ?_; clear h; (try clear w); intro w h) | refine ld0_ h rfl rfl ?_ | refine ld1_ h rfl rfl ?_ | refine ld2_ h rfl rfl ?_ | refine ld3_ h rfl rfl ?_ | refine ld4_ h rfl rfl ?_ | refine ld5_ h rfl rfl ?_ | refine ld6_ h rfl rfl ?_ | refine ld7_ h rfl rfl ?_ | refine ld8_ h rfl rfl ?_ | refine ld9_ h rfl rfl ?_ | refine ld10_ h rfl rfl ?_ | refine ld11_ h rfl rfl ?_ | refine la0_ h rfl ?_ | refine la1_ h rfl ?_ | refine la2_ h rfl ?_ | refine la3_ h rfl ?_ | refine la4_ h rfl ?_ | refine la5_ h rfl ?_ | refine la6_ h rfl ?_ | refine la7_ h rfl ?_ | refine la8_ h rfl ?_ | refine la9_ h rfl ?_ | refine la10_ h rfl ?_ | refine la11_ h rfl ?_ | refine ck0_ h rfl ?_ | refine ck1_ h rfl ?_ | refine ck2_ h rfl ?_ | refine ck3_ h rfl ?_ | refine ck4_ h rfl ?_ | refine ck5_ h rfl ?_ | refine ck6_ h rfl ?_ | refine ck7_ h rfl ?_ | refine ck8_ h rfl ?_ | refine ck9_ h rfl ?_ | refine ck10_ h rfl ?_ | refine ck11_ h rfl ?_ | ((first | refine st0_ h rfl rfl ?_ | refine st1_ h rfl rfl ?_ | refine st2_ h rfl rfl ?_ | refine st3_ h rfl rfl ?_ | refine st4_ h rfl rfl ?_ | refine st5_ h rfl rfl ?_ | refine st6_ h rfl rfl ?_ | refine st7_ h rfl rfl ?_ | refine st8_ h rfl rfl ?_ | refine st9_ h rfl rfl ?_ | refine st10_ h rfl rfl ?_ | refine st11_ h rfl rfl ?_); clear h; (try clear w); intro w h; (try dsimp only [putN, setN] at h))))
    refine MpS.get2 mkS' und_lns zln (fun x : Option Addr => x) (fun _ => rfl) h 4 rfl hr.lns ?_
    dsimp only
    have e2 := lfind_kp (Q := Q) (rev := rev)
    have e3 := lfind_ka (Q := Q) (rev := rev)
    rw [← hr.abs] at e3
    cases hf : lfind LnE.k Q rev with
    | none =>
      rw [hf] at e2 e3
      simp only [Option.map_none] at e2 e3
      rw [e2]
      refine itF rfl ?_
      refine fin (v1 := ⟨none, 0, 0⟩) (s1 := []) ?_ h.nil
      unfold gWait lineOf; rw [e3]; exact Rw.nil
    | some x =>
      rw [hf] at e2 e3
      simp only [Option.map_some] at e2 e3
      rw [e2]
      refine itT rfl ?_
      obtain ⟨A, B, rfl, hx⟩ := lfind_at hf
      have hlx := hr.each x (by simp)
      have hlen := lineOf_len ok rev
      have hhi := ok.hi
      have elo : lineOf G.lines rev = x.l := by unfold lineOf; rw [e3]; rfl
      rw [elo] at hlen
      have h := fr5_ h
      have h := h.pick
      refine S_All h 0 rfl hlx (by omega) fun v1 s1 w h1 h => ?_
      have h : St w0 (s1 :: x.sg :: ((A ++ B).map LnE.sg).flatten :: sA :: sv :: gtB b bf rA rL c G.room G.pat :: [Cl c T_int [I G.room]] :: sL :: E) w := h
      have h := fr2_ (fr2_ h)
      have h : St w0 (LnE.sg x :: ((A ++ B).map LnE.sg).flatten :: s1 :: sA :: sv :: gtB b bf rA rL c G.room G.pat :: [Cl c T_int [I G.room]] :: sL :: E) w := h
      have h := h.place
      have h := fr6_ (fr6_ (fr6_ (fr6_ (fr6_ (fr6_ h)))))
      refine fin (v1 := v1) ?_ h
      unfold gWait; rw [elo]; exact h1
theorem S_gBusy {sg : Seg} (h : St w0 (sg :: E) w) {b bf : Nat} {G : AGate} (hg : GtS b bf G sg) {rev : ByteArray} {k : Int → PT}
    (hk : ∀ sg' w', GtS b bf G sg' → St w0 (sg' :: E) w' → k (((gWait G rev).length : Int) + (gWith G.all rev).length) w') :
    L.call Pr n_gate_Gate_Busy [.pointer (some ⟨b, 0, none⟩), .string rev] (.one (.one (.int .i64))) k w := by
  have ok := hg.1
  refine call_of (C_gate_Gate_Busy _ _) ?_
  unfold F_gate_Gate_Busy
  refine S_gInside h hg fun v1 v2 s1 s2 sg' w h1 h2 hg' h => ?_
  have e1 := Rw.len encI h1
  have e2 := Rw.len encI h2
  have hlen := lineOf_len ok rev
  have hhi := ok.hi
  have hfew := ok.few
  have h3 : (gWait G rev).length = (lineOf G.lines rev).length := List.length_map ..
  have h4 : (gWith G.all rev).length ≤ G.all.length := by unfold gWith; rw [isort_len, List.length_map]; exact List.length_filter_le ..
  refine ⟨_, rfl, ?_⟩
  dsimp only
  rw [e1, e2, wr (by omega) (by omega)]
  exact hk sg' w hg' (dl0_ (dl0_ h))
end Go.Proofs.YthmpbgloifdcnaaGreat
namespace Go.Proofs.YthmpbgloifdcnaaGreat
open Go.Dm
attribute [local irreducible] L.load L.store L.chk L.new L.nonnil L.guard L.ite L.draw L.idx L.sem L.semR L.semU L.chkSem L.next L.call L.callV L.join L.alts L.loop L.begin L.endRound L.range
variable {w0 w : World} {E : List Seg}
def gCnt (all : Alls) (q : Int) : Nat := (all.filter fun p => decide (p.2.2 = q)).length
theorem S_gCounts {sg : Seg} (h : St w0 (sg :: E) w) {b bf : Nat} {G : AGate} (hg : GtS b bf G sg) {k : Int × Int × Int × Int × Unit → PT}
    (hk : ∀ sg' w', GtS b bf G sg' → St w0 (sg' :: E) w' → k ((G.all.length : Int), (gCnt G.all 2 : Int), (gCnt G.all 1 : Int), (gCnt G.all 3 : Int) + gCnt G.all 4, ()) w') :
    L.call Pr n_gate_Gate_Counts [.pointer (some ⟨b, 0, none⟩)] (.tup [.one (.int .i64), .one (.int .i64), .one (.int .i64), .one (.int .i64)]) k w := by
  have ok := hg.1
  have hfew := ok.few
  refine call_of (C_gate_Gate_Counts _) ?_
  unfold F_gate_Gate_Counts
  refine MpS.new h KI KI fun rM sM w hM h => ?_
  have h := fr1_ h
  obtain ⟨rA, rL, c, sA, sL, Q, hr, h⟩ := gt_open hg h
  (repeat (first | refine nn ?_ | (refine dr h ?_; clear h; (try clear w); intro w h) | refine ld0_ h rfl rfl ?_ | refine ld1_ h rfl rfl ?_ | refine ld2_ h rfl rfl ?_ | refine ld3_ h rfl rfl ?_ | refine ld4_ h rfl rfl ?_ | refine ld5_ h rfl rfl ?_ | refine ld6_ h rfl rfl ?_ | refine ld7_ h rfl rfl ?_ | refine ld8_ h rfl rfl ?_ | refine ld9_ h rfl rfl ?_ | refine ld10_ h rfl rfl ?_ | refine ld11_ h rfl rfl ?_ | refine la0_ h rfl ?_ | refine la1_ h rfl ?_ | refine la2_ h rfl ?_ | refine la3_ h rfl ?_ | refine la4_ h rfl ?_ | refine la5_ h rfl ?_ | refine la6_ h rfl ?_ | refine la7_ h rfl ?_ | refine la8_ h rfl ?_ | refine la9_ h rfl ?_ | refine la10_ h rfl ?_ | refine la11_ h rfl ?_ | refine ck0_ h rfl ?_ | refine ck1_ h rfl ?_ | refine ck2_ h rfl ?_ | refine ck3_ h rfl ?_ | refine ck4_ h rfl ?_ | refine ck5_ h rfl ?_ | refine ck6_ h rfl ?_ | refine ck7_ h rfl ?_ | refine ck8_ h rfl ?_ | refine ck9_ h rfl ?_ | refine ck10_ h rfl ?_ | refine ck11_ h rfl ?_ | ((first | refine st0_ h rfl rfl ?_ | refine st1_ h rfl rfl ?_ | refine st2_ h rfl rfl ?_ | refine st3_ h rfl rfl ?_ | refine st4_ h rfl rfl ?_ | refine st5_ h rfl rfl ?_ | refine st6_ h rfl rfl ?_ | refine st7_ h rfl rfl ?_ | refine st8_ h rfl rfl ?_ | refine st9_ h rfl rfl ?_ | refine st10_ h rfl rfl ?_ | refine st11_ h rfl rfl ?_); clear h; (try clear w); intro w h; (try dsimp only [putN, setN] at h))))
  have h := fr3_ (fr5_ h)
  refine mapRange (kv := KI) (vv := vReq) unI (fun _ => rfl) unReq (fun _ => rfl) und_req (lk := .int .i64) (ev := .agg [.str, .int .i64]) (fun x => x) (fun _ => rfl) (fun x : ByteArray × Int => (x.1, x.2, ())) (fun _ => rfl) hr.all h
    (fun seen y F => ∃ mm sm, MpS KI KI rM mm sm ∧ (∀ q, (mget mm q).getD 0 = ((gCnt seen q : Nat) : Int)) ∧ F = sm :: gtB b bf rA rL c G.room G.pat :: [Cl c T_int [I G.room]] :: sL :: (Q.map LnE.sg).flatten :: E)
    (y0 := ()) ⟨[], sM, hM, fun q => rfl, rfl⟩ ?_ ?_
  · rintro seen id x ⟨⟩ F X w again hsl hmem hnew ⟨mm, sm, hm, hc, rfl⟩ h hN
    have h : St w0 (sA :: sm :: (gtB b bf rA rL c G.room G.pat :: [Cl c T_int [I G.room]] :: sL :: (Q.map LnE.sg).flatten :: E ++ X)) w := h
    refine nw h ?_; clear h; (try clear w); intro b16 w h
    (repeat (first | refine nn ?_ | (refine dr h ?_; clear h; (try clear w); intro w h) | refine ld0_ h rfl rfl ?_ | refine ld1_ h rfl rfl ?_ | refine ld2_ h rfl rfl ?_ | refine ld3_ h rfl rfl ?_ | refine ld4_ h rfl rfl ?_ | refine ld5_ h rfl rfl ?_ | refine ld6_ h rfl rfl ?_ | refine ld7_ h rfl rfl ?_ | refine ld8_ h rfl rfl ?_ | refine ld9_ h rfl rfl ?_ | refine ld10_ h rfl rfl ?_ | refine ld11_ h rfl rfl ?_ | refine la0_ h rfl ?_ | refine la1_ h rfl ?_ | refine la2_ h rfl ?_ | refine la3_ h rfl ?_ | refine la4_ h rfl ?_ | refine la5_ h rfl ?_ | refine la6_ h rfl ?_ | refine la7_ h rfl ?_ | refine la8_ h rfl ?_ | refine la9_ h rfl ?_ | refine la10_ h rfl ?_ | refine la11_ h rfl ?_ | refine ck0_ h rfl ?_ | refine ck1_ h rfl ?_ | refine ck2_ h rfl ?_ | refine ck3_ h rfl ?_ | refine ck4_ h rfl ?_ | refine ck5_ h rfl ?_ | refine ck6_ h rfl ?_ | refine ck7_ h rfl ?_ | refine ck8_ h rfl ?_ | refine ck9_ h rfl ?_ | refine ck10_ h rfl ?_ | refine ck11_ h rfl ?_ | ((first | refine st0_ h rfl rfl ?_ | refine st1_ h rfl rfl ?_ | refine st2_ h rfl rfl ?_ | refine st3_ h rfl rfl ?_ | refine st4_ h rfl rfl ?_ | refine st5_ h rfl rfl ?_ | refine st6_ h rfl rfl ?_ | refine st7_ h rfl rfl ?_ | refine st8_ h rfl rfl ?_ | refine st9_ h rfl rfl ?_ | refine st10_ h rfl rfl ?_ | refine st11_ h rfl rfl ?_); clear h; (try clear w); intro w h; (try dsimp only [putN, setN] at h))))
    refine MpS.get mkI und_map_i zi (fun x : Int => x) (fun _ => rfl) h 2 rfl hm ?_
    have hcx := hc x.2
    have hle : gCnt seen x.2 ≤ seen.length := List.length_filter_le ..
    have e : ((mget mm x.2).map fun x : Int => x).getD 0 = ((gCnt seen x.2 : Nat) : Int) := by rw [← hcx]; cases mget mm x.2 <;> rfl
    rw [e, wr (by omega) (by omega)]
    refine MpS.set mkI und_map_i h 2 rfl hm (((gCnt seen x.2 : Nat) : Int) + 1) rfl fun sm' w hm' h => ?_
    refine hN () _ w ⟨_, sm', hm', fun q => ?_, rfl⟩ (dl0_ h)
    rw [mget_mset]
    unfold gCnt
    rw [List.filter_append, List.length_append]
    by_cases hq : x.2 = q
    · subst hq; simp [gCnt]
    · rw [if_neg hq]; have := hc q; unfold gCnt at this; simp [hq, this]
  · rintro seen ⟨⟩ F w hp ⟨mm, sm, hm, hc, rfl⟩ h
    have hcc : ∀ q, gCnt seen q = gCnt G.all q := fun q => (hp.filter _).length_eq
    have hle3 : gCnt G.all 3 ≤ G.all.length := List.length_filter_le ..
    have hle4 : gCnt G.all 4 ≤ G.all.length := List.length_filter_le ..
    have eg : ∀ q : Int, ((mget mm q).map fun x : Int => x).getD 0 = ((gCnt G.all q : Nat) : Int) := fun q => by rw [← hcc, ← hc q]; cases mget mm q <;> rfl
    have ev : ∀ q : Int, ((mget mm q).map KI).getD (I 0) = I ((gCnt G.all q : Nat) : Int) := fun q => by rw [← eg q]; cases mget mm q <;> rfl
    have h : St w0 (sA :: sm :: gtB b bf rA rL c G.room G.pat :: [Cl c T_int [I G.room]] :: sL :: (Q.map LnE.sg).flatten :: E) w := h
    (repeat (first | refine nn ?_ | (refine dr h ?_; clear h; (try clear w); intro w h) | refine ld0_ h rfl rfl ?_ | refine ld1_ h rfl rfl ?_ | refine ld2_ h rfl rfl ?_ | refine ld3_ h rfl rfl ?_ | refine ld4_ h rfl rfl ?_ | refine ld5_ h rfl rfl ?_ | refine ld6_ h rfl rfl ?_ | refine ld7_ h rfl rfl ?_ | refine ld8_ h rfl rfl ?_ | refine ld9_ h rfl rfl ?_ | refine ld10_ h rfl rfl ?_ | refine ld11_ h rfl rfl ?_ | refine la0_ h rfl ?_ | refine la1_ h rfl ?_ | refine la2_ h rfl ?_ | refine la3_ h rfl ?_ | refine la4_ h rfl ?_ | refine la5_ h rfl ?_ | refine la6_ h rfl ?_ | refine la7_ h rfl ?_ | refine la8_ h rfl ?_ | refine la9_ h rfl ?_ | refine la10_ h rfl ?_ | refine la11_ h rfl ?_ | refine ck0_ h rfl ?_ | refine ck1_ h rfl ?_ | refine ck2_ h rfl ?_ | refine ck3_ h rfl ?_ | refine ck4_ h rfl ?_ | refine ck5_ h rfl ?_ | refine ck6_ h rfl ?_ | refine ck7_ h rfl ?_ | refine ck8_ h rfl ?_ | refine ck9_ h rfl ?_ | refine ck10_ h rfl ?_ | refine ck11_ h rfl ?_ | ((first | refine st0_ h rfl rfl ?_ | refine st1_ h rfl rfl ?_ | refine st2_ h rfl rfl ?_ | refine st3_ h rfl rfl ?_ | refine st4_ h rfl rfl ?_ | refine st5_ h rfl rfl ?_ | refine st6_ h rfl rfl ?_ | refine st7_ h rfl rfl ?_ | refine st8_ h rfl rfl ?_ | refine st9_ h rfl rfl ?_ | refine st10_ h rfl rfl ?_ | refine st11_ h rfl rfl ?_); clear h; (try clear w); intro w h; (try dsimp only [putN, setN] at h))))
    refine MpS.len und_req h 0 rfl hr.all ?_
    refine MpS.get mkI und_map_i zi (fun x : Int => x) (fun _ => rfl) h 1 rfl hm ?_
    rw [eg]
    refine MpS.get mkI und_map_i zi (fun x : Int => x) (fun _ => rfl) h 1 rfl hm ?_
    rw [eg]
    refine MpS.get mkI und_map_i zi (fun x : Int => x) (fun _ => rfl) h 1 rfl hm ?_
    rw [eg]
    refine MpS.get mkI und_map_i zi (fun x : Int => x) (fun _ => rfl) h 1 rfl hm ?_
    rw [eg]
    (repeat refine MpS.chk mkI und_map_i zi h 1 rfl hm (ev _) ?_)
    rw [wr (by omega) (by omega)]
    have h := fr5_ (fr5_ (fr3_ (fr5_ (fr5_ (fr1_ h)))))
    have h := h
    obtain ⟨sg', hg', h⟩ := gt_close ok hr h
    exact ⟨(_, _, _, _, ()), rfl, hk sg' w hg' (dl1_ h)⟩
end Go.Proofs.YthmpbgloifdcnaaGreat
