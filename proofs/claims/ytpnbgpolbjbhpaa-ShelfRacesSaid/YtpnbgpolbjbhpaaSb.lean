/- Contracts of functions, and walks of laws (text Sb). No conditions beyond those its theorems state. -/
import Derived.Test.YtpnbgpolbjbhpaaSa
set_option linter.all false
namespace Go.Proofs.Ytpnbgpolbjbhpaa
open Go.Dm
attribute [local irreducible] L.load L.store L.chk L.new L.nonnil L.guard L.ite L.draw L.idx L.sem L.semR L.semU L.chkSem L.next L.call L.callV L.join L.alts L.loop L.begin L.endRound L.range
variable {w0 w : World} {E : List Seg}
/-! ### racks of configurations -/
/-- the six of a configuration, version, generation, there -/
abbrev Thg := HT [.str, .int .i64, .int .i64, .int .i64, .int .i64, .int .i64, .int .i64, .int .i64, .bool]
abbrev eThg : E1 := .agg [.str, .int .i64, .int .i64, .int .i64, .int .i64, .int .i64, .int .i64, .int .i64, .bool]
def vThg (t : Thg) : Value := eThg.val t
def noThg : Thg := (s_, 0, 0, 0, 0, 0, 0, 0, false, ())
abbrev Thg.ver (t : Thg) : Int := t.2.2.2.2.2.2.1
abbrev Thg.gen (t : Thg) : Int := t.2.2.2.2.2.2.2.1
abbrev Thg.is (t : Thg) : Bool := t.2.2.2.2.2.2.2.2.1
def thgOf (c : Cfg) (ver gen : Int) (is : Bool) : Thg := (c.1, c.2.1, c.2.2.1, c.2.2.2.1, c.2.2.2.2.1, c.2.2.2.2.2.1, ver, gen, is, ())
theorem und_rack : Pr.underlying T_map_string_shelf_thing_api_Config = some (.map T_string T_shelf_thing_api_Config) := by kernel_rfl
theorem mkS : MK Pr T_string Value.string := mk_str und_str
theorem zthg (w : World) : (zeroValue T_shelf_thing_api_Config).run Pr w = .ok (eThg.val noThg) w := by
  have h : (Pr.info? T_shelf_thing_api_Config).map (·.zero) = some (some (.agg #[.string s_, I 0, I 0, I 0, I 0, I 0, I 0, I 0, .bool false])) := by kernel_rfl
  cases hi : Pr.info? T_shelf_thing_api_Config with
  | none => rw [hi] at h; cases h
  | some i => rw [hi] at h; simp only [Option.map_some, Option.some.injEq] at h; exact zv hi h w
def tget (m : List (ByteArray × Thg)) (n : ByteArray) : Thg := (mget m n).getD noThg
def RackS (b : Nat) (m : List (ByteArray × Thg)) (s : Seg) : Prop := ∃ r sm, MpS Value.string vThg r m sm ∧ s = [Cl b T_shelf_rack_api_Config [.map (some r), .func (.func n_shelf_New_1) #[] #[]]] ++ sm
theorem tlook {r : Nat} {m : List (ByteArray × Thg)} {s : Seg} (h : St w0 E w) (i : Nat) (hi : nth E i = some s) (hm : MpS Value.string vThg r m s) {n : ByteArray} {kk : eThg.T → PT} (hk : kk (tget m n) w) :
    L.semR Pr (.one eThg) (Instr.lookup T_map_string_shelf_thing_api_Config (.map (some r)) (.string n) false) kk w := by
  refine MpS.get mkS und_rack zthg (fun t : Thg => t) (fun _ => rfl) h i hi hm ?_
  have : ((mget m n).map fun t : Thg => t).getD noThg = tget m n := by unfold tget; cases mget m n <;> rfl
  rw [this]; exact hk
theorem S_madeC (h : St w0 E w) {k : Option Addr → PT} (hk : ∀ b s w', RackS b [] s → St w0 (s :: E) w' → k (some ⟨b, 0, none⟩) w') :
    L.call Pr n_shelf_made_api_Config [.func (.func n_shelf_New_1) #[] #[]] (.one (.one .ptr)) k w := by
  refine call_of (C_shelf_made_api_Config ⟨.func n_shelf_New_1, #[], #[]⟩) ?_
  unfold F_shelf_made_api_Config
  refine MpS.new h Value.string vThg fun r s w hm h => ?_
  refine nw h ?_; clear h; (try clear w); intro b w h
  exact ⟨_, rfl, hk b _ w ⟨r, s, hm, rfl⟩ h.glue⟩
def mayC (t : Thg) (ver : Int) (fresh : Bool) : Int :=
  if fresh = true ∧ ver = 0 then (if t.is = true then 5 else 0) else if t.is = true then (if t.ver = ver then 0 else 7) else 6
theorem S_mayC (h : St w0 E w) (i : Nat) {b : Nat} {m : List (ByteArray × Thg)} {s : Seg} (hi : nth E i = some s) (hs : RackS b m s) {n : ByteArray} {ver : Int} {fresh : Bool} {k : Int → PT} (hk : ∀ w', St w0 E w' → k (mayC (tget m n) ver fresh) w') :
    L.call Pr n_shelf_rack_api_Config_may [.pointer (some ⟨b, 0, none⟩), .string n, I ver, .bool fresh] (.one (.one (.int .i64))) k w := by
  obtain ⟨r, sm, hm, rfl⟩ := hs
  refine call_of (C_shelf_rack_api_Config_may _ _ _ _) ?_
  unfold F_shelf_rack_api_Config_may
  have h := (h.front i hi).split
  (repeat (first | refine nn ?_ | (refine dr h ?_; clear h; (try clear w); intro w h) | refine ld0_ h rfl rfl ?_ | refine ld1_ h rfl rfl ?_ | refine ld2_ h rfl rfl ?_ | refine ld3_ h rfl rfl ?_ | refine ld4_ h rfl rfl ?_ | refine ld5_ h rfl rfl ?_ | refine ld6_ h rfl rfl ?_ | refine ld7_ h rfl rfl ?_ | refine ld8_ h rfl rfl ?_ | refine ld9_ h rfl rfl ?_ | refine ld10_ h rfl rfl ?_ | refine ld11_ h rfl rfl ?_ | refine la0_ h rfl ?_ | refine la1_ h rfl ?_ | refine la2_ h rfl ?_ | refine la3_ h rfl ?_ | refine la4_ h rfl ?_ | refine la5_ h rfl ?_ | refine la6_ h rfl ?_ | refine la7_ h rfl ?_ | refine la8_ h rfl ?_ | refine la9_ h rfl ?_ | refine la10_ h rfl ?_ | refine la11_ h rfl ?_ | refine ck0_ h rfl ?_ | refine ck1_ h rfl ?_ | refine ck2_ h rfl ?_ | refine ck3_ h rfl ?_ | refine ck4_ h rfl ?_ | refine ck5_ h rfl ?_ | refine ck6_ h rfl ?_ | refine ck7_ h rfl ?_ | refine ck8_ h rfl ?_ | refine ck9_ h rfl ?_ | refine ck10_ h rfl ?_ | refine ck11_ h rfl ?_ | ((first | refine st0_ h rfl rfl ?_ | refine st1_ h rfl rfl ?_ | refine st2_ h rfl rfl ?_ | refine st3_ h rfl rfl ?_ | refine st4_ h rfl rfl ?_ | refine st5_ h rfl rfl ?_ | refine st6_ h rfl rfl ?_ | refine st7_ h rfl rfl ?_ | refine st8_ h rfl rfl ?_ | refine st9_ h rfl rfl ?_ | refine st10_ h rfl rfl ?_ | refine st11_ h rfl rfl ?_); clear h; (try clear w); intro w h; (try dsimp only [putN, setN] at h))))
  refine tlook h 1 rfl hm ?_
  generalize tget m n = t at hk
  refine nw h ?_; clear h; (try clear w); intro b4 w h
  (repeat (first | refine nn ?_ | (refine dr h ?_; clear h; (try clear w); intro w h) | refine ld0_ h rfl rfl ?_ | refine ld1_ h rfl rfl ?_ | refine ld2_ h rfl rfl ?_ | refine ld3_ h rfl rfl ?_ | refine ld4_ h rfl rfl ?_ | refine ld5_ h rfl rfl ?_ | refine ld6_ h rfl rfl ?_ | refine ld7_ h rfl rfl ?_ | refine ld8_ h rfl rfl ?_ | refine ld9_ h rfl rfl ?_ | refine ld10_ h rfl rfl ?_ | refine ld11_ h rfl rfl ?_ | refine la0_ h rfl ?_ | refine la1_ h rfl ?_ | refine la2_ h rfl ?_ | refine la3_ h rfl ?_ | refine la4_ h rfl ?_ | refine la5_ h rfl ?_ | refine la6_ h rfl ?_ | refine la7_ h rfl ?_ | refine la8_ h rfl ?_ | refine la9_ h rfl ?_ | refine la10_ h rfl ?_ | refine la11_ h rfl ?_ | refine ck0_ h rfl ?_ | refine ck1_ h rfl ?_ | refine ck2_ h rfl ?_ | refine ck3_ h rfl ?_ | refine ck4_ h rfl ?_ | refine ck5_ h rfl ?_ | refine ck6_ h rfl ?_ | refine ck7_ h rfl ?_ | refine ck8_ h rfl ?_ | refine ck9_ h rfl ?_ | refine ck10_ h rfl ?_ | refine ck11_ h rfl ?_ | ((first | refine st0_ h rfl rfl ?_ | refine st1_ h rfl rfl ?_ | refine st2_ h rfl rfl ?_ | refine st3_ h rfl rfl ?_ | refine st4_ h rfl rfl ?_ | refine st5_ h rfl rfl ?_ | refine st6_ h rfl rfl ?_ | refine st7_ h rfl rfl ?_ | refine st8_ h rfl rfl ?_ | refine st9_ h rfl rfl ?_ | refine st10_ h rfl rfl ?_ | refine st11_ h rfl rfl ?_); clear h; (try clear w); intro w h; (try dsimp only [putN, setN] at h))))
  have fin : ∀ {e : Int} {w : World}, e = mayC t ver fresh → St w0 ([Cl b4 T_shelf_thing_api_Config [.string t.1, I t.2.1, I t.2.2.1, I t.2.2.2.1, I t.2.2.2.2.1, I t.2.2.2.2.2.1, I t.2.2.2.2.2.2.1, I t.2.2.2.2.2.2.2.1, .bool t.2.2.2.2.2.2.2.2.1]] :: [Cl b T_shelf_rack_api_Config [.map (some r), .func (.func n_shelf_New_1) #[] #[]]] :: sm :: delN E i) w →
      ∃ x, I e = RT.val (.one (.one (.int .i64))) x ∧ k x w := by
    rintro e w rfl h
    exact ⟨_, rfl, hk w (St.setN_same' i hi (St.back i hi (dl0_ h).glue))⟩
  have c2 : ∀ {k5 : Unit → PT} {w : World}, ¬ (fresh = true ∧ ver = 0) → (∀ {w}, mayC t ver fresh = 0 → St w0 ([Cl b4 T_shelf_thing_api_Config [.string t.1, I t.2.1, I t.2.2.1, I t.2.2.2.1, I t.2.2.2.2.1, I t.2.2.2.2.2.1, I t.2.2.2.2.2.2.1, I t.2.2.2.2.2.2.2.1, .bool t.2.2.2.2.2.2.2.2.1]] :: [Cl b T_shelf_rack_api_Config [.map (some r), .func (.func n_shelf_New_1) #[] #[]]] :: sm :: delN E i) w → k5 () w) →
      St w0 ([Cl b4 T_shelf_thing_api_Config [.string t.1, I t.2.1, I t.2.2.1, I t.2.2.2.1, I t.2.2.2.2.1, I t.2.2.2.2.2.1, I t.2.2.2.2.2.2.1, I t.2.2.2.2.2.2.2.1, .bool t.2.2.2.2.2.2.2.2.1]] :: [Cl b T_shelf_rack_api_Config [.map (some r), .func (.func n_shelf_New_1) #[] #[]]] :: sm :: delN E i) w →
      L.load (.one (.bool)) ((⟨b4, 0, none⟩ : Addr).add 8) (fun (x18 : Bool) =>
      L.ite (!x18) (
        fun w => ∃ x, Value.int .i64 6 = RT.val (.one (.one (.int .i64))) x ∧ k x w) <|
      L.load (.one (.int .i64)) ((⟨b4, 0, none⟩ : Addr).add 6) fun (x19 : Int) =>
      L.ite (x19 != ver) (
        fun w => ∃ x, Value.int .i64 7 = RT.val (.one (.one (.int .i64))) x ∧ k x w) <|
      k5 (())) w := by
    intro k5 w hf hk5 h
    (repeat (first | refine nn ?_ | (refine dr h ?_; clear h; (try clear w); intro w h) | refine ld0_ h rfl rfl ?_ | refine ld1_ h rfl rfl ?_ | refine ld2_ h rfl rfl ?_ | refine ld3_ h rfl rfl ?_ | refine ld4_ h rfl rfl ?_ | refine ld5_ h rfl rfl ?_ | refine ld6_ h rfl rfl ?_ | refine ld7_ h rfl rfl ?_ | refine ld8_ h rfl rfl ?_ | refine ld9_ h rfl rfl ?_ | refine ld10_ h rfl rfl ?_ | refine ld11_ h rfl rfl ?_ | refine la0_ h rfl ?_ | refine la1_ h rfl ?_ | refine la2_ h rfl ?_ | refine la3_ h rfl ?_ | refine la4_ h rfl ?_ | refine la5_ h rfl ?_ | refine la6_ h rfl ?_ | refine la7_ h rfl ?_ | refine la8_ h rfl ?_ | refine la9_ h rfl ?_ | refine la10_ h rfl ?_ | refine la11_ h rfl ?_ | refine ck0_ h rfl ?_ | refine ck1_ h rfl ?_ | refine ck2_ h rfl ?_ | refine ck3_ h rfl ?_ | refine ck4_ h rfl ?_ | refine ck5_ h rfl ?_ | refine ck6_ h rfl ?_ | refine ck7_ h rfl ?_ | refine ck8_ h rfl ?_ | refine ck9_ h rfl ?_ | refine ck10_ h rfl ?_ | refine ck11_ h rfl ?_ | ((first | refine st0_ h rfl rfl ?_ | refine st1_ h rfl rfl ?_ | refine st2_ h rfl rfl ?_ | refine st3_ h rfl rfl ?_ | refine st4_ h rfl rfl ?_ | refine st5_ h rfl rfl ?_ | refine st6_ h rfl rfl ?_ | refine st7_ h rfl rfl ?_ | refine st8_ h rfl rfl ?_ | refine st9_ h rfl rfl ?_ | refine st10_ h rfl rfl ?_ | refine st11_ h rfl rfl ?_); clear h; (try clear w); intro w h; (try dsimp only [putN, setN] at h))))
    refine it (fun h1 => ?_) (fun h1 => ?_) <;> (try simp only [decide_eq_true_eq, decide_eq_false_iff_not, beq_iff_eq, bne_iff_ne, beq_eq_false_iff_ne, bne_eq_false_iff_eq, Bool.not_eq_true', Bool.not_eq_false', ne_eq, Bool.not_eq_true, Bool.not_eq_false] at h1)
    · exact fin (by unfold mayC; rw [if_neg hf, if_neg (by simp [Thg.is, h1])]) h
    (repeat (first | refine nn ?_ | (refine dr h ?_; clear h; (try clear w); intro w h) | refine ld0_ h rfl rfl ?_ | refine ld1_ h rfl rfl ?_ | refine ld2_ h rfl rfl ?_ | refine ld3_ h rfl rfl ?_ | refine ld4_ h rfl rfl ?_ | refine ld5_ h rfl rfl ?_ | refine ld6_ h rfl rfl ?_ | refine ld7_ h rfl rfl ?_ | refine ld8_ h rfl rfl ?_ | refine ld9_ h rfl rfl ?_ | refine ld10_ h rfl rfl ?_ | refine ld11_ h rfl rfl ?_ | refine la0_ h rfl ?_ | refine la1_ h rfl ?_ | refine la2_ h rfl ?_ | refine la3_ h rfl ?_ | refine la4_ h rfl ?_ | refine la5_ h rfl ?_ | refine la6_ h rfl ?_ | refine la7_ h rfl ?_ | refine la8_ h rfl ?_ | refine la9_ h rfl ?_ | refine la10_ h rfl ?_ | refine la11_ h rfl ?_ | refine ck0_ h rfl ?_ | refine ck1_ h rfl ?_ | refine ck2_ h rfl ?_ | refine ck3_ h rfl ?_ | refine ck4_ h rfl ?_ | refine ck5_ h rfl ?_ | refine ck6_ h rfl ?_ | refine ck7_ h rfl ?_ | refine ck8_ h rfl ?_ | refine ck9_ h rfl ?_ | refine ck10_ h rfl ?_ | refine ck11_ h rfl ?_ | ((first | refine st0_ h rfl rfl ?_ | refine st1_ h rfl rfl ?_ | refine st2_ h rfl rfl ?_ | refine st3_ h rfl rfl ?_ | refine st4_ h rfl rfl ?_ | refine st5_ h rfl rfl ?_ | refine st6_ h rfl rfl ?_ | refine st7_ h rfl rfl ?_ | refine st8_ h rfl rfl ?_ | refine st9_ h rfl rfl ?_ | refine st10_ h rfl rfl ?_ | refine st11_ h rfl rfl ?_); clear h; (try clear w); intro w h; (try dsimp only [putN, setN] at h))))
    have h1 : t.is = true := by simpa using h1
    refine it (fun h2 => ?_) (fun h2 => ?_) <;> (try simp only [decide_eq_true_eq, decide_eq_false_iff_not, beq_iff_eq, bne_iff_ne, beq_eq_false_iff_ne, bne_eq_false_iff_eq, Bool.not_eq_true', Bool.not_eq_false', ne_eq, Bool.not_eq_true, Bool.not_eq_false] at h2)
    · exact fin (by unfold mayC; rw [if_neg hf, if_pos h1, if_neg h2]) h
    · exact hk5 (by unfold mayC; rw [if_neg hf, if_pos h1, if_pos h2]) h
  refine join_of (fun z w => mayC t ver fresh = 0 ∧ St w0 ([Cl b4 T_shelf_thing_api_Config [.string t.1, I t.2.1, I t.2.2.1, I t.2.2.2.1, I t.2.2.2.2.1, I t.2.2.2.2.2.1, I t.2.2.2.2.2.2.1, I t.2.2.2.2.2.2.2.1, .bool t.2.2.2.2.2.2.2.2.1]] :: [Cl b T_shelf_rack_api_Config [.map (some r), .func (.func n_shelf_New_1) #[] #[]]] :: sm :: delN E i) w) (fun k5 hk5 => ?_) (fun z w ⟨hz, h⟩ => fin hz.symm h)
  cases fresh with
  | false => exact itF rfl (itF rfl (c2 (by simp) (fun h1 h => hk5 _ _ ⟨h1, h⟩) h))
  | true =>
    refine itT rfl ?_
    refine it (fun hv => ?_) (fun hv => ?_) <;> (try simp only [decide_eq_true_eq, decide_eq_false_iff_not, beq_iff_eq, bne_iff_ne, beq_eq_false_iff_ne, bne_eq_false_iff_eq, Bool.not_eq_true', Bool.not_eq_false', ne_eq, Bool.not_eq_true, Bool.not_eq_false] at hv)
    · (repeat (first | refine nn ?_ | (refine dr h ?_; clear h; (try clear w); intro w h) | refine ld0_ h rfl rfl ?_ | refine ld1_ h rfl rfl ?_ | refine ld2_ h rfl rfl ?_ | refine ld3_ h rfl rfl ?_ | refine ld4_ h rfl rfl ?_ | refine ld5_ h rfl rfl ?_ | refine ld6_ h rfl rfl ?_ | refine ld7_ h rfl rfl ?_ | refine ld8_ h rfl rfl ?_ | refine ld9_ h rfl rfl ?_ | refine ld10_ h rfl rfl ?_ | refine ld11_ h rfl rfl ?_ | refine la0_ h rfl ?_ | refine la1_ h rfl ?_ | refine la2_ h rfl ?_ | refine la3_ h rfl ?_ | refine la4_ h rfl ?_ | refine la5_ h rfl ?_ | refine la6_ h rfl ?_ | refine la7_ h rfl ?_ | refine la8_ h rfl ?_ | refine la9_ h rfl ?_ | refine la10_ h rfl ?_ | refine la11_ h rfl ?_ | refine ck0_ h rfl ?_ | refine ck1_ h rfl ?_ | refine ck2_ h rfl ?_ | refine ck3_ h rfl ?_ | refine ck4_ h rfl ?_ | refine ck5_ h rfl ?_ | refine ck6_ h rfl ?_ | refine ck7_ h rfl ?_ | refine ck8_ h rfl ?_ | refine ck9_ h rfl ?_ | refine ck10_ h rfl ?_ | refine ck11_ h rfl ?_ | ((first | refine st0_ h rfl rfl ?_ | refine st1_ h rfl rfl ?_ | refine st2_ h rfl rfl ?_ | refine st3_ h rfl rfl ?_ | refine st4_ h rfl rfl ?_ | refine st5_ h rfl rfl ?_ | refine st6_ h rfl rfl ?_ | refine st7_ h rfl rfl ?_ | refine st8_ h rfl rfl ?_ | refine st9_ h rfl rfl ?_ | refine st10_ h rfl rfl ?_ | refine st11_ h rfl rfl ?_); clear h; (try clear w); intro w h; (try dsimp only [putN, setN] at h))))
      refine it (fun h1 => ?_) (fun h1 => ?_) <;> (try simp only [decide_eq_true_eq, decide_eq_false_iff_not, beq_iff_eq, bne_iff_ne, beq_eq_false_iff_ne, bne_eq_false_iff_eq, Bool.not_eq_true', Bool.not_eq_false', ne_eq, Bool.not_eq_true, Bool.not_eq_false] at h1)
      · exact fin (by unfold mayC; rw [if_pos ⟨rfl, hv⟩, if_pos h1]) h
      · refine itT rfl (itT (by simp [hv]) ?_)
        exact fin (by unfold mayC; rw [if_pos ⟨rfl, hv⟩, if_neg (by simp [Thg.is, h1])]) h
    · refine itT rfl (itF (by simp [hv]) ?_)
      exact c2 (fun hh => hv hh.2) (fun h1 h => hk5 _ _ ⟨h1, h⟩) h
end Go.Proofs.Ytpnbgpolbjbhpaa
