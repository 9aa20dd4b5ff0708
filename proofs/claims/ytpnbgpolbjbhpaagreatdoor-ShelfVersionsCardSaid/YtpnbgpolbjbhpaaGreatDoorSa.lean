/- Contracts of functions, and walks of laws (text Sa). No conditions beyond those its theorems state. -/
import Derived.Test.YtpnbgpolbjbhpaaGreatDoorLa
import Derived.Laws.StructEq
set_option linter.all false
namespace Go.Proofs.YtpnbgpolbjbhpaaGreatDoor
open Go.Dm
attribute [local irreducible] L.load L.store L.chk L.new L.nonnil L.guard L.ite L.draw L.idx L.sem L.semR L.semU L.chkSem L.next L.call L.callV L.join L.alts L.loop L.begin L.endRound L.range
variable {w0 w : World} {E : List Seg}
/-! ### configurations, as such -/
theorem und_str : Pr.underlying T_string = some .string := by kernel_rfl
theorem S_has (h : St w0 E w) {a b n : Int} {k : Bool → PT} (hk : ∀ w', St w0 E w' → k (decide (a ≤ n ∧ n ≤ b)) w') : L.call Pr n_spec_span_has [.agg #[I a, I b], I n] (.one (.one .bool)) k w := by
  refine call_of (C_spec_span_has (a, b, ()) n) ?_
  unfold F_spec_span_has
  refine nw h ?_; clear h; (try clear w); intro b1 w h
  ((try dsimp only [setN] at h); repeat (first | refine nn ?_ | (refine dr h ?_; clear h; (try clear w); intro w h) | refine ldC h ?_ | refine laC h ?_ | refine ckC h ?_ | (refine stC h ?_; clear h; (try clear w); intro w h; (try dsimp only [putN, setN] at h))))
  refine it (fun h1 => ?_) (fun h1 => ?_) <;> (try simp only [decide_eq_true_eq, decide_eq_false_iff_not, beq_iff_eq, bne_iff_ne, beq_eq_false_iff_ne, bne_eq_false_iff_eq, Bool.not_eq_true', Bool.not_eq_false', ne_eq, Bool.not_eq_true, Bool.not_eq_false] at h1)
  · ((try dsimp only [setN] at h); repeat (first | refine nn ?_ | (refine dr h ?_; clear h; (try clear w); intro w h) | refine ldC h ?_ | refine laC h ?_ | refine ckC h ?_ | (refine stC h ?_; clear h; (try clear w); intro w h; (try dsimp only [putN, setN] at h))))
    refine ⟨_, rfl, ?_⟩
    have := hk w (dl0_ h)
    have e : decide (a ≤ n ∧ n ≤ b) = decide (n ≤ b) := decide_eq_decide.2 ⟨fun h => h.2, fun h => ⟨by omega, h⟩⟩
    rw [e] at this; exact this
  · refine ⟨_, rfl, ?_⟩
    have := hk w (dl0_ h)
    rw [decide_eq_false (fun h => h1 (by omega))] at this; exact this
/-- name, image, conc, min, max, grace -/
abbrev Cfg := HT [.str, .int .i64, .int .i64, .int .i64, .int .i64, .int .i64]
abbrev Cfg.cells (c : Cfg) : List Value := [.string c.1, I c.2.1, I c.2.2.1, I c.2.2.2.1, I c.2.2.2.2.1, I c.2.2.2.2.2.1]
def cfgNum (c : Cfg) : Bool := decide (0 ≤ c.2.1 ∧ c.2.1 ≤ 255) && (decide (1 ≤ c.2.2.1 ∧ c.2.2.1 ≤ 8) && (decide (1 ≤ c.2.2.2.2.1 ∧ c.2.2.2.2.1 ≤ 10) && (decide (0 ≤ c.2.2.2.1 ∧ c.2.2.2.1 ≤ c.2.2.2.2.1) && decide (0 ≤ c.2.2.2.2.2.1 ∧ c.2.2.2.2.2.1 ≤ 30))))
def specC (c : Cfg) : Int := if shortB c.1.data.toList 16 = true then (if cfgNum c = true then 0 else 2) else 1
theorem S_specC (h : St w0 E w) {c : Cfg} {k : Int → PT} (hk : ∀ w', St w0 E w' → k (specC c) w') : L.call Pr n_spec_Config [.agg (Cfg.cells c).toArray] (.one (.one (.int .i64))) k w := by
  obtain ⟨nm, im, co, mi, ma, gr, ⟨⟩⟩ := c
  refine call_of (C_spec_Config (nm, im, co, mi, ma, gr, ())) ?_
  unfold F_spec_Config
  refine nw h ?_; clear h; (try clear w); intro b1 w h
  ((try dsimp only [setN] at h); repeat (first | refine nn ?_ | (refine dr h ?_; clear h; (try clear w); intro w h) | refine ldC h ?_ | refine laC h ?_ | refine ckC h ?_ | (refine stC h ?_; clear h; (try clear w); intro w h; (try dsimp only [putN, setN] at h))))
  refine S_Name h und_str fun w h => ?_
  refine it (fun hn => ?_) (fun hn => ?_) <;> (try simp only [decide_eq_true_eq, decide_eq_false_iff_not, beq_iff_eq, bne_iff_ne, beq_eq_false_iff_ne, bne_eq_false_iff_eq, Bool.not_eq_true', Bool.not_eq_false', ne_eq, Bool.not_eq_true, Bool.not_eq_false] at hn)
  · refine ⟨_, rfl, ?_⟩
    have := hk w (dl0_ h)
    have e : specC (nm, im, co, mi, ma, gr, ()) = 1 := if_neg (by simp [hn])
    rw [e] at this; exact this
  refine join_of (fun z w => z = (!cfgNum (nm, im, co, mi, ma, gr, ()), ()) ∧ St w0 ([Cl b1 T_api_Config (Cfg.cells (nm, im, co, mi, ma, gr, ()))] :: E) w) (fun k4 hk4 => ?_) (fun z w ⟨hz, h⟩ => ?_)
  · ((try dsimp only [setN] at h); repeat (first | refine nn ?_ | (refine dr h ?_; clear h; (try clear w); intro w h) | refine ldC h ?_ | refine laC h ?_ | refine ckC h ?_ | (refine stC h ?_; clear h; (try clear w); intro w h; (try dsimp only [putN, setN] at h))))
    refine S_has h fun w h => ?_
    refine it (fun h1 => hk4 _ w ⟨by unfold cfgNum; simp only [Bool.not_eq_true'] at h1; simp only [h1, Bool.false_and], h⟩) (fun h1 => ?_)
    simp only [Bool.not_eq_false'] at h1
    ((try dsimp only [setN] at h); repeat (first | refine nn ?_ | (refine dr h ?_; clear h; (try clear w); intro w h) | refine ldC h ?_ | refine laC h ?_ | refine ckC h ?_ | (refine stC h ?_; clear h; (try clear w); intro w h; (try dsimp only [putN, setN] at h))))
    refine S_has h fun w h => ?_
    refine it (fun h2 => hk4 _ w ⟨by unfold cfgNum; simp only [Bool.not_eq_true'] at h2; simp only [h1, h2, Bool.false_and, Bool.and_false], h⟩) (fun h2 => ?_)
    simp only [Bool.not_eq_false'] at h2
    ((try dsimp only [setN] at h); repeat (first | refine nn ?_ | (refine dr h ?_; clear h; (try clear w); intro w h) | refine ldC h ?_ | refine laC h ?_ | refine ckC h ?_ | (refine stC h ?_; clear h; (try clear w); intro w h; (try dsimp only [putN, setN] at h))))
    refine S_has h fun w h => ?_
    refine it (fun h3 => hk4 _ w ⟨by unfold cfgNum; simp only [Bool.not_eq_true'] at h3; simp only [h1, h2, h3, Bool.false_and, Bool.and_false], h⟩) (fun h3 => ?_)
    simp only [Bool.not_eq_false'] at h3
    ((try dsimp only [setN] at h); repeat (first | refine nn ?_ | (refine dr h ?_; clear h; (try clear w); intro w h) | refine ldC h ?_ | refine laC h ?_ | refine ckC h ?_ | (refine stC h ?_; clear h; (try clear w); intro w h; (try dsimp only [putN, setN] at h))))
    refine S_has h fun w h => ?_
    refine it (fun h4 => hk4 _ w ⟨by unfold cfgNum; simp only [Bool.not_eq_true'] at h4; simp only [h1, h2, h3, h4, Bool.false_and, Bool.and_false], h⟩) (fun h4 => ?_)
    simp only [Bool.not_eq_false'] at h4
    ((try dsimp only [setN] at h); repeat (first | refine nn ?_ | (refine dr h ?_; clear h; (try clear w); intro w h) | refine ldC h ?_ | refine laC h ?_ | refine ckC h ?_ | (refine stC h ?_; clear h; (try clear w); intro w h; (try dsimp only [putN, setN] at h))))
    refine S_has h fun w h => ?_
    exact hk4 _ w ⟨by unfold cfgNum; simp only [h1, h2, h3, h4, Bool.true_and], h⟩
  · subst hz
    dsimp only
    have hn : shortB nm.data.toList 16 = true := by simpa using hn
    refine it (fun hc => ?_) (fun hc => ?_) <;> (try simp only [decide_eq_true_eq, decide_eq_false_iff_not, beq_iff_eq, bne_iff_ne, beq_eq_false_iff_ne, bne_eq_false_iff_eq, Bool.not_eq_true', Bool.not_eq_false', ne_eq, Bool.not_eq_true, Bool.not_eq_false] at hc)
    · refine ⟨_, rfl, ?_⟩
      have := hk w (dl0_ h)
      have e : specC (nm, im, co, mi, ma, gr, ()) = 2 := by unfold specC; rw [if_pos hn, if_neg (by simp [hc])]
      rw [e] at this; exact this
    · refine ⟨_, rfl, ?_⟩
      have := hk w (dl0_ h)
      have e : specC (nm, im, co, mi, ma, gr, ()) = 0 := by unfold specC; rw [if_pos hn, if_pos (by simpa using hc)]
      rw [e] at this; exact this
end Go.Proofs.YtpnbgpolbjbhpaaGreatDoor
namespace Go.Proofs.YtpnbgpolbjbhpaaGreatDoor
open Go.Dm
attribute [local irreducible] L.load L.store L.chk L.new L.nonnil L.guard L.ite L.draw L.idx L.sem L.semR L.semU L.chkSem L.next L.call L.callV L.join L.alts L.loop L.begin L.endRound L.range
variable {w0 w : World} {E : List Seg}
/-! ### racks of configurations -/
/-- the six of a configuration, version, generation, there -/
abbrev Thg := HT [.str, .int .i64, .int .i64, .int .i64, .int .i64, .int .i64, .int .i64, .int .i64, .bool]
abbrev eThg : E1 := .agg [.str, .int .i64, .int .i64, .int .i64, .int .i64, .int .i64, .int .i64, .int .i64, .bool]
def vThg (t : Thg) : Value := eThg.val t
def noThg : Thg := (s_, 0, 0, 0, 0, 0, 0, 0, false, ())
abbrev Thg.ver (t : Thg) : Int := t.2.2.2.2.2.2.1
abbrev Thg.gen (t : Thg) : Int := t.2.2.2.2.2.2.2.1
abbrev Thg.is (t : Thg) : Bool := t.2.2.2.2.2.2.2.2.1
def thgOf (c : Cfg) (ver gen : Int) (is : Bool) : Thg := (c.1, c.2.1, c.2.2.1, c.2.2.2.1, c.2.2.2.2.1, c.2.2.2.2.2.1, ver, gen, is, ())
theorem und_rack : Pr.underlying T_map_string_shelf_thing_api_Config = some (.map T_string T_shelf_thing_api_Config) := by kernel_rfl
theorem mkS : MK Pr T_string Value.string := mk_str und_str
theorem zthg (w : World) : (zeroValue T_shelf_thing_api_Config).run Pr w = .ok (eThg.val noThg) w := by
  have h : (Pr.info? T_shelf_thing_api_Config).map (·.zero) = some (some (.agg #[.string s_, I 0, I 0, I 0, I 0, I 0, I 0, I 0, .bool false])) := by kernel_rfl
  cases hi : Pr.info? T_shelf_thing_api_Config with
  | none => rw [hi] at h; cases h
  | some i => rw [hi] at h; simp only [Option.map_some, Option.some.injEq] at h; exact zv hi h w
def tget (m : List (ByteArray × Thg)) (n : ByteArray) : Thg := (mget m n).getD noThg
def RackS (b : Nat) (m : List (ByteArray × Thg)) (s : Seg) : Prop := ∃ r sm, MpS Value.string vThg r m sm ∧ s = [Cl b T_shelf_rack_api_Config [.map (some r), .func (.func n_shelf_New_1) #[] #[]]] ++ sm
theorem tlook {r : Nat} {m : List (ByteArray × Thg)} {s : Seg} (h : St w0 E w) (i : Nat) (hi : nth E i = some s) (hm : MpS Value.string vThg r m s) {n : ByteArray} {kk : eThg.T → PT} (hk : kk (tget m n) w) :
    L.semR Pr (.one eThg) (Instr.lookup T_map_string_shelf_thing_api_Config (.map (some r)) (.string n) false) kk w := by
  refine MpS.get mkS und_rack zthg (fun t : Thg => t) (fun _ => rfl) h i hi hm ?_
  have : ((mget m n).map fun t : Thg => t).getD noThg = tget m n := by unfold tget; cases mget m n <;> rfl
  rw [this]; exact hk
theorem S_madeC (h : St w0 E w) {k : Option Addr → PT} (hk : ∀ b s w', RackS b [] s → St w0 (s :: E) w' → k (some ⟨b, 0, none⟩) w') :
    L.call Pr n_shelf_made_api_Config [.func (.func n_shelf_New_1) #[] #[]] (.one (.one .ptr)) k w := by
  refine call_of (C_shelf_made_api_Config ⟨.func n_shelf_New_1, #[], #[]⟩) ?_
  unfold F_shelf_made_api_Config
  refine MpS.new h Value.string vThg fun r s w hm h => ?_
  refine nw h ?_; clear h; (try clear w); intro b w h
  exact ⟨_, rfl, hk b _ w ⟨r, s, hm, rfl⟩ h.glue⟩
def mayC (t : Thg) (ver : Int) (fresh : Bool) : Int :=
  if fresh = true ∧ ver = 0 then (if t.is = true then 5 else 0) else if t.is = true then (if t.ver = ver then 0 else 7) else 6
theorem S_mayC (h : St w0 E w) (i : Nat) {b : Nat} {m : List (ByteArray × Thg)} {s : Seg} (hi : nth E i = some s) (hs : RackS b m s) {n : ByteArray} {ver : Int} {fresh : Bool} {k : Int → PT} (hk : ∀ w', St w0 E w' → k (mayC (tget m n) ver fresh) w') :
    L.call Pr n_shelf_rack_api_Config_may [.pointer (some ⟨b, 0, none⟩), .string n, I ver, .bool fresh] (.one (.one (.int .i64))) k w := by
  obtain ⟨r, sm, hm, rfl⟩ := hs
  refine call_of (C_shelf_rack_api_Config_may _ _ _ _) ?_
  unfold F_shelf_rack_api_Config_may
  have h := (h.front i hi).split
  ((try dsimp only [setN] at h); repeat (first | refine nn ?_ | (refine dr h ?_; clear h; (try clear w); intro w h) | refine ldC h ?_ | refine laC h ?_ | refine ckC h ?_ | (refine stC h ?_; clear h; (try clear w); intro w h; (try dsimp only [putN, setN] at h))))
  refine tlook h 1 rfl hm ?_
  generalize tget m n = t at hk
  refine nw h ?_; clear h; (try clear w); intro b4 w h
  ((try dsimp only [setN] at h); repeat (first | refine nn ?_ | (refine dr h ?_; clear h; (try clear w); intro w h) | refine ldC h ?_ | refine laC h ?_ | refine ckC h ?_ | (refine stC h ?_; clear h; (try clear w); intro w h; (try dsimp only [putN, setN] at h))))
  have fin : ∀ {e : Int} {w : World}, e = mayC t ver fresh → St w0 ([Cl b4 T_shelf_thing_api_Config [.string t.1, I t.2.1, I t.2.2.1, I t.2.2.2.1, I t.2.2.2.2.1, I t.2.2.2.2.2.1, I t.2.2.2.2.2.2.1, I t.2.2.2.2.2.2.2.1, .bool t.2.2.2.2.2.2.2.2.1]] :: [Cl b T_shelf_rack_api_Config [.map (some r), .func (.func n_shelf_New_1) #[] #[]]] :: sm :: delN E i) w →
      ∃ x, I e = RT.val (.one (.one (.int .i64))) x ∧ k x w := by
    rintro e w rfl h
    exact ⟨_, rfl, hk w (St.setN_same' i hi (St.back i hi (dl0_ h).glue))⟩
  have c2 : ∀ {k5 : Unit → PT} {w : World}, ¬ (fresh = true ∧ ver = 0) → (∀ {w}, mayC t ver fresh = 0 → St w0 ([Cl b4 T_shelf_thing_api_Config [.string t.1, I t.2.1, I t.2.2.1, I t.2.2.2.1, I t.2.2.2.2.1, I t.2.2.2.2.2.1, I t.2.2.2.2.2.2.1, I t.2.2.2.2.2.2.2.1, .bool t.2.2.2.2.2.2.2.2.1]] :: [Cl b T_shelf_rack_api_Config [.map (some r), .func (.func n_shelf_New_1) #[] #[]]] :: sm :: delN E i) w → k5 () w) →
      St w0 ([Cl b4 T_shelf_thing_api_Config [.string t.1, I t.2.1, I t.2.2.1, I t.2.2.2.1, I t.2.2.2.2.1, I t.2.2.2.2.2.1, I t.2.2.2.2.2.2.1, I t.2.2.2.2.2.2.2.1, .bool t.2.2.2.2.2.2.2.2.1]] :: [Cl b T_shelf_rack_api_Config [.map (some r), .func (.func n_shelf_New_1) #[] #[]]] :: sm :: delN E i) w →
      L.load (.one (.bool)) ((⟨b4, 0, none⟩ : Addr).add 8) (fun (x18 : Bool) =>
      L.ite (!x18) (
        fun w => ∃ x, Value.int .i64 6 = RT.val (.one (.one (.int .i64))) x ∧ k x w) <|
      L.load (.one (.int .i64)) ((⟨b4, 0, none⟩ : Addr).add 6) fun (x19 : Int) =>
      L.ite (x19 != ver) (
        fun w => ∃ x, Value.int .i64 7 = RT.val (.one (.one (.int .i64))) x ∧ k x w) <|
      k5 (())) w := by
    intro k5 w hf hk5 h
    ((try dsimp only [setN] at h); repeat (first | refine nn ?_ | (refine dr h ?_; clear h; (try clear w); intro w h) | refine ldC h ?_ | refine laC h ?_ | refine ckC h ?_ | (refine stC h ?_; clear h; (try clear w); intro w h; (try dsimp only [putN, setN] at h))))
    refine it (fun h1 => ?_) (fun h1 => ?_) <;> (try simp only [decide_eq_true_eq, decide_eq_false_iff_not, beq_iff_eq, bne_iff_ne, beq_eq_false_iff_ne, bne_eq_false_iff_eq, Bool.not_eq_true', Bool.not_eq_false', ne_eq, Bool.not_eq_true, Bool.not_eq_false] at h1)
    · exact fin (by unfold mayC; rw [if_neg hf, if_neg (by simp [Thg.is, h1])]) h
    ((try dsimp only [setN] at h); repeat (first | refine nn ?_ | (refine dr h ?_; clear h; (try clear w); intro w h) | refine ldC h ?_ | refine laC h ?_ | refine ckC h ?_ | (refine stC h ?_; clear h; (try clear w); intro w h; (try dsimp only [putN, setN] at h))))
    have h1 : t.is = true := by simpa using h1
    refine it (fun h2 => ?_) (fun h2 => ?_) <;> (try simp only [decide_eq_true_eq, decide_eq_false_iff_not, beq_iff_eq, bne_iff_ne, beq_eq_false_iff_ne, bne_eq_false_iff_eq, Bool.not_eq_true', Bool.not_eq_false', ne_eq, Bool.not_eq_true, Bool.not_eq_false] at h2)
    · exact fin (by unfold mayC; rw [if_neg hf, if_pos h1, if_neg h2]) h
    · exact hk5 (by unfold mayC; rw [if_neg hf, if_pos h1, if_pos h2]) h
  refine join_of (fun z w => mayC t ver fresh = 0 ∧ St w0 ([Cl b4 T_shelf_thing_api_Config [.string t.1, I t.2.1, I t.2.2.1, I t.2.2.2.1, I t.2.2.2.2.1, I t.2.2.2.2.2.1, I t.2.2.2.2.2.2.1, I t.2.2.2.2.2.2.2.1, .bool t.2.2.2.2.2.2.2.2.1]] :: [Cl b T_shelf_rack_api_Config [.map (some r), .func (.func n_shelf_New_1) #[] #[]]] :: sm :: delN E i) w) (fun k5 hk5 => ?_) (fun z w ⟨hz, h⟩ => fin hz.symm h)
  cases fresh with
  | false => exact itF rfl (itF rfl (c2 (by simp) (fun h1 h => hk5 _ _ ⟨h1, h⟩) h))
  | true =>
    refine itT rfl ?_
    refine it (fun hv => ?_) (fun hv => ?_) <;> (try simp only [decide_eq_true_eq, decide_eq_false_iff_not, beq_iff_eq, bne_iff_ne, beq_eq_false_iff_ne, bne_eq_false_iff_eq, Bool.not_eq_true', Bool.not_eq_false', ne_eq, Bool.not_eq_true, Bool.not_eq_false] at hv)
    · ((try dsimp only [setN] at h); repeat (first | refine nn ?_ | (refine dr h ?_; clear h; (try clear w); intro w h) | refine ldC h ?_ | refine laC h ?_ | refine ckC h ?_ | (refine stC h ?_; clear h; (try clear w); intro w h; (try dsimp only [putN, setN] at h))))
      refine it (fun h1 => ?_) (fun h1 => ?_) <;> (try simp only [decide_eq_true_eq, decide_eq_false_iff_not, beq_iff_eq, bne_iff_ne, beq_eq_false_iff_ne, bne_eq_false_iff_eq, Bool.not_eq_true', Bool.not_eq_false', ne_eq, Bool.not_eq_true, Bool.not_eq_false] at h1)
      · exact fin (by unfold mayC; rw [if_pos ⟨rfl, hv⟩, if_pos h1]) h
      · refine itT rfl (itT (by simp [hv]) ?_)
        exact fin (by unfold mayC; rw [if_pos ⟨rfl, hv⟩, if_neg (by simp [Thg.is, h1])]) h
    · refine itT rfl (itF (by simp [hv]) ?_)
      exact c2 (fun hh => hv hh.2) (fun h1 h => hk5 _ _ ⟨h1, h⟩) h
end Go.Proofs.YtpnbgpolbjbhpaaGreatDoor
namespace Go.Proofs.YtpnbgpolbjbhpaaGreatDoor
open Go.Dm
attribute [local irreducible] L.load L.store L.chk L.new L.nonnil L.guard L.ite L.draw L.idx L.sem L.semR L.semU L.chkSem L.next L.call L.callV L.join L.alts L.loop L.begin L.endRound L.range
variable {w0 w : World} {E : List Seg}
theorem S_getC (h : St w0 E w) (i : Nat) {b : Nat} {m : List (ByteArray × Thg)} {s : Seg} (hi : nth E i = some s) (hs : RackS b m s) {n : ByteArray} {k : eThg.T × Bool × Unit → PT} (hk : ∀ w', St w0 E w' → k (tget m n, (tget m n).is, ()) w') :
    L.call Pr n_shelf_rack_api_Config_get [.pointer (some ⟨b, 0, none⟩), .string n] (.tup [eThg, .one .bool]) k w := by
  obtain ⟨r, sm, hm, rfl⟩ := hs
  refine call_of (C_shelf_rack_api_Config_get _ _) ?_
  unfold F_shelf_rack_api_Config_get
  have h := (h.front i hi).split
  refine nw h ?_; clear h; (try clear w); intro b1 w h
  ((try dsimp only [setN] at h); repeat (first | refine nn ?_ | (refine dr h ?_; clear h; (try clear w); intro w h) | refine ldC h ?_ | refine laC h ?_ | refine ckC h ?_ | (refine stC h ?_; clear h; (try clear w); intro w h; (try dsimp only [putN, setN] at h))))
  refine tlook h 2 rfl hm ?_
  generalize tget m n = t at hk
  refine nw h ?_; clear h; (try clear w); intro b5 w h
  ((try dsimp only [setN] at h); repeat (first | refine nn ?_ | (refine dr h ?_; clear h; (try clear w); intro w h) | refine ldC h ?_ | refine laC h ?_ | refine ckC h ?_ | (refine stC h ?_; clear h; (try clear w); intro w h; (try dsimp only [putN, setN] at h))))
  exact ⟨(t, t.is, ()), rfl, hk w (St.setN_same' i hi (St.back i hi (dl0_ (dl0_ h)).glue))⟩
theorem S_dropC (h : St w0 E w) (i : Nat) {b : Nat} {m : List (ByteArray × Thg)} {s : Seg} (hi : nth E i = some s) (hs : RackS b m s) {n : ByteArray} {k : Unit → PT}
    (hk : ∀ s' w', RackS b (mset m n (s_, 0, 0, 0, 0, 0, 0, (tget m n).gen, false, ())) s' → St w0 (setN E i s') w' → k () w') :
    L.call Pr n_shelf_rack_api_Config_drop [.pointer (some ⟨b, 0, none⟩), .string n] (.tup []) k w := by
  obtain ⟨r, sm, hm, rfl⟩ := hs
  refine call_of (C_shelf_rack_api_Config_drop _ _) ?_
  unfold F_shelf_rack_api_Config_drop
  have h := (h.front i hi).split
  ((try dsimp only [setN] at h); repeat (first | refine nn ?_ | (refine dr h ?_; clear h; (try clear w); intro w h) | refine ldC h ?_ | refine laC h ?_ | refine ckC h ?_ | (refine stC h ?_; clear h; (try clear w); intro w h; (try dsimp only [putN, setN] at h))))
  refine tlook h 1 rfl hm ?_
  refine MpS.set mkS und_rack h 1 rfl hm (s_, 0, 0, 0, 0, 0, 0, (tget m n).gen, false, ()) rfl fun sm' w hm' h => ?_
  exact ⟨(), rfl, hk _ w ⟨r, sm', hm', rfl⟩ (St.back i hi h.glue)⟩
def sameC (a b : Cfg) : Bool := (a.1 == b.1) && ((a.2.1 == b.2.1) && ((a.2.2.1 == b.2.2.1) && ((a.2.2.2.1 == b.2.2.2.1) && ((a.2.2.2.2.1 == b.2.2.2.2.1) && ((a.2.2.2.2.2.1 == b.2.2.2.2.2.1) && true)))))
theorem eqin_cfg (a b : Cfg) (w : World) : (Op.equalIn 10000 T_api_Config (.agg (Cfg.cells a).toArray) (.agg (Cfg.cells b).toArray)).run Pr w = .ok (sameC a b) w := by
  have hS : Pr.underlying T_api_Config = some (.struct (Pr.fieldsOf T_api_Config)) := by kernel_rfl
  have hp : Pr.stoodInHeld T_api_Config = false := by kernel_rfl
  obtain ⟨a1, a2, a3, a4, a5, a6, ⟨⟩⟩ := a
  obtain ⟨b1, b2, b3, b4, b5, b6, ⟨⟩⟩ := b
  rw [show (10000 : Nat) = 9999 + 1 from rfl, run_equalIn_agg w 9999 T_api_Config _ _ hS hp]
  have u3 := Tryz.underlying3
  have i3 := Tryz.isAgg3
  have z3 := Tryz.sizeOf3
  have u9 := Tryz.underlying9
  have i9 := Tryz.isAgg9
  have z9 := Tryz.sizeOf9
  simp only [Program.fieldsOf, Tryz.underlying47]
  go_simp
  have e : (ByteArray.toList a1 = ByteArray.toList b1) ↔ (@BEq.beq ByteArray _ a1 b1) = true := by rw [beq_toListBytes]; simp
  unfold sameC
  by_cases h1 : (@BEq.beq ByteArray _ a1 b1) = true
  · rw [if_pos (e.2 h1)]
    simp only [show (a1 == b1) = true from h1, Bool.true_and]
    by_cases h2 : @Eq Int a2 b2
    · by_cases h3 : @Eq Int a3 b3
      · by_cases h4 : @Eq Int a4 b4
        · by_cases h5 : @Eq Int a5 b5
          · by_cases h6 : @Eq Int a6 b6
            · cases h2; cases h3; cases h4; cases h5; cases h6; simp
            · cases h2; cases h3; cases h4; cases h5; simp [h6]
          · cases h2; cases h3; cases h4; simp [h5]
        · cases h2; cases h3; simp [h4]
      · cases h2; simp [h3]
    · simp [h2]
  · rw [if_neg (fun h => h1 (e.1 h))]
    have : (a1 == b1) = false := by simpa using h1
    simp [this]
theorem eq_cfg (a b : Cfg) (w : World) : (do eqGuard .eql T_api_Config (.tmp 0) (.tmp 0) (.agg (Cfg.cells a).toArray) (.agg (Cfg.cells b).toArray); binOp .eql T_api_Config (.agg (Cfg.cells a).toArray) (.agg (Cfg.cells b).toArray) : Sem Value).run Pr w = .ok (.bool (sameC a b)) w :=
  eqS_of (by kernel_rfl) (eqin_cfg a b w)
theorem ne_cfg (a b : Cfg) (w : World) : (do eqGuard .neq T_api_Config (.tmp 0) (.tmp 0) (.agg (Cfg.cells a).toArray) (.agg (Cfg.cells b).toArray); binOp .neq T_api_Config (.agg (Cfg.cells a).toArray) (.agg (Cfg.cells b).toArray) : Sem Value).run Pr w = .ok (.bool (!sameC a b)) w :=
  neS_of (by kernel_rfl) (eqin_cfg a b w)
theorem sameC_iff (a b : Cfg) : sameC a b = true ↔ a = b := by
  obtain ⟨a1, a2, a3, a4, a5, a6, ⟨⟩⟩ := a
  obtain ⟨b1, b2, b3, b4, b5, b6, ⟨⟩⟩ := b
  have e : (@BEq.beq ByteArray _ a1 b1) = true ↔ a1 = b1 := ba_iff
  unfold sameC
  simp [Prod.ext_iff]
  intros; exact e
theorem sameC_self (a : Cfg) : sameC a a = true := (sameC_iff a a).2 rfl
end Go.Proofs.YtpnbgpolbjbhpaaGreatDoor
namespace Go.Proofs.YtpnbgpolbjbhpaaGreatDoor
open Go.Dm
attribute [local irreducible] L.load L.store L.chk L.new L.nonnil L.guard L.ite L.draw L.idx L.sem L.semR L.semU L.chkSem L.next L.call L.callV L.join L.alts L.loop L.begin L.endRound L.range
variable {w0 w : World} {E : List Seg}
theorem S_sameV (h : St w0 E w) {a b : Cfg} {k : Bool → PT} (hk : ∀ w', St w0 E w' → k (sameC a b) w') :
    L.callV Pr (.func (.func n_shelf_New_1) #[] #[]) [.agg (Cfg.cells a).toArray, .agg (Cfg.cells b).toArray] (.one (.one .bool)) k w := by
  refine callV_of (fs := #[]) (cs := #[]) E_shelf_New_1 (C_shelf_New_1 a b) ?_
  unfold F_shelf_New_1
  refine nw h ?_; clear h; (try clear w); intro b1 w h
  refine nw h ?_; clear h; (try clear w); intro b2 w h
  ((try dsimp only [setN] at h); repeat (first | refine nn ?_ | (refine dr h ?_; clear h; (try clear w); intro w h) | refine ldC h ?_ | refine laC h ?_ | refine ckC h ?_ | (refine stC h ?_; clear h; (try clear w); intro w h; (try dsimp only [putN, setN] at h))))
  unfold L.chkSem
  refine ⟨eq_cfg a b w, _, rfl, ?_⟩
  exact hk w (dl0_ (dl0_ h))
def cfgOf (t : Thg) : Cfg := (t.1, t.2.1, t.2.2.1, t.2.2.2.1, t.2.2.2.2.1, t.2.2.2.2.2.1, ())
def putC (m : List (ByteArray × Thg)) (n : ByteArray) (c : Cfg) (ver : Int) : List (ByteArray × Thg) :=
  mset m n (thgOf c ver (if (tget m n).is = true ∧ sameC (cfgOf (tget m n)) c = true then (tget m n).gen else (tget m n).gen + 1) true)
theorem S_putC (h : St w0 E w) (i : Nat) {b : Nat} {m : List (ByteArray × Thg)} {s : Seg} (hi : nth E i = some s) (hs : RackS b m s) {n : ByteArray} {c : Cfg} {ver : Int} (hg : 0 ≤ (tget m n).gen ∧ (tget m n).gen < 4611686018427387904) {k : Unit → PT}
    (hk : ∀ s' w', RackS b (putC m n c ver) s' → St w0 (setN E i s') w' → k () w') :
    L.call Pr n_shelf_rack_api_Config_put [.pointer (some ⟨b, 0, none⟩), .string n, .agg (Cfg.cells c).toArray, I ver] (.tup []) k w := by
  obtain ⟨r, sm, hm, rfl⟩ := hs
  refine call_of (C_shelf_rack_api_Config_put _ _ c _) ?_
  unfold F_shelf_rack_api_Config_put
  unfold putC at hk
  have h := (h.front i hi).split
  refine nw h ?_; clear h; (try clear w); intro b1 w h
  ((try dsimp only [setN] at h); repeat (first | refine nn ?_ | (refine dr h ?_; clear h; (try clear w); intro w h) | refine ldC h ?_ | refine laC h ?_ | refine ckC h ?_ | (refine stC h ?_; clear h; (try clear w); intro w h; (try dsimp only [putN, setN] at h))))
  refine tlook h 2 rfl hm ?_
  generalize tget m n = t at hk hg
  refine nw h ?_; clear h; (try clear w); intro b5 w h
  ((try dsimp only [setN] at h); repeat (first | refine nn ?_ | (refine dr h ?_; clear h; (try clear w); intro w h) | refine ldC h ?_ | refine laC h ?_ | refine ckC h ?_ | (refine stC h ?_; clear h; (try clear w); intro w h; (try dsimp only [putN, setN] at h))))
  let cells : Int → List Value := fun g => [.string t.1, I t.2.1, I t.2.2.1, I t.2.2.2.1, I t.2.2.2.2.1, I t.2.2.2.2.2.1, I t.2.2.2.2.2.2.1, I g, .bool t.2.2.2.2.2.2.2.2.1]
  have hw : IntKind.wrap .i64 (t.gen + 1) = t.gen + 1 := wr (by omega) (by omega)
  refine join_of (fun z w => St w0 ([Cl b5 T_shelf_thing_api_Config (cells (if t.is = true ∧ sameC (cfgOf t) c = true then t.gen else t.gen + 1))] :: [Cl b1 T_api_Config (Cfg.cells c)] :: [Cl b T_shelf_rack_api_Config [.map (some r), .func (.func n_shelf_New_1) #[] #[]]] :: sm :: delN E i) w) (fun k6 hk6 => ?_) (fun z w h => ?_)
  · have h : St w0 ([Cl b5 T_shelf_thing_api_Config (cells t.gen)] :: [Cl b1 T_api_Config (Cfg.cells c)] :: [Cl b T_shelf_rack_api_Config [.map (some r), .func (.func n_shelf_New_1) #[] #[]]] :: sm :: delN E i) w := h
    dsimp only [cells] at h hk6
    have more : ∀ {w}, ¬ (t.is = true ∧ sameC (cfgOf t) c = true) → St w0 ([Cl b5 T_shelf_thing_api_Config [.string t.1, I t.2.1, I t.2.2.1, I t.2.2.2.1, I t.2.2.2.2.1, I t.2.2.2.2.2.1, I t.2.2.2.2.2.2.1, I t.gen, .bool t.2.2.2.2.2.2.2.2.1]] :: [Cl b1 T_api_Config (Cfg.cells c)] :: [Cl b T_shelf_rack_api_Config [.map (some r), .func (.func n_shelf_New_1) #[] #[]]] :: sm :: delN E i) w →
        L.load (.one (.int .i64)) ((⟨b5, 0, none⟩ : Addr).add 7) (fun (x9 : Int) =>
          L.store ((⟨b5, 0, none⟩ : Addr).add 7) [.int .i64 (IntKind.wrap .i64 (x9 + 1))] <| k6 (())) w := by
      intro w hn h
      ((try dsimp only [setN] at h); repeat (first | refine nn ?_ | (refine dr h ?_; clear h; (try clear w); intro w h) | refine ldC h ?_ | refine laC h ?_ | refine ckC h ?_ | (refine stC h ?_; clear h; (try clear w); intro w h; (try dsimp only [putN, setN] at h))))
      rw [hw] at h
      refine hk6 _ w ?_
      rw [if_neg hn]; exact h
    ((try dsimp only [setN] at h); repeat (first | refine nn ?_ | (refine dr h ?_; clear h; (try clear w); intro w h) | refine ldC h ?_ | refine laC h ?_ | refine ckC h ?_ | (refine stC h ?_; clear h; (try clear w); intro w h; (try dsimp only [putN, setN] at h))))
    refine it (fun h1 => ?_) (fun h1 => ?_) <;> (try simp only [decide_eq_true_eq, decide_eq_false_iff_not, beq_iff_eq, bne_iff_ne, beq_eq_false_iff_ne, bne_eq_false_iff_eq, Bool.not_eq_true', Bool.not_eq_false', ne_eq, Bool.not_eq_true, Bool.not_eq_false] at h1)
    · exact more (fun hh => by have := hh.1; simp only [Thg.is] at this; rw [h1] at this; cases this) h
    · have h1 : t.is = true := by simpa using h1
      ((try dsimp only [setN] at h); repeat (first | refine nn ?_ | (refine dr h ?_; clear h; (try clear w); intro w h) | refine ldC h ?_ | refine laC h ?_ | refine ckC h ?_ | (refine stC h ?_; clear h; (try clear w); intro w h; (try dsimp only [putN, setN] at h))))
      refine S_sameV (a := cfgOf t) (b := c) h fun w h => ?_
      refine it (fun h2 => ?_) (fun h2 => ?_) <;> (try simp only [decide_eq_true_eq, decide_eq_false_iff_not, beq_iff_eq, bne_iff_ne, beq_eq_false_iff_ne, bne_eq_false_iff_eq, Bool.not_eq_true', Bool.not_eq_false', ne_eq, Bool.not_eq_true, Bool.not_eq_false] at h2)
      · exact more (fun hh => by rw [hh.2] at h2; cases h2) h
      · have h2 : sameC (cfgOf t) c = true := by simpa using h2
        refine hk6 _ w ?_
        rw [if_pos ⟨h1, h2⟩]; exact h
  · dsimp only [cells] at h
    ((try dsimp only [setN] at h); repeat (first | refine nn ?_ | (refine dr h ?_; clear h; (try clear w); intro w h) | refine ldC h ?_ | refine laC h ?_ | refine ckC h ?_ | (refine stC h ?_; clear h; (try clear w); intro w h; (try dsimp only [putN, setN] at h))))
    refine MpS.set mkS und_rack h 3 rfl hm (thgOf c ver (if t.is = true ∧ sameC (cfgOf t) c = true then t.gen else t.gen + 1) true) rfl fun sm' w hm' h => ?_
    exact ⟨(), rfl, hk _ w ⟨r, sm', hm', rfl⟩ (St.back i hi (dl0_ (dl0_ h)).glue)⟩
end Go.Proofs.YtpnbgpolbjbhpaaGreatDoor
