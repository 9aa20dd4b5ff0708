/- Contracts of functions, and walks of laws (text Sr). No conditions beyond those its theorems state. -/
import Derived.Test.YtpnbgpolbjbhpaaSd
import Derived.Test.YtpnbgpolbjbhpaaSs
set_option linter.all false
namespace Go.Proofs.Ytpnbgpolbjbhpaa
open Go.Dm
attribute [local irreducible] L.load L.store L.chk L.new L.nonnil L.guard L.ite L.draw L.idx L.sem L.semR L.semU L.chkSem L.next L.call L.callV L.join L.alts L.loop L.begin L.endRound L.range
variable {w0 w : World} {E : List Seg}
/-! ### racks of routes -/
/-- rev, tag, percent -/
abbrev Tgt := HT [.str, .str, .int .i64]
def eT (t : Tgt) : List Value := [.string t.1, .string t.2.1, I t.2.2.1]
theorem encT : Enc eT 3 := ⟨fun _ => rfl, fun _ => rfl, by decide⟩
/-- name, config, targets, roll -/
structure ARt where
  name : ByteArray
  cfg : ByteArray
  ts : List Tgt
  roll : Int
/-- the four of a route, version, generation, there -/
abbrev Thr := HT [.str, .str, .slice, .int .i64, .int .i64, .int .i64, .bool]
abbrev eThr : E1 := .agg [.str, .str, .slice, .int .i64, .int .i64, .int .i64, .bool]
abbrev Thr.ver (t : Thr) : Int := t.2.2.2.2.1
abbrev Thr.gen (t : Thr) : Int := t.2.2.2.2.2.1
abbrev Thr.is (t : Thr) : Bool := t.2.2.2.2.2.2.1
def vThr (t : Thr) : Value := eThr.val t
def noThr : Thr := (s_, s_, ⟨none, 0, 0⟩, 0, 0, 0, false, ())
structure AThr where
  r : ARt
  ver : Int
  gen : Int
  is : Bool
def noAThr : AThr := ⟨⟨s_, s_, [], 0⟩, 0, 0, false⟩
/-- one in memory: by what name, what lies there, its targets, where -/
structure RtE where
  k : ByteArray
  t : Thr
  ts : List Tgt
  sg : Seg
def RtE.ok (x : RtE) : Prop := Rw eT T_api_Target 3 x.t.2.2.1 x.ts x.sg
def RtE.abs (x : RtE) : AThr := ⟨⟨x.t.1, x.t.2.1, x.ts, x.t.2.2.2.1⟩, x.t.ver, x.t.gen, x.t.is⟩
abbrev RtE.kt (x : RtE) : ByteArray × Thr := (x.k, x.t)
abbrev RtE.ka (x : RtE) : ByteArray × AThr := (x.k, x.abs)
theorem und_rackR : Pr.underlying T_map_string_shelf_thing_api_Route = some (.map T_string T_shelf_thing_api_Route) := by kernel_rfl
theorem zthr (w : World) : (zeroValue T_shelf_thing_api_Route).run Pr w = .ok (eThr.val noThr) w := by
  have h : (Pr.info? T_shelf_thing_api_Route).map (·.zero) = some (some (.agg #[.string s_, .string s_, .slice none 0 0, I 0, I 0, I 0, .bool false])) := by kernel_rfl
  cases hi : Pr.info? T_shelf_thing_api_Route with
  | none => rw [hi] at h; cases h
  | some i => rw [hi] at h; simp only [Option.map_some, Option.some.injEq] at h; exact zv hi h w
def rget (m : List (ByteArray × AThr)) (n : ByteArray) : AThr := (mget m n).getD noAThr
def RackR (b : Nat) (m : List (ByteArray × AThr)) (s : Seg) : Prop := ∃ r sm, ∃ Q : List RtE, MpS Value.string vThr r (Q.map RtE.kt) sm ∧ (∀ x ∈ Q, x.ok) ∧ m = Q.map RtE.ka ∧
  s = [Cl b T_shelf_rack_api_Route [.map (some r), .func (.func n_spec_SameRoute) #[] #[]]] ++ (sm ++ (Q.map RtE.sg).flatten)
def lget (Q : List RtE) (n : ByteArray) : RtE := (lfind RtE.k Q n).getD ⟨n, noThr, [], []⟩
theorem lget_t (Q : List RtE) (n : ByteArray) : (mget (Q.map RtE.kt) n).getD noThr = (lget Q n).t := by
  have := lfind_map (key := RtE.k) RtE.t n Q
  unfold lget; rw [this]; cases lfind RtE.k Q n <;> rfl
theorem lget_a (Q : List RtE) (n : ByteArray) : rget (Q.map RtE.ka) n = (lget Q n).abs := by
  have := lfind_map (key := RtE.k) RtE.abs n Q
  unfold rget lget; rw [this]; cases lfind RtE.k Q n <;> rfl
theorem rlook {r : Nat} {Q : List RtE} {s : Seg} (h : St w0 E w) (i : Nat) (hi : nth E i = some s) (hm : MpS Value.string vThr r (Q.map RtE.kt) s) {n : ByteArray} {kk : eThr.T → PT} (hk : kk (lget Q n).t w) :
    L.semR Pr (.one eThr) (Instr.lookup T_map_string_shelf_thing_api_Route (.map (some r)) (.string n) false) kk w := by
  refine MpS.get mkS und_rackR zthr (fun t : Thr => t) (fun _ => rfl) h i hi hm ?_
  have : ((mget (Q.map RtE.kt) n).map fun t : Thr => t).getD noThr = (lget Q n).t := by rw [← lget_t]; cases mget (Q.map RtE.kt) n <;> rfl
  rw [this]; exact hk
theorem S_madeR (h : St w0 E w) {k : Option Addr → PT} (hk : ∀ b s w', RackR b [] s → St w0 (s :: E) w' → k (some ⟨b, 0, none⟩) w') :
    L.call Pr n_shelf_made_api_Route [.func (.func n_spec_SameRoute) #[] #[]] (.one (.one .ptr)) k w := by
  refine call_of (C_shelf_made_api_Route ⟨.func n_spec_SameRoute, #[], #[]⟩) ?_
  unfold F_shelf_made_api_Route
  refine MpS.new h Value.string vThr fun r s w hm h => ?_
  refine nw h ?_; clear h; (try clear w); intro b w h
  exact ⟨_, rfl, hk b _ w ⟨r, s, [], hm, by simp, rfl, by simp⟩ h.glue⟩
/-- may it be put, or dropped? -/
def mayV (is : Bool) (tv ver : Int) (fresh : Bool) : Int :=
  if fresh = true ∧ ver = 0 then (if is = true then 5 else 0) else if is = true then (if tv = ver then 0 else 7) else 6
theorem S_mayR (h : St w0 E w) (i : Nat) {b : Nat} {m : List (ByteArray × AThr)} {s : Seg} (hi : nth E i = some s) (hs : RackR b m s) {n : ByteArray} {ver : Int} {fresh : Bool} {k : Int → PT} (hk : ∀ w', St w0 E w' → k (mayV (rget m n).is (rget m n).ver ver fresh) w') :
    L.call Pr n_shelf_rack_api_Route_may [.pointer (some ⟨b, 0, none⟩), .string n, I ver, .bool fresh] (.one (.one (.int .i64))) k w := by
  obtain ⟨r, sm, Q, hm, hL, rfl, rfl⟩ := hs
  refine call_of (C_shelf_rack_api_Route_may _ _ _ _) ?_
  unfold F_shelf_rack_api_Route_may
  rw [lget_a] at hk
  have h := (h.front i hi).split3
  (repeat (first | refine nn ?_ | (refine dr h ?_; clear h; (try clear w); intro w h) | refine ld0_ h rfl rfl ?_ | refine ld1_ h rfl rfl ?_ | refine ld2_ h rfl rfl ?_ | refine ld3_ h rfl rfl ?_ | refine ld4_ h rfl rfl ?_ | refine ld5_ h rfl rfl ?_ | refine ld6_ h rfl rfl ?_ | refine ld7_ h rfl rfl ?_ | refine ld8_ h rfl rfl ?_ | refine ld9_ h rfl rfl ?_ | refine ld10_ h rfl rfl ?_ | refine ld11_ h rfl rfl ?_ | refine la0_ h rfl ?_ | refine la1_ h rfl ?_ | refine la2_ h rfl ?_ | refine la3_ h rfl ?_ | refine la4_ h rfl ?_ | refine la5_ h rfl ?_ | refine la6_ h rfl ?_ | refine la7_ h rfl ?_ | refine la8_ h rfl ?_ | refine la9_ h rfl ?_ | refine la10_ h rfl ?_ | refine la11_ h rfl ?_ | refine ck0_ h rfl ?_ | refine ck1_ h rfl ?_ | refine ck2_ h rfl ?_ | refine ck3_ h rfl ?_ | refine ck4_ h rfl ?_ | refine ck5_ h rfl ?_ | refine ck6_ h rfl ?_ | refine ck7_ h rfl ?_ | refine ck8_ h rfl ?_ | refine ck9_ h rfl ?_ | refine ck10_ h rfl ?_ | refine ck11_ h rfl ?_ | ((first | refine st0_ h rfl rfl ?_ | refine st1_ h rfl rfl ?_ | refine st2_ h rfl rfl ?_ | refine st3_ h rfl rfl ?_ | refine st4_ h rfl rfl ?_ | refine st5_ h rfl rfl ?_ | refine st6_ h rfl rfl ?_ | refine st7_ h rfl rfl ?_ | refine st8_ h rfl rfl ?_ | refine st9_ h rfl rfl ?_ | refine st10_ h rfl rfl ?_ | refine st11_ h rfl rfl ?_); clear h; (try clear w); intro w h; (try dsimp only [putN, setN] at h))))
  refine rlook h 1 rfl hm ?_
  generalize lget Q n = t at hk
  refine nw h ?_; clear h; (try clear w); intro b4 w h
  (repeat' (first | refine nn ?_ | (refine dr h ?_; clear h; (try clear w); intro w h) | refine ld0_ h rfl rfl ?_ | refine ld1_ h rfl rfl ?_ | refine ld2_ h rfl rfl ?_ | refine ld3_ h rfl rfl ?_ | refine ld4_ h rfl rfl ?_ | refine ld5_ h rfl rfl ?_ | refine ld6_ h rfl rfl ?_ | refine ld7_ h rfl rfl ?_ | refine ld8_ h rfl rfl ?_ | refine ld9_ h rfl rfl ?_ | refine ld10_ h rfl rfl ?_ | refine ld11_ h rfl rfl ?_ | refine la0_ h rfl ?_ | refine la1_ h rfl ?_ | refine la2_ h rfl ?_ | refine la3_ h rfl ?_ | refine la4_ h rfl ?_ | refine la5_ h rfl ?_ | refine la6_ h rfl ?_ | refine la7_ h rfl ?_ | refine la8_ h rfl ?_ | refine la9_ h rfl ?_ | refine la10_ h rfl ?_ | refine la11_ h rfl ?_ | refine ck0_ h rfl ?_ | refine ck1_ h rfl ?_ | refine ck2_ h rfl ?_ | refine ck3_ h rfl ?_ | refine ck4_ h rfl ?_ | refine ck5_ h rfl ?_ | refine ck6_ h rfl ?_ | refine ck7_ h rfl ?_ | refine ck8_ h rfl ?_ | refine ck9_ h rfl ?_ | refine ck10_ h rfl ?_ | refine ck11_ h rfl ?_ | ((first | refine st0_ h rfl rfl ?_ | refine st1_ h rfl rfl ?_ | refine st2_ h rfl rfl ?_ | refine st3_ h rfl rfl ?_ | refine st4_ h rfl rfl ?_ | refine st5_ h rfl rfl ?_ | refine st6_ h rfl rfl ?_ | refine st7_ h rfl rfl ?_ | refine st8_ h rfl rfl ?_ | refine st9_ h rfl rfl ?_ | refine st10_ h rfl rfl ?_ | refine st11_ h rfl rfl ?_); clear h; (try clear w); intro w h; (try dsimp only [putN, setN] at h)) | refine jd ?_ | (refine it (fun hc => ?_) (fun hc => ?_) <;> (try simp only [decide_eq_true_eq, decide_eq_false_iff_not, beq_iff_eq, bne_iff_ne, beq_eq_false_iff_ne, bne_eq_false_iff_eq, Bool.not_eq_true', Bool.not_eq_false', ne_eq, Bool.not_eq_true, Bool.not_eq_false] at hc))))
  all_goals exact ⟨_, rfl, eqk (hk w (St.again i hi (dl0_ h).glue3)) (by clear h; simp_all [mayV, RtE.abs, Thr.is, Thr.ver])⟩
/-- one put in its place, in memory -/
theorem RackR.put {r b : Nat} {Q : List RtE} {sm : Seg} (x : RtE) (hx : x.ok) (hQ : ∀ x ∈ Q, x.ok) (hm : MpS Value.string vThr r (mset (Q.map RtE.kt) x.k x.t) sm)
    (h : St w0 (x.sg :: (Q.map RtE.sg).flatten :: [Cl b T_shelf_rack_api_Route [.map (some r), .func (.func n_spec_SameRoute) #[] #[]]] :: sm :: E) w) :
    ∃ s, RackR b (mset (Q.map RtE.ka) x.k x.abs) s ∧ St w0 (s :: E) w := by
  have e1 := lput_map (key := RtE.k) RtE.t x Q
  have e2 := lput_map (key := RtE.k) RtE.abs x Q
  have h := St.lput (key := RtE.k) h
  refine ⟨_, ⟨r, sm, lput RtE.k Q x, by rw [e1]; exact hm, fun y hy => ?_, e2.symm, rfl⟩, ?_⟩
  · rcases lput_mem hy with rfl | hy
    · exact hx
    · exact hQ y hy
  · have h := fr2_ (fr2_ h)
    exact h.glue3
def dropRt (m : List (ByteArray × AThr)) (n : ByteArray) : List (ByteArray × AThr) := mset m n ⟨⟨s_, s_, [], 0⟩, 0, (rget m n).gen, false⟩
theorem S_dropR (h : St w0 E w) (i : Nat) {b : Nat} {m : List (ByteArray × AThr)} {s : Seg} (hi : nth E i = some s) (hs : RackR b m s) {n : ByteArray} {k : Unit → PT}
    (hk : ∀ s' w', RackR b (dropRt m n) s' → St w0 (setN E i s') w' → k () w') :
    L.call Pr n_shelf_rack_api_Route_drop [.pointer (some ⟨b, 0, none⟩), .string n] (.tup []) k w := by
  obtain ⟨r, sm, Q, hm, hQ, rfl, rfl⟩ := hs
  refine call_of (C_shelf_rack_api_Route_drop _ _) ?_
  unfold F_shelf_rack_api_Route_drop
  unfold dropRt at hk
  rw [lget_a] at hk
  have h := (h.front i hi).split3
  (repeat (first | refine nn ?_ | (refine dr h ?_; clear h; (try clear w); intro w h) | refine ld0_ h rfl rfl ?_ | refine ld1_ h rfl rfl ?_ | refine ld2_ h rfl rfl ?_ | refine ld3_ h rfl rfl ?_ | refine ld4_ h rfl rfl ?_ | refine ld5_ h rfl rfl ?_ | refine ld6_ h rfl rfl ?_ | refine ld7_ h rfl rfl ?_ | refine ld8_ h rfl rfl ?_ | refine ld9_ h rfl rfl ?_ | refine ld10_ h rfl rfl ?_ | refine ld11_ h rfl rfl ?_ | refine la0_ h rfl ?_ | refine la1_ h rfl ?_ | refine la2_ h rfl ?_ | refine la3_ h rfl ?_ | refine la4_ h rfl ?_ | refine la5_ h rfl ?_ | refine la6_ h rfl ?_ | refine la7_ h rfl ?_ | refine la8_ h rfl ?_ | refine la9_ h rfl ?_ | refine la10_ h rfl ?_ | refine la11_ h rfl ?_ | refine ck0_ h rfl ?_ | refine ck1_ h rfl ?_ | refine ck2_ h rfl ?_ | refine ck3_ h rfl ?_ | refine ck4_ h rfl ?_ | refine ck5_ h rfl ?_ | refine ck6_ h rfl ?_ | refine ck7_ h rfl ?_ | refine ck8_ h rfl ?_ | refine ck9_ h rfl ?_ | refine ck10_ h rfl ?_ | refine ck11_ h rfl ?_ | ((first | refine st0_ h rfl rfl ?_ | refine st1_ h rfl rfl ?_ | refine st2_ h rfl rfl ?_ | refine st3_ h rfl rfl ?_ | refine st4_ h rfl rfl ?_ | refine st5_ h rfl rfl ?_ | refine st6_ h rfl rfl ?_ | refine st7_ h rfl rfl ?_ | refine st8_ h rfl rfl ?_ | refine st9_ h rfl rfl ?_ | refine st10_ h rfl rfl ?_ | refine st11_ h rfl rfl ?_); clear h; (try clear w); intro w h; (try dsimp only [putN, setN] at h))))
  refine rlook h 1 rfl hm ?_
  refine MpS.set mkS und_rackR h 1 rfl hm (s_, s_, ⟨none, 0, 0⟩, 0, 0, (lget Q n).t.gen, false, ()) rfl fun sm' w hm' h => ?_
  have h := fr2_ (fr1_ (fr1_ h))
  obtain ⟨s', hs', h⟩ := RackR.put (E := delN E i) ⟨n, (s_, s_, ⟨none, 0, 0⟩, 0, 0, (lget Q n).t.gen, false, ()), [], []⟩ Rw.nil hQ hm' h.nil
  exact ⟨(), rfl, hk s' w hs' (St.back i hi h)⟩
def takR (m : List (ByteArray × AThr)) (n : ByteArray) (ver : Int) : List (ByteArray × AThr) := if mayV (rget m n).is (rget m n).ver ver false = 0 then dropRt m n else m
theorem S_takenR (h : St w0 E w) (i : Nat) {b : Nat} {m : List (ByteArray × AThr)} {s : Seg} (hi : nth E i = some s) (hs : RackR b m s) {n : ByteArray} {ver : Int} {k : Int → PT}
    (hk : ∀ s' w', RackR b (takR m n ver) s' → St w0 (setN E i s') w' → k (mayV (rget m n).is (rget m n).ver ver false) w') :
    L.call Pr n_shelf_taken_api_Route [.pointer (some ⟨b, 0, none⟩), .string n, I ver] (.one (.one (.int .i64))) k w := by
  refine call_of (C_shelf_taken_api_Route _ _ _) ?_
  unfold F_shelf_taken_api_Route
  refine S_mayR h i hi hs fun w h => ?_
  unfold takR at hk
  refine jd ?_
  refine it (fun he => ?_) (fun he => ?_) <;> (try simp only [decide_eq_true_eq, decide_eq_false_iff_not, beq_iff_eq, bne_iff_ne, beq_eq_false_iff_ne, bne_eq_false_iff_eq, Bool.not_eq_true', Bool.not_eq_false', ne_eq, Bool.not_eq_true, Bool.not_eq_false] at he)
  · refine S_dropR h i hi hs fun s' w hs' h => ?_
    rw [if_pos he] at hk
    exact ⟨_, rfl, hk s' w hs' h⟩
  · rw [if_neg he] at hk
    exact ⟨_, rfl, hk s w hs (by rwa [setN_self hi])⟩
end Go.Proofs.Ytpnbgpolbjbhpaa
