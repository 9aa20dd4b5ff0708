/- Contracts of functions, and walks of laws (text Sr). No conditions beyond those its theorems state. -/
import Derived.Test.YtpnbgpolbjbhpaaGreatDoorSa
import Derived.Test.YtpnbgpolbjbhpaaGreatDoorSs
set_option linter.all false
namespace Go.Proofs.YtpnbgpolbjbhpaaGreatDoor
open Go.Dm
attribute [local irreducible] L.load L.store L.chk L.new L.nonnil L.guard L.ite L.draw L.idx L.sem L.semR L.semU L.chkSem L.next L.call L.callV L.join L.alts L.loop L.begin L.endRound L.range
variable {w0 w : World} {E : List Seg}
/-! ### racks of routes -/
/-- rev, tag, percent -/
abbrev Tgt := HT [.str, .str, .int .i64]
def eT (t : Tgt) : List Value := [.string t.1, .string t.2.1, I t.2.2.1]
theorem encT : Enc eT 3 := ⟨fun _ => rfl, fun _ => rfl, by decide⟩
/-- name, config, targets, roll -/
structure ARt where
  name : ByteArray
  cfg : ByteArray
  ts : List Tgt
  roll : Int
/-- the four of a route, version, generation, there -/
abbrev Thr := HT [.str, .str, .slice, .int .i64, .int .i64, .int .i64, .bool]
abbrev eThr : E1 := .agg [.str, .str, .slice, .int .i64, .int .i64, .int .i64, .bool]
abbrev Thr.ver (t : Thr) : Int := t.2.2.2.2.1
abbrev Thr.gen (t : Thr) : Int := t.2.2.2.2.2.1
abbrev Thr.is (t : Thr) : Bool := t.2.2.2.2.2.2.1
def vThr (t : Thr) : Value := eThr.val t
def noThr : Thr := (s_, s_, ⟨none, 0, 0⟩, 0, 0, 0, false, ())
structure AThr where
  r : ARt
  ver : Int
  gen : Int
  is : Bool
def noAThr : AThr := ⟨⟨s_, s_, [], 0⟩, 0, 0, false⟩
/-- one in memory: by what name, what lies there, its targets, where -/
structure RtE where
  k : ByteArray
  t : Thr
  ts : List Tgt
  sg : Seg
def RtE.ok (x : RtE) : Prop := Rw eT T_api_Target 3 x.t.2.2.1 x.ts x.sg
def RtE.abs (x : RtE) : AThr := ⟨⟨x.t.1, x.t.2.1, x.ts, x.t.2.2.2.1⟩, x.t.ver, x.t.gen, x.t.is⟩
abbrev RtE.kt (x : RtE) : ByteArray × Thr := (x.k, x.t)
abbrev RtE.ka (x : RtE) : ByteArray × AThr := (x.k, x.abs)
theorem und_rackR : Pr.underlying T_map_string_shelf_thing_api_Route = some (.map T_string T_shelf_thing_api_Route) := by kernel_rfl
theorem zthr (w : World) : (zeroValue T_shelf_thing_api_Route).run Pr w = .ok (eThr.val noThr) w := by
  have h : (Pr.info? T_shelf_thing_api_Route).map (·.zero) = some (some (.agg #[.string s_, .string s_, .slice none 0 0, I 0, I 0, I 0, .bool false])) := by kernel_rfl
  cases hi : Pr.info? T_shelf_thing_api_Route with
  | none => rw [hi] at h; cases h
  | some i => rw [hi] at h; simp only [Option.map_some, Option.some.injEq] at h; exact zv hi h w
def rget (m : List (ByteArray × AThr)) (n : ByteArray) : AThr := (mget m n).getD noAThr
def RackR (b : Nat) (m : List (ByteArray × AThr)) (s : Seg) : Prop := ∃ r sm, ∃ Q : List RtE, MpS Value.string vThr r (Q.map RtE.kt) sm ∧ (∀ x ∈ Q, x.ok) ∧ m = Q.map RtE.ka ∧
  s = [Cl b T_shelf_rack_api_Route [.map (some r), .func (.func n_spec_SameRoute) #[] #[]]] ++ (sm ++ (Q.map RtE.sg).flatten)
def lget (Q : List RtE) (n : ByteArray) : RtE := (lfind RtE.k Q n).getD ⟨n, noThr, [], []⟩
theorem lget_t (Q : List RtE) (n : ByteArray) : (mget (Q.map RtE.kt) n).getD noThr = (lget Q n).t := by
  have := lfind_map (key := RtE.k) RtE.t n Q
  unfold lget; rw [this]; cases lfind RtE.k Q n <;> rfl
theorem lget_a (Q : List RtE) (n : ByteArray) : rget (Q.map RtE.ka) n = (lget Q n).abs := by
  have := lfind_map (key := RtE.k) RtE.abs n Q
  unfold rget lget; rw [this]; cases lfind RtE.k Q n <;> rfl
theorem rlook {r : Nat} {Q : List RtE} {s : Seg} (h : St w0 E w) (i : Nat) (hi : nth E i = some s) (hm : MpS Value.string vThr r (Q.map RtE.kt) s) {n : ByteArray} {kk : eThr.T → PT} (hk : kk (lget Q n).t w) :
    L.semR Pr (.one eThr) (Instr.lookup T_map_string_shelf_thing_api_Route (.map (some r)) (.string n) false) kk w := by
  refine MpS.get mkS und_rackR zthr (fun t : Thr => t) (fun _ => rfl) h i hi hm ?_
  have : ((mget (Q.map RtE.kt) n).map fun t : Thr => t).getD noThr = (lget Q n).t := by rw [← lget_t]; cases mget (Q.map RtE.kt) n <;> rfl
  rw [this]; exact hk
theorem S_madeR (h : St w0 E w) {k : Option Addr → PT} (hk : ∀ b s w', RackR b [] s → St w0 (s :: E) w' → k (some ⟨b, 0, none⟩) w') :
    L.call Pr n_shelf_made_api_Route [.func (.func n_spec_SameRoute) #[] #[]] (.one (.one .ptr)) k w := by
  refine call_of (C_shelf_made_api_Route ⟨.func n_spec_SameRoute, #[], #[]⟩) ?_
  unfold F_shelf_made_api_Route
  refine MpS.new h Value.string vThr fun r s w hm h => ?_
  refine nw h ?_; clear h; (try clear w); intro b w h
  exact ⟨_, rfl, hk b _ w ⟨r, s, [], hm, by simp, rfl, by simp⟩ h.glue⟩
/-- may it be put, or dropped? -/
def mayV (is : Bool) (tv ver : Int) (fresh : Bool) : Int :=
  if fresh = true ∧ ver = 0 then (if is = true then 5 else 0) else if is = true then (if tv = ver then 0 else 7) else 6
theorem S_mayR (h : St w0 E w) (i : Nat) {b : Nat} {m : List (ByteArray × AThr)} {s : Seg} (hi : nth E i = some s) (hs : RackR b m s) {n : ByteArray} {ver : Int} {fresh : Bool} {k : Int → PT} (hk : ∀ w', St w0 E w' → k (mayV (rget m n).is (rget m n).ver ver fresh) w') :
    L.call Pr n_shelf_rack_api_Route_may [.pointer (some ⟨b, 0, none⟩), .string n, I ver, .bool fresh] (.one (.one (.int .i64))) k w := by
  obtain ⟨r, sm, Q, hm, hL, rfl, rfl⟩ := hs
  refine call_of (C_shelf_rack_api_Route_may _ _ _ _) ?_
  unfold F_shelf_rack_api_Route_may
  rw [lget_a] at hk
  have h := (h.front i hi).split3
  ((try dsimp only [setN] at h); repeat (first | refine nn ?_ | (refine dr h ?_; clear h; (try clear w); intro w h) | refine ldC h ?_ | refine laC h ?_ | refine ckC h ?_ | (refine stC h ?_; clear h; (try clear w); intro w h; (try dsimp only [putN, setN] at h))))
  refine rlook h 1 rfl hm ?_
  generalize lget Q n = t at hk
  refine nw h ?_; clear h; (try clear w); intro b4 w h
  ((try dsimp only [setN] at h); repeat' (first | refine nn ?_ | (refine dr h ?_; clear h; (try clear w); intro w h) | refine ldC h ?_ | refine laC h ?_ | refine ckC h ?_ | (refine stC h ?_; clear h; (try clear w); intro w h; (try dsimp only [putN, setN] at h)) | refine jd ?_ | (refine it (fun hc => ?_) (fun hc => ?_) <;> (try simp only [decide_eq_true_eq, decide_eq_false_iff_not, beq_iff_eq, bne_iff_ne, beq_eq_false_iff_ne, bne_eq_false_iff_eq, Bool.not_eq_true', Bool.not_eq_false', ne_eq, Bool.not_eq_true, Bool.not_eq_false] at hc))))
  all_goals exact ⟨_, rfl, eqk (hk w (St.again i hi (dl0_ h).glue3)) (by clear h; simp_all [mayV, RtE.abs, Thr.is, Thr.ver])⟩
/-- one put in its place, in memory -/
theorem RackR.put {r b : Nat} {Q : List RtE} {sm : Seg} (x : RtE) (hx : x.ok) (hQ : ∀ x ∈ Q, x.ok) (hm : MpS Value.string vThr r (mset (Q.map RtE.kt) x.k x.t) sm)
    (h : St w0 (x.sg :: (Q.map RtE.sg).flatten :: [Cl b T_shelf_rack_api_Route [.map (some r), .func (.func n_spec_SameRoute) #[] #[]]] :: sm :: E) w) :
    ∃ s, RackR b (mset (Q.map RtE.ka) x.k x.abs) s ∧ St w0 (s :: E) w := by
  have e1 := lput_map (key := RtE.k) RtE.t x Q
  have e2 := lput_map (key := RtE.k) RtE.abs x Q
  have h := St.lput (key := RtE.k) h
  refine ⟨_, ⟨r, sm, lput RtE.k Q x, by rw [e1]; exact hm, fun y hy => ?_, e2.symm, rfl⟩, ?_⟩
  · rcases lput_mem hy with rfl | hy
    · exact hx
    · exact hQ y hy
  · have h := fr2_ (fr2_ h)
    exact h.glue3
def dropRt (m : List (ByteArray × AThr)) (n : ByteArray) : List (ByteArray × AThr) := mset m n ⟨⟨s_, s_, [], 0⟩, 0, (rget m n).gen, false⟩
theorem S_dropR (h : St w0 E w) (i : Nat) {b : Nat} {m : List (ByteArray × AThr)} {s : Seg} (hi : nth E i = some s) (hs : RackR b m s) {n : ByteArray} {k : Unit → PT}
    (hk : ∀ s' w', RackR b (dropRt m n) s' → St w0 (setN E i s') w' → k () w') :
    L.call Pr n_shelf_rack_api_Route_drop [.pointer (some ⟨b, 0, none⟩), .string n] (.tup []) k w := by
  obtain ⟨r, sm, Q, hm, hQ, rfl, rfl⟩ := hs
  refine call_of (C_shelf_rack_api_Route_drop _ _) ?_
  unfold F_shelf_rack_api_Route_drop
  unfold dropRt at hk
  rw [lget_a] at hk
  have h := (h.front i hi).split3
  ((try dsimp only [setN] at h); repeat (first | refine nn ?_ | (refine dr h ?_; clear h; (try clear w); intro w h) | refine ldC h ?_ | refine laC h ?_ | refine ckC h ?_ | (refine stC h ?_; clear h; (try clear w); intro w h; (try dsimp only [putN, setN] at h))))
  refine rlook h 1 rfl hm ?_
  refine MpS.set mkS und_rackR h 1 rfl hm (s_, s_, ⟨none, 0, 0⟩, 0, 0, (lget Q n).t.gen, false, ()) rfl fun sm' w hm' h => ?_
  have h := fr2_ (fr1_ (fr1_ h))
  obtain ⟨s', hs', h⟩ := RackR.put (E := delN E i) ⟨n, (s_, s_, ⟨none, 0, 0⟩, 0, 0, (lget Q n).t.gen, false, ()), [], []⟩ Rw.nil hQ hm' h.nil
  exact ⟨(), rfl, hk s' w hs' (St.back i hi h)⟩
def takR (m : List (ByteArray × AThr)) (n : ByteArray) (ver : Int) : List (ByteArray × AThr) := if mayV (rget m n).is (rget m n).ver ver false = 0 then dropRt m n else m
theorem S_takenR (h : St w0 E w) (i : Nat) {b : Nat} {m : List (ByteArray × AThr)} {s : Seg} (hi : nth E i = some s) (hs : RackR b m s) {n : ByteArray} {ver : Int} {k : Int → PT}
    (hk : ∀ s' w', RackR b (takR m n ver) s' → St w0 (setN E i s') w' → k (mayV (rget m n).is (rget m n).ver ver false) w') :
    L.call Pr n_shelf_taken_api_Route [.pointer (some ⟨b, 0, none⟩), .string n, I ver] (.one (.one (.int .i64))) k w := by
  refine call_of (C_shelf_taken_api_Route _ _ _) ?_
  unfold F_shelf_taken_api_Route
  refine S_mayR h i hi hs fun w h => ?_
  unfold takR at hk
  refine jd ?_
  refine it (fun he => ?_) (fun he => ?_) <;> (try simp only [decide_eq_true_eq, decide_eq_false_iff_not, beq_iff_eq, bne_iff_ne, beq_eq_false_iff_ne, bne_eq_false_iff_eq, Bool.not_eq_true', Bool.not_eq_false', ne_eq, Bool.not_eq_true, Bool.not_eq_false] at he)
  · refine S_dropR h i hi hs fun s' w hs' h => ?_
    rw [if_pos he] at hk
    exact ⟨_, rfl, hk s' w hs' h⟩
  · rw [if_neg he] at hk
    exact ⟨_, rfl, hk s w hs (by rwa [setN_self hi])⟩
end Go.Proofs.YtpnbgpolbjbhpaaGreatDoor
namespace Go.Proofs.YtpnbgpolbjbhpaaGreatDoor
open Go.Dm
attribute [local irreducible] L.load L.store L.chk L.new L.nonnil L.guard L.ite L.draw L.idx L.sem L.semR L.semU L.chkSem L.next L.call L.callV L.join L.alts L.loop L.begin L.endRound L.range
variable {w0 w : World} {E : List Seg}
/-! ### names -/
/-- the m-th of some strings, handed on -/
def argS (l : List ByteArray) (m : Nat) : TT [.one .str] := ((l[m]?).getD s_, ())
theorem argS_at {l : List ByteArray} {m : Nat} {x : ByteArray} (h : l[m]? = some x) : argS l m = (x, ()) := by simp [argS, h]
theorem S_KCfg (h : St w0 E w) (i : Nat) {s : Seg} (hi : nth E i = some s) {r : Nat} {m : List (ByteArray × Thg)} (hm : MpS Value.string vThg r m s) (hn : m.length < 1000000000) {k : Sl → PT}
    (hk : ∀ v s' w', Rw eS T_string 1 v (ssort (m.map (·.1))) s' → St w0 (s' :: E) w' → k v w') :
    L.call Pr n_maps_Keys_map_string_shelf_thing_api_Config_string_bd34 [.map (some r)] (.one (.one .func)) (fun x5 => L.call Pr n_slices_Sorted_string [.func x5.fn x5.fs x5.cs] (.one (.one .slice)) k) w := by
  refine call_of (C_maps_Keys_map_string_shelf_thing_api_Config_string_bd34 _) ?_
  unfold F_maps_Keys_map_string_shelf_thing_api_Config_string_bd34
  have h := h.front i hi
  refine nw h ?_; clear h; (try clear w); intro c w h
  refine ⟨⟨.func n_maps_Keys_map_string_shelf_thing_api_Config_string_df09, #[], #[.pointer (some ⟨c, 0, none⟩)]⟩, rfl, ?_⟩
  have hY : YldM Pr w0 [[Cl c T_map_string_shelf_thing_api_Config [.map (some r)]], s] (.func (.func n_maps_Keys_map_string_shelf_thing_api_Config_string_df09) #[] #[.pointer (some ⟨c, 0, none⟩)]) (m.map (·.1)) Value.string := by
    intro yv R J Jd F w h hJ step fin fin2
    refine ⟨E_maps_Keys_map_string_shelf_thing_api_Config_string_df09, C_maps_Keys_map_string_shelf_thing_api_Config_string_df09 yv ⟨c, 0, none⟩ ?_⟩
    unfold F_maps_Keys_map_string_shelf_thing_api_Config_string_df09
    exact keys_of (kv := Value.string) (vv := vThg) unS (fun _ => rfl) und_rack (lk := .str) (ev := eThg) (fun x => x) (fun _ => rfl) (fun x : Thg => x) (fun _ => rfl) J Jd hm h hJ (fun seen k F X w hl hJ h => step seen k F X w (by simpa using hl) hJ h) fin fin2
  refine S_SortedKeysS (fv := ⟨.func n_maps_Keys_map_string_shelf_thing_api_Config_string_df09, #[], #[.pointer (some ⟨c, 0, none⟩)]⟩) hY h (by simpa using hn) fun v s' w hr h => hk v s' w hr ?_
  have h := fr1_ h
  exact St.again (i + 1) (E := s' :: E) hi h
def namesC (m : List (ByteArray × Thg)) : List ByteArray := (ssort (m.map (·.1))).filter fun n => (tget m n).is
theorem Y_namesC {c b r : Nat} {m : List (ByteArray × Thg)} {sm : Seg} (hm : MpS Value.string vThg r m sm) (hn : m.length < 1000000000) :
    YldX Pr w0 [[Cl c T_p_shelf_rack_api_Config [.pointer (some ⟨b, 0, none⟩)]], [Cl b T_shelf_rack_api_Config [.map (some r), .func (.func n_shelf_New_1) #[] #[]]], sm]
      (.func (.func n_shelf_rack_api_Config_names_1) #[] #[.pointer (some ⟨c, 0, none⟩)]) (namesC m).length fun i => TV _ (argS (namesC m) i) := by
  intro yv R J Jd G w h hJ step fin fin2
  refine ⟨E_shelf_rack_api_Config_names_1, C_shelf_rack_api_Config_names_1 yv ⟨c, 0, none⟩ ?_⟩
  unfold F_shelf_rack_api_Config_names_1
  have h : St w0 ([Cl c T_p_shelf_rack_api_Config [.pointer (some ⟨b, 0, none⟩)]] :: [Cl b T_shelf_rack_api_Config [.map (some r), .func (.func n_shelf_New_1) #[] #[]]] :: sm :: G) w := h
  ((try dsimp only [setN] at h); repeat (first | refine nn ?_ | (refine dr h ?_; clear h; (try clear w); intro w h) | refine ldC h ?_ | refine laC h ?_ | refine ckC h ?_ | (refine stC h ?_; clear h; (try clear w); intro w h; (try dsimp only [putN, setN] at h))))
  refine S_KCfg h 2 rfl hm hn fun v s w hrow h => ?_
  unfold namesC at *
  have hlen := Rw.len encS hrow
  have hl : (ssort (m.map (·.1))).length < 1000000000 := by rw [ssort_len, List.length_map]; exact hn
  generalize ssort (m.map (·.1)) = l at *
  refine loop_of (fun q y w => ∃ (j : Nat) (G : List Seg), @Eq Int y.1 j ∧ q + j = l.length ∧ J ((l.take j).filter fun n => (tget m n).is).length G ∧
    St w0 (s :: [Cl c T_p_shelf_rack_api_Config [.pointer (some ⟨b, 0, none⟩)]] :: [Cl b T_shelf_rack_api_Config [.map (some r), .func (.func n_shelf_New_1) #[] #[]]] :: sm :: G) w) l.length ⟨0, G, rfl, rfl, hJ, h⟩ ?_
  clear hJ
  clear h; (try clear w)
  rintro q ⟨y, ⟨⟩⟩ w ⟨j, G, hy, hq, hJ, h⟩ again hag
  simp only at hy
  subst hy
  refine it (fun hb => ?_) (fun hb => ?_) <;> (try simp only [decide_eq_true_eq, decide_eq_false_iff_not, beq_iff_eq, bne_iff_ne, beq_eq_false_iff_ne, bne_eq_false_iff_eq, Bool.not_eq_true', Bool.not_eq_false', ne_eq, Bool.not_eq_true, Bool.not_eq_false] at hb)
  · have hj : j < l.length := by omega
    have hx : l[j]? = some l[j] := List.getElem?_eq_getElem hj
    have hft := filt_take (p := fun n => (tget m n).is) hx
    have next : ∀ {G w}, J ((l.take (j + 1)).filter fun n => (tget m n).is).length G → St w0 (s :: [Cl c T_p_shelf_rack_api_Config [.pointer (some ⟨b, 0, none⟩)]] :: [Cl b T_shelf_rack_api_Config [.map (some r), .func (.func n_shelf_New_1) #[] #[]]] :: sm :: G) w → again (IntKind.wrap .i64 ((j : Int) + 1), ()) w := by
      intro G w hJ h
      refine hag (q - 1) _ w (by omega) ⟨j + 1, G, ?_, by omega, hJ, h⟩
      show IntKind.wrap .i64 _ = _
      rw [wr (by omega) (by omega)]; omega
    refine jd ?_
    refine Rw.ix encS hrow (by omega) (by simpa using hj) fun a ha => ?_
    refine Rw.ld0 encS h 0 rfl hrow ha (x := l[j]) (by simp [hj]) rfl rfl ?_
    ((try dsimp only [setN] at h); repeat (first | refine nn ?_ | (refine dr h ?_; clear h; (try clear w); intro w h) | refine ldC h ?_ | refine laC h ?_ | refine ckC h ?_ | (refine stC h ?_; clear h; (try clear w); intro w h; (try dsimp only [putN, setN] at h))))
    refine tlook h 3 rfl hm ?_
    refine it (fun hc => ?_) (fun hc => ?_) <;> (try simp only [decide_eq_true_eq, decide_eq_false_iff_not, beq_iff_eq, bne_iff_ne, beq_eq_false_iff_ne, bne_eq_false_iff_eq, Bool.not_eq_true', Bool.not_eq_false', ne_eq, Bool.not_eq_true, Bool.not_eq_false] at hc)
    · have hc : (tget m l[j]).is = true := hc
      rw [if_pos hc] at hft
      have hat := filt_at (p := fun n => (tget m n).is) hx hc
      have hlt := (List.getElem?_eq_some_iff.1 hat).1
      have step := step _ G [s] w hlt hJ (St.toEnd (X := [s]) (A := [_, _, _]) h)
      simp only [argS_at hat] at step
      refine cv (FCall.mono step fun u w' hu => ?_)
      rcases hu with ⟨rfl, G', h, hJ⟩ | ⟨rfl, hd⟩
      · exact ⟨true, rfl, itF rfl (next (by rw [hft]; exact hJ) (St.ofEnd (X := [s]) (A := [_, _, _]) h))⟩
      · exact ⟨false, rfl, itT rfl (fin2 w' hd)⟩
    · rw [if_neg (by simp [hc]), Nat.add_zero] at hft
      exact next (by rw [hft]; exact hJ) h
  · have e : j = l.length := by omega
    subst e
    rw [List.take_length] at hJ
    exact fin G w hJ (dl0_ h)
/-- for x := range seq { l = append(l, x) }; slices.Clone(l) -/
theorem S_list {A F : List Seg} {fv : FV} {l : List ByteArray} (hY : YldX Pr w0 A fv.val l.length fun i => TV _ (argS l i)) (h : St w0 (A ++ F) w) (hn : l.length < 1000000000) {k : Sl → PT}
    (hk : ∀ v s w', Rw eS T_string 1 v l s → St w0 (s :: (A ++ F)) w' → k v w') : L.call Pr n_shelf_list [.func fv.fn fv.fs fv.cs] (.one (.one .slice)) k w := by
  refine call_of (C_shelf_list fv) ?_
  unfold F_shelf_list
  refine nw h ?_; clear h; (try clear w); intro b1 w h
  have h : St w0 (A ++ ([Cl b1 T_s_string [SlV ⟨none, 0, 0⟩]] :: [] :: F)) w := by
    refine St.toFront (A := [[Cl b1 T_s_string [SlV ⟨none, 0, 0⟩]], []]) (G := A) (F := F) ?_
    exact h.eq (by simp)
  refine range_ofX (A := A) hY h (fun m G => ∃ v s, G = [Cl b1 T_s_string [SlV v]] :: s :: F ∧ Rw eS T_string 1 v (l.take m) s) (fun j G => False) ⟨_, _, rfl, Rw.nil⟩ ?_ ?_ ?_
  · rintro m G X w lv lp d R hm ⟨v, s, rfl, hr⟩ h hN hE
    have hx : l[m]? = some l[m] := List.getElem?_eq_getElem hm
    have h : St w0 ([[Cl b1 T_s_string [SlV v]], s] ++ (([Rec lv lp .busy none] :: [DfM d] :: A) ++ (F ++ X))) w := St.toFront (A := [Rec lv lp .busy none] :: [DfM d] :: A) (h.eq (by simp))
    have h : St w0 ([Cl b1 T_s_string [SlV v]] :: s :: (([Rec lv lp .busy none] :: [DfM d] :: A) ++ (F ++ X))) w := h
    rw [argS_at hx]
    ((try dsimp only [setN] at h); repeat (first | refine nn ?_ | (refine dr h ?_; clear h; (try clear w); intro w h) | refine ldC h ?_ | refine laC h ?_ | refine ckC h ?_ | (refine stC h ?_; clear h; (try clear w); intro w h; (try dsimp only [putN, setN] at h))))
    refine nw h ?_; clear h; (try clear w); intro b8 w h
    have hlm := Rw.len encS hr
    rw [List.length_take] at hlm
    refine Rw.app (l := l.take m) encS elS h 1 rfl hr l[m] rfl (by rw [List.length_take]; omega) (by rw [List.length_take]; omega) fun v' s' w hr' h => ?_
    ((try dsimp only [setN] at h); repeat (first | refine nn ?_ | (refine dr h ?_; clear h; (try clear w); intro w h) | refine ldC h ?_ | refine laC h ?_ | refine ckC h ?_ | (refine stC h ?_; clear h; (try clear w); intro w h; (try dsimp only [putN, setN] at h))))
    rw [List.take_add_one, hx] at hN
    refine hN _ w ⟨v', s', rfl, hr'⟩ ?_
    exact (St.toFront (A := [[Cl b1 T_s_string [SlV v']], s']) (G := [Rec lv lp .busy none] :: [DfM d] :: A) (F := F ++ X) h).eq (by simp)
  · rintro d G w ⟨v, s, rfl, hr⟩ h
    rw [List.take_length] at hr
    have h : St w0 ([[Cl b1 T_s_string [SlV v]], s] ++ (([DfM d] :: A) ++ F)) w := St.toFront (A := [DfM d] :: A) (h.eq (by simp))
    have h : St w0 ([Cl b1 T_s_string [SlV v]] :: s :: [DfM d] :: (A ++ F)) w := h
    refine jumpN ?_
    ((try dsimp only [setN] at h); repeat (first | refine nn ?_ | (refine dr h ?_; clear h; (try clear w); intro w h) | refine ldC h ?_ | refine laC h ?_ | refine ckC h ?_ | (refine stC h ?_; clear h; (try clear w); intro w h; (try dsimp only [putN, setN] at h))))
    refine S_CloneS h (Rw.rd encS h 1 rfl hr) hn (Rw.nil0 encS hr) fun v' s' w hr' hi h => ?_
    (first | refine um0_ h ?_ | refine um1_ h ?_ | refine um2_ h ?_ | refine um3_ h ?_ | refine um4_ h ?_ | refine um5_ h ?_ | refine um6_ h ?_ | refine um7_ h ?_ | refine um8_ h ?_ | refine um9_ h ?_ | refine um10_ h ?_ | refine um11_ h ?_); clear h; (try clear w); intro w h
    refine ⟨v', rfl, hk v' s' w hr' ?_⟩
    have h := dl1_ (dl2_ h)
    exact h
  · rintro d j G w hf; exact hf.elim
theorem S_KRt (h : St w0 E w) (i : Nat) {s : Seg} (hi : nth E i = some s) {r : Nat} {m : List (ByteArray × Thr)} (hm : MpS Value.string vThr r m s) (hn : m.length < 1000000000) {k : Sl → PT}
    (hk : ∀ v s' w', Rw eS T_string 1 v (ssort (m.map (·.1))) s' → St w0 (s' :: E) w' → k v w') :
    L.call Pr n_maps_Keys_map_string_shelf_thing_api_Route_string__f1c6 [.map (some r)] (.one (.one .func)) (fun x5 => L.call Pr n_slices_Sorted_string [.func x5.fn x5.fs x5.cs] (.one (.one .slice)) k) w := by
  refine call_of (C_maps_Keys_map_string_shelf_thing_api_Route_string__f1c6 _) ?_
  unfold F_maps_Keys_map_string_shelf_thing_api_Route_string__f1c6
  have h := h.front i hi
  refine nw h ?_; clear h; (try clear w); intro c w h
  refine ⟨⟨.func n_maps_Keys_map_string_shelf_thing_api_Route_string__801b, #[], #[.pointer (some ⟨c, 0, none⟩)]⟩, rfl, ?_⟩
  have hY : YldM Pr w0 [[Cl c T_map_string_shelf_thing_api_Route [.map (some r)]], s] (.func (.func n_maps_Keys_map_string_shelf_thing_api_Route_string__801b) #[] #[.pointer (some ⟨c, 0, none⟩)]) (m.map (·.1)) Value.string := by
    intro yv R J Jd F w h hJ step fin fin2
    refine ⟨E_maps_Keys_map_string_shelf_thing_api_Route_string__801b, C_maps_Keys_map_string_shelf_thing_api_Route_string__801b yv ⟨c, 0, none⟩ ?_⟩
    unfold F_maps_Keys_map_string_shelf_thing_api_Route_string__801b
    exact keys_of (kv := Value.string) (vv := vThr) unS (fun _ => rfl) und_rackR (lk := .str) (ev := eThr) (fun x => x) (fun _ => rfl) (fun x : Thr => x) (fun _ => rfl) J Jd hm h hJ (fun seen k F X w hl hJ h => step seen k F X w (by simpa using hl) hJ h) fin fin2
  refine S_SortedKeysS (fv := ⟨.func n_maps_Keys_map_string_shelf_thing_api_Route_string__801b, #[], #[.pointer (some ⟨c, 0, none⟩)]⟩) hY h (by simpa using hn) fun v s' w hr h => hk v s' w hr ?_
  have h := fr1_ h
  exact St.again (i + 1) (E := s' :: E) hi h
def namesR (m : List (ByteArray × AThr)) : List ByteArray := (ssort (m.map (·.1))).filter fun n => (rget m n).is
theorem Y_namesR {c b r : Nat} {Q : List RtE} {sm : Seg} (hm : MpS Value.string vThr r (Q.map RtE.kt) sm) (hn : Q.length < 1000000000) :
    YldX Pr w0 [[Cl c T_p_shelf_rack_api_Route [.pointer (some ⟨b, 0, none⟩)]], [Cl b T_shelf_rack_api_Route [.map (some r), .func (.func n_spec_SameRoute) #[] #[]]], sm]
      (.func (.func n_shelf_rack_api_Route_names_1) #[] #[.pointer (some ⟨c, 0, none⟩)]) (namesR (Q.map RtE.ka)).length fun i => TV _ (argS (namesR (Q.map RtE.ka)) i) := by
  intro yv R J Jd G w h hJ step fin fin2
  refine ⟨E_shelf_rack_api_Route_names_1, C_shelf_rack_api_Route_names_1 yv ⟨c, 0, none⟩ ?_⟩
  unfold F_shelf_rack_api_Route_names_1
  have h : St w0 ([Cl c T_p_shelf_rack_api_Route [.pointer (some ⟨b, 0, none⟩)]] :: [Cl b T_shelf_rack_api_Route [.map (some r), .func (.func n_spec_SameRoute) #[] #[]]] :: sm :: G) w := h
  ((try dsimp only [setN] at h); repeat (first | refine nn ?_ | (refine dr h ?_; clear h; (try clear w); intro w h) | refine ldC h ?_ | refine laC h ?_ | refine ckC h ?_ | (refine stC h ?_; clear h; (try clear w); intro w h; (try dsimp only [putN, setN] at h))))
  refine S_KRt h 2 rfl hm (by simpa using hn) fun v s w hrow h => ?_
  have ek : (Q.map RtE.kt).map (·.1) = (Q.map RtE.ka).map (·.1) := by simp [List.map_map, Function.comp_def]
  rw [ek] at hrow
  unfold namesR at *
  have hlen := Rw.len encS hrow
  have hl : (ssort ((Q.map RtE.ka).map (·.1))).length < 1000000000 := by rw [ssort_len, List.length_map, List.length_map]; exact hn
  have hpp : ∀ n, (lget Q n).t.is = (rget (Q.map RtE.ka) n).is := fun n => by rw [lget_a]; rfl
  generalize ssort ((Q.map RtE.ka).map (·.1)) = l at *
  refine loop_of (fun q y w => ∃ (j : Nat) (G : List Seg), @Eq Int y.1 j ∧ q + j = l.length ∧ J ((l.take j).filter fun n => (rget (Q.map RtE.ka) n).is).length G ∧
    St w0 (s :: [Cl c T_p_shelf_rack_api_Route [.pointer (some ⟨b, 0, none⟩)]] :: [Cl b T_shelf_rack_api_Route [.map (some r), .func (.func n_spec_SameRoute) #[] #[]]] :: sm :: G) w) l.length ⟨0, G, rfl, rfl, hJ, h⟩ ?_
  clear hJ
  clear h; (try clear w)
  rintro q ⟨y, ⟨⟩⟩ w ⟨j, G, hy, hq, hJ, h⟩ again hag
  simp only at hy
  subst hy
  refine it (fun hb => ?_) (fun hb => ?_) <;> (try simp only [decide_eq_true_eq, decide_eq_false_iff_not, beq_iff_eq, bne_iff_ne, beq_eq_false_iff_ne, bne_eq_false_iff_eq, Bool.not_eq_true', Bool.not_eq_false', ne_eq, Bool.not_eq_true, Bool.not_eq_false] at hb)
  · have hj : j < l.length := by omega
    have hx : l[j]? = some l[j] := List.getElem?_eq_getElem hj
    have hft := filt_take (p := fun n => (rget (Q.map RtE.ka) n).is) hx
    have next : ∀ {G w}, J ((l.take (j + 1)).filter fun n => (rget (Q.map RtE.ka) n).is).length G → St w0 (s :: [Cl c T_p_shelf_rack_api_Route [.pointer (some ⟨b, 0, none⟩)]] :: [Cl b T_shelf_rack_api_Route [.map (some r), .func (.func n_spec_SameRoute) #[] #[]]] :: sm :: G) w → again (IntKind.wrap .i64 ((j : Int) + 1), ()) w := by
      intro G w hJ h
      refine hag (q - 1) _ w (by omega) ⟨j + 1, G, ?_, by omega, hJ, h⟩
      show IntKind.wrap .i64 _ = _
      rw [wr (by omega) (by omega)]; omega
    refine jd ?_
    refine Rw.ix encS hrow (by omega) (by simpa using hj) fun a ha => ?_
    refine Rw.ld0 encS h 0 rfl hrow ha (x := l[j]) (by simp [hj]) rfl rfl ?_
    ((try dsimp only [setN] at h); repeat (first | refine nn ?_ | (refine dr h ?_; clear h; (try clear w); intro w h) | refine ldC h ?_ | refine laC h ?_ | refine ckC h ?_ | (refine stC h ?_; clear h; (try clear w); intro w h; (try dsimp only [putN, setN] at h))))
    refine rlook h 3 rfl hm ?_
    refine it (fun hc => ?_) (fun hc => ?_) <;> (try simp only [decide_eq_true_eq, decide_eq_false_iff_not, beq_iff_eq, bne_iff_ne, beq_eq_false_iff_ne, bne_eq_false_iff_eq, Bool.not_eq_true', Bool.not_eq_false', ne_eq, Bool.not_eq_true, Bool.not_eq_false] at hc)
    · have hc : (rget (Q.map RtE.ka) l[j]).is = true := (hpp _).symm.trans hc
      rw [if_pos hc] at hft
      have hat := filt_at (p := fun n => (rget (Q.map RtE.ka) n).is) hx hc
      have hlt := (List.getElem?_eq_some_iff.1 hat).1
      have step := step _ G [s] w hlt hJ (St.toEnd (X := [s]) (A := [_, _, _]) h)
      simp only [argS_at hat] at step
      refine cv (FCall.mono step fun u w' hu => ?_)
      rcases hu with ⟨rfl, G', h, hJ⟩ | ⟨rfl, hd⟩
      · exact ⟨true, rfl, itF rfl (next (by rw [hft]; exact hJ) (St.ofEnd (X := [s]) (A := [_, _, _]) h))⟩
      · exact ⟨false, rfl, itT rfl (fin2 w' hd)⟩
    · have hc : ¬ (rget (Q.map RtE.ka) l[j]).is = true := by rw [← hpp]; simp only [Thr.is]; rw [hc]; simp
      rw [if_neg hc, Nat.add_zero] at hft
      exact next (by rw [hft]; exact hJ) h
  · have e : j = l.length := by omega
    subst e
    rw [List.take_length] at hJ
    exact fin G w hJ (dl0_ h)
end Go.Proofs.YtpnbgpolbjbhpaaGreatDoor
