/- Contracts of functions, and walks of laws (text Ug). No conditions beyond those its theorems state. -/
import Derived.Test.YtpnbgpolbjbhpaaGreatDoorTd
import Derived.Test.YtpnbgpolbjbhpaaGreatDoorSh
set_option linter.all false
namespace Go.Proofs.YtpnbgpolbjbhpaaGreatDoor
open Go.Dm
attribute [local irreducible] L.load L.store L.chk L.new L.nonnil L.guard L.ite L.draw L.idx L.sem L.semR L.semU L.chkSem L.next L.call L.callV L.join L.alts L.loop L.begin L.endRound L.range
variable {w0 w : World} {E : List Seg} {A B : Seg}
/-! ### routes that may be, of numbers -/
abbrev wI (n : Int) : Int := IntKind.wrap .i64 n
def rname (n : Int) : ByteArray := ([s_front, s_back, s_r_1][(n % 3).toNat]?).getD s_
theorem ix3 {b : Nat} {i : Int} {kk : Addr → PT} (h0 : 0 ≤ i) (h1 : i < 3) (hk : kk ⟨b, i.toNat, none⟩ w) : L.idx (some ⟨b, 0, none⟩) i 3 1 kk w := by
  refine ix h0 h1 ?_
  rw [add_none, Nat.zero_add, Nat.mul_one]; exact hk
theorem ld3 (h : St w0 E w) {b T o : Nat} {cs : List Value} {x : ByteArray} {k : ByteArray → PT} (i : Nat) (hi : nth E i = some [Cl b T cs]) (hv : nth cs o = some (.string x)) (hk : k x w) : L.load (.one .str) ⟨b, o, none⟩ k w := ld (l := .str) h i hi hv hk
theorem ck3 (h : St w0 E w) {b T o : Nat} {cs : List Value} {x : ByteArray} {k : PT} (i : Nat) (hi : nth E i = some [Cl b T cs]) (hv : nth cs o = some (.string x)) (hk : k w) : L.chk ⟨b, o, none⟩ [.string x] k w := ck h i hi hv hk
def lcount (ns : List Int) : Int := match ns with
  | [] => 1
  | x :: _ => 1 + x % 6
def lk (ns : List Int) (i : Nat) : Int := (ns[i + 1]?).getD i
def lrev (cfg : ByteArray) (k : Int) : ByteArray := if 0 < wI (Int.tdiv k 101) % 3 then revB cfg (wI (Int.tdiv k 303) % 4 + 1).toNat else s_
def ltag (k : Int) (i : Nat) : ByteArray := if wI (Int.tdiv k 1212) % 3 = 0 then s_t ++ ⟨#[UInt8.ofNat (48 + i)]⟩ else s_
def lpct (n : Int) (k left : Int) (i : Nat) : Int := if (i : Int) = n - 1 then left else k % (left + 1)
def ltg (ns : List Int) (cfg : ByteArray) (n : Int) : Nat → List Tgt × Int
  | 0 => ([], 100)
  | i + 1 => ((ltg ns cfg n i).1 ++ [(lrev cfg (lk ns i), ltag (lk ns i) i, lpct n (lk ns i) (ltg ns cfg n i).2 i, ())], (ltg ns cfg n i).2 - lpct n (lk ns i) (ltg ns cfg n i).2 i)
def lroute (name : Int) (ns : List Int) (roll : Int) : ARt := ⟨rname name, lname (wI (Int.tdiv name 3)), (ltg ns (lname (wI (Int.tdiv name 3))) (lcount ns) (lcount ns).toNat).1, roll % 61⟩
theorem ltg_len (ns : List Int) (cfg : ByteArray) (n : Int) : ∀ i, (ltg ns cfg n i).1.length = i
  | 0 => rfl
  | i + 1 => by simp [ltg, ltg_len ns cfg n i]
theorem ltg_left (ns : List Int) (cfg : ByteArray) (n : Int) : ∀ i, 0 ≤ (ltg ns cfg n i).2 ∧ (ltg ns cfg n i).2 ≤ 100
  | 0 => by simp [ltg]
  | i + 1 => by
    have h := ltg_left ns cfg n i
    have h1 := Int.emod_nonneg (lk ns i) (show (ltg ns cfg n i).2 + 1 ≠ 0 by omega)
    have h2 := Int.emod_lt_of_pos (lk ns i) (show 0 < (ltg ns cfg n i).2 + 1 by omega)
    simp only [ltg, lpct]
    split <;> omega
theorem lcount_ok (ns : List Int) : 1 ≤ lcount ns ∧ lcount ns ≤ 6 := by
  unfold lcount
  split
  · omega
  · rename_i x _
    have h1 := Int.emod_nonneg x (by decide : (6 : Int) ≠ 0)
    have h2 := Int.emod_lt_of_pos x (by decide : (0 : Int) < 6)
    omega
theorem byU : ∀ n : Fin 10, IntKind.wrap .u8 (IntKind.wrap .i64 (48 + (n : Int))) = ((UInt8.ofNat (48 + n.val)).toNat : Int) := by decide
theorem dig1 {g : Nat} (h : g < 10) : (⟨#[UInt8.ofNat (48 + g)]⟩ : ByteArray) = decB g := by
  have e := dec_eq (g := g) (by omega)
  unfold decL at e
  rw [if_pos h] at e
  unfold decB
  rw [e]
theorem und_su8' : Pr.underlying T_s_uint8 = some (.slice T_uint8) := by kernel_rfl
theorem und_u8' : Pr.underlying T_uint8 = some (.int .u8) := by kernel_rfl
/-- string([]byte{byte('0' + x)}) -/
theorem digU (h : St w0 E w) {y : Int} {g : Nat} (hg : g < 10) (hy : y = 48 + (g : Int)) {k : ByteArray → PT} (hk : ∀ w', St w0 E w' → k (decB g) w') :
    (L.new [.int .u8 (IntKind.wrap .u8 (IntKind.wrap .i64 y))] T_uint8 fun b => L.sem Pr (.one (.one (.str))) (convert T_s_uint8 T_string (.slice (some ⟨b, 0, none⟩) 1 1)) k) w := by
  have e : IntKind.wrap .u8 (IntKind.wrap .i64 y) = ((UInt8.ofNat (48 + g)).toNat : Int) := by rw [hy]; exact byU ⟨g, hg⟩
  rw [e]
  refine nw h ?_; clear h; (try clear w); intro b w h
  have hr : Rw eU T_uint8 1 ⟨some ⟨b, 0, none⟩, 1, 1⟩ [UInt8.ofNat (48 + g)] [Cl b T_uint8 [.int .u8 ((UInt8.ofNat (48 + g)).toNat : Int)]] := Rw.lit b [UInt8.ofNat (48 + g)] encU rfl rfl (by simp [maxLen])
  refine cvBS und_su8' und_u8' und_str (Rw.rd encU h 0 rfl hr) ?_
  have e2 : (⟨([UInt8.ofNat (48 + g)] : List UInt8).toArray⟩ : ByteArray) = decB g := dig1 hg
  rw [e2]
  exact hk w (dl0_ h)
theorem digU1 (h : St w0 (A :: B :: E) w) {d T : Nat} {cs : List Value} {x : ByteArray} (hB : B = [Cl d T cs]) (hx : nth cs 1 = some (.string x)) {y : Int} {g : Nat} (hg : g < 10) (hy : y = 48 + (g : Int)) {k : ByteArray → PT} (hk : ∀ w', St w0 (A :: B :: E) w' → k (decB g) w') :
    (L.new [.int .u8 (IntKind.wrap .u8 (IntKind.wrap .i64 y))] T_uint8 fun b => L.chk ((⟨d, 0, none⟩ : Addr).add 1) [.string x] <| L.sem Pr (.one (.one (.str))) (convert T_s_uint8 T_string (.slice (some ⟨b, 0, none⟩) 1 1)) fun s => L.chk ((⟨d, 0, none⟩ : Addr).add 1) [.string x] <| k s) w := by
  have e : IntKind.wrap .u8 (IntKind.wrap .i64 y) = ((UInt8.ofNat (48 + g)).toNat : Int) := by rw [hy]; exact byU ⟨g, hg⟩
  rw [e]
  subst hB
  refine nw h ?_; clear h; (try clear w); intro b w h
  have hr : Rw eU T_uint8 1 ⟨some ⟨b, 0, none⟩, 1, 1⟩ [UInt8.ofNat (48 + g)] [Cl b T_uint8 [.int .u8 ((UInt8.ofNat (48 + g)).toNat : Int)]] := Rw.lit b [UInt8.ofNat (48 + g)] encU rfl rfl (by simp [maxLen])
  rw [add_none, Nat.zero_add]
  refine ck3 h 2 rfl hx ?_
  refine cvBS und_su8' und_u8' und_str (Rw.rd encU h 0 rfl hr) ?_
  have e2 : (⟨([UInt8.ofNat (48 + g)] : List UInt8).toArray⟩ : ByteArray) = decB g := dig1 hg
  rw [e2]
  refine ck3 h 2 rfl hx ?_
  exact hk w (dl0_ h)
end Go.Proofs.YtpnbgpolbjbhpaaGreatDoor
namespace Go.Proofs.YtpnbgpolbjbhpaaGreatDoor
open Go.Dm
attribute [local irreducible] L.load L.store L.chk L.new L.nonnil L.guard L.ite L.draw L.idx L.sem L.semR L.semU L.chkSem L.next L.call L.callV L.join L.alts L.loop L.begin L.endRound L.range
variable {w0 w : World} {E : List Seg}
set_option maxHeartbeats 4000000 in
theorem S_lRoute (h : St w0 E w) {name roll : Int} {p1 : Sl} {ns : List Int} (rd : RdE w0 E eI p1 ns) {k : eRt.T → PT}
    (hk : ∀ v sv w', Rw eT T_api_Target 3 v (lroute name ns roll).ts sv → St w0 (sv :: E) w' → k ((lroute name ns roll).name, (lroute name ns roll).cfg, v, (lroute name ns roll).roll, ()) w') :
    L.call Pr n_damperlaw2_Route [I name, .slice p1.a p1.len p1.cap, I roll] (.one eRt) k w := by
  refine call_of (C_damperlaw2_Route name p1 roll) ?_
  unfold F_damperlaw2_Route
  obtain ⟨nm, hnm⟩ : ∃ x, x = rname name := ⟨_, rfl⟩
  obtain ⟨cf, hcf⟩ : ∃ x, x = lname (wI (Int.tdiv name 3)) := ⟨_, rfl⟩
  have hl := (rd w h).len
  refine nw h ?_; clear h; (try clear w); intro b1 w h
  refine join_of (fun z w => ∃ d, z = (⟨d, 0, none⟩, ()) ∧ St w0 ([Cl d T_api_Route [.string nm, .string cf, .slice none 0 0, I (roll % 61)]] :: [Cl b1 T_api_Route [.string s_, .string s_, .slice none 0 0, I 0]] :: E) w) (fun k2 hk2 => ?_) ?_
  · clear hk rd
    obtain ⟨i1, hi1⟩ : ∃ x, x = name % 3 := ⟨_, rfl⟩
    obtain ⟨i2, hi2⟩ : ∃ x, x = wI (Int.tdiv name 3) % 3 := ⟨_, rfl⟩
    obtain ⟨i3, hi3⟩ : ∃ x, x = roll % 61 := ⟨_, rfl⟩
    have a1 : 0 ≤ i1 ∧ i1 < 3 := by omega
    have a2 : 0 ≤ i2 ∧ i2 < 3 := by omega
    have n1 : nth [Value.string s_front, .string s_back, .string s_r_1] i1.toNat = some (.string nm) := by
      rw [hnm]; unfold rname; rw [← hi1]
      have : i1 = 0 ∨ i1 = 1 ∨ i1 = 2 := by omega
      rcases this with h | h | h <;> rw [h] <;> rfl
    have n2 : nth [Value.string s_web, .string s_api, .string s_a_b] i2.toNat = some (.string cf) := by
      rw [hcf]; unfold lname; rw [← hi2]
      have : i2 = 0 ∨ i2 = 1 ∨ i2 = 2 := by omega
      rcases this with h | h | h <;> rw [h] <;> rfl
    have w1 : ∀ {w} {k : Int → PT}, k i1 w → L.call Pr n_damperlaw2_within [.int .i64 name, .int .i64 3] (.one (.one (.int .i64))) k w := fun hk => S_within2 (by decide) (by decide) (by rw [← hi1]; exact hk)
    have w2 : ∀ {w} {k : Int → PT}, k i2 w → L.call Pr n_damperlaw2_within [.int .i64 (IntKind.wrap .i64 (Int.tdiv name 3)), .int .i64 3] (.one (.one (.int .i64))) k w := fun hk => S_within2 (by decide) (by decide) (by have := hk; rw [hi2] at this; exact this)
    have w3 : ∀ {w} {k : Int → PT}, k i3 w → L.call Pr n_damperlaw2_within [.int .i64 roll, .int .i64 61] (.one (.one (.int .i64))) k w := fun hk => S_within2 (by decide) (by decide) (by rw [← hi3]; exact hk)
    rw [← hi3] at hk2
    clear hi1 hi2 hi3 hnm hcf
    have f0 : ∀ {d x y w}, St w0 ([Cl d T_api_Route [.string nm, .string cf, .slice none 0 0, I i3]] :: x :: y :: [Cl b1 T_api_Route [.string s_, .string s_, .slice none 0 0, I 0]] :: E) w → k2 (⟨d, 0, none⟩, ()) w := fun h => hk2 _ _ ⟨_, rfl, dl1_ (dl1_ h)⟩
    have f1 : ∀ {d x y w}, St w0 (x :: [Cl d T_api_Route [.string nm, .string cf, .slice none 0 0, I i3]] :: y :: [Cl b1 T_api_Route [.string s_, .string s_, .slice none 0 0, I 0]] :: E) w → k2 (⟨d, 0, none⟩, ()) w := fun h => f0 (fr1_ h)
    have f2 : ∀ {d x y w}, St w0 (x :: y :: [Cl d T_api_Route [.string nm, .string cf, .slice none 0 0, I i3]] :: [Cl b1 T_api_Route [.string s_, .string s_, .slice none 0 0, I 0]] :: E) w → k2 (⟨d, 0, none⟩, ()) w := fun h => f0 (fr2_ h)
    refine dr h ?_; clear h; clear w; intro w h
    refine gd (by decide) ?_
    (repeat' (first
      | refine ck3 h 0 rfl n1 ?_ | refine ck3 h 0 rfl n2 ?_ | refine ck3 h 1 rfl n1 ?_ | refine ck3 h 1 rfl n2 ?_ | refine ck3 h 2 rfl n1 ?_ | refine ck3 h 2 rfl n2 ?_
      | refine ld3 h 0 rfl n1 ?_ | refine ld3 h 0 rfl n2 ?_ | refine ld3 h 1 rfl n1 ?_ | refine ld3 h 1 rfl n2 ?_ | refine ld3 h 2 rfl n1 ?_ | refine ld3 h 2 rfl n2 ?_
      | refine altsC ?_ ?_ | exact altsN
      | refine ix3 a1.1 a1.2 ?_ | refine ix3 a2.1 a2.2 ?_
      | refine w1 ?_ | refine w2 ?_ | refine w3 ?_
      | (refine nw h ?_; clear h; clear w; intro d_ w h)
      | (first | refine st0_ h rfl rfl ?_ | refine st1_ h rfl rfl ?_ | refine st2_ h rfl rfl ?_); clear h; clear w; intro w h; (try dsimp only [putN, setN] at h)))
    all_goals first | exact f0 h | exact f1 h | exact f2 h
  · clear h; (try clear w)
    rintro z w ⟨d, rfl, h⟩
    obtain ⟨n, hn⟩ : ∃ x, x = lcount ns := ⟨_, rfl⟩
    have hn6 := lcount_ok ns
    rw [← hn] at hn6
    refine join_of (fun z w => z = (n, ()) ∧ St w0 ([Cl d T_api_Route [.string nm, .string cf, .slice none 0 0, I (roll % 61)]] :: [Cl b1 T_api_Route [.string s_, .string s_, .slice none 0 0, I 0]] :: E) w) (fun k2 hk2 => ?_) ?_
    · cases ns with
      | nil =>
        simp only [List.length_nil] at hl
        have : n = 1 := hn
        subst this
        exact itF (decide_eq_false (by omega)) (hk2 _ w ⟨rfl, h⟩)
      | cons x ns =>
        simp only [List.length_cons] at hl
        refine itT (decide_eq_true (by omega)) ?_
        have r := rd w (dl0_ (dl0_ h))
        refine rd1 r encI (lf := .int .i64) (fun x => x) (fun x => ⟨_, rfl, rfl⟩) (by omega) (by omega) fun y hy => ?_
        have : y = x := by simpa using hy.symm
        subst this
        refine S_within2 (by decide) (by decide) ?_
        have : n = 1 + y % 6 := hn
        rw [wr (by omega) (by omega), ← this]
        exact hk2 _ w ⟨rfl, h⟩
    · clear h; (try clear w)
      rintro z w ⟨rfl, h⟩
      dsimp only
      refine loop_of (fun q y w => ∃ (i : Nat) (v : Sl) (sv : Seg), y = ((ltg ns cf n i).2, (i : Int), ()) ∧ (q : Int) + i = n ∧ Rw eT T_api_Target 3 v (ltg ns cf n i).1 sv ∧
        St w0 ([Cl d T_api_Route [.string nm, .string cf, .slice v.a v.len v.cap, I (roll % 61)]] :: sv :: [Cl b1 T_api_Route [.string s_, .string s_, .slice none 0 0, I 0]] :: E) w) n.toNat ⟨0, ⟨none, 0, 0⟩, [], rfl, by omega, Rw.nil, h.eq (by simp)⟩ ?_
      clear h; (try clear w)
      rintro q y w ⟨i, v, sv, rfl, hq, hv, h⟩ again hag
      dsimp only
      refine it (fun hb => ?_) (fun hb => ?_) <;> (try simp only [decide_eq_true_eq, decide_eq_false_iff_not, beq_iff_eq, bne_iff_ne, beq_eq_false_iff_ne, bne_eq_false_iff_eq, Bool.not_eq_true', Bool.not_eq_false', ne_eq, Bool.not_eq_true, Bool.not_eq_false] at hb)
      · have hle := ltg_left ns cf n i
        have hlen := ltg_len ns cf n i
        have es : ltg ns cf n (i + 1) = ((ltg ns cf n i).1 ++ [(lrev cf (lk ns i), ltag (lk ns i) i, lpct n (lk ns i) (ltg ns cf n i).2 i, ())], (ltg ns cf n i).2 - lpct n (lk ns i) (ltg ns cf n i).2 i) := rfl
        obtain ⟨kk, hkk⟩ : ∃ x, x = lk ns i := ⟨_, rfl⟩
        rw [← hkk] at es
        have lp := ltg_left ns cf n (i + 1)
        rw [es] at lp
        simp only at lp
        generalize (ltg ns cf n i).1 = l at hv hlen es
        generalize (ltg ns cf n i).2 = left at hle es lp ⊢
        refine join_of (fun z w => z = (kk, ()) ∧ St w0 ([Cl d T_api_Route [.string nm, .string cf, .slice v.a v.len v.cap, I (roll % 61)]] :: sv :: [Cl b1 T_api_Route [.string s_, .string s_, .slice none 0 0, I 0]] :: E) w) (fun k2 hk2 => ?_) ?_
        · rw [wr (by omega) (by omega)]
          refine it (fun hc => ?_) (fun hc => ?_) <;> (try simp only [decide_eq_true_eq, decide_eq_false_iff_not, beq_iff_eq, bne_iff_ne, beq_eq_false_iff_ne, bne_eq_false_iff_eq, Bool.not_eq_true', Bool.not_eq_false', ne_eq, Bool.not_eq_true, Bool.not_eq_false] at hc)
          · have r := rd w (dl0_ (dl0_ (dl0_ h)))
            refine rd1 r encI (lf := .int .i64) (fun x => x) (fun x => ⟨_, rfl, rfl⟩) (by omega) (by omega) fun y hy => ?_
            have : ((i : Int) + 1).toNat = i + 1 := by omega
            rw [this] at hy
            have : kk = y := by rw [hkk]; unfold lk; rw [hy]; rfl
            rw [← this]
            exact hk2 _ w ⟨rfl, h⟩
          · have : kk = i := by
              rw [hkk]; unfold lk
              rw [List.getElem?_eq_none (by omega)]; rfl
            rw [← this]
            exact hk2 _ w ⟨by rw [this], h⟩
        · clear h; (try clear w)
          rintro z w ⟨rfl, h⟩
          dsimp only
          rw [wr (by omega) (by omega)]
          refine S_within2 (by omega) (by omega) ?_
          refine nw h ?_; clear h; (try clear w); intro b7 w h
          ((try dsimp only [setN] at h); repeat (first | refine nn ?_ | (refine dr h ?_; clear h; (try clear w); intro w h) | refine ldC h ?_ | refine laC h ?_ | refine ckC h ?_ | (refine stC h ?_; clear h; (try clear w); intro w h; (try dsimp only [putN, setN] at h))))
          refine join_of (fun z w => St w0 ([Cl b7 T_api_Target [.string s_, .string s_, I (lpct n kk left i)]] :: [Cl d T_api_Route [.string nm, .string cf, .slice v.a v.len v.cap, I (roll % 61)]] :: sv :: [Cl b1 T_api_Route [.string s_, .string s_, .slice none 0 0, I 0]] :: E) w) (fun k2 hk2 => ?_) ?_
          · rw [wr (by omega) (by omega)]
            unfold lpct at hk2
            refine it (fun hc => ?_) (fun hc => ?_) <;> (try simp only [decide_eq_true_eq, decide_eq_false_iff_not, beq_iff_eq, bne_iff_ne, beq_eq_false_iff_ne, bne_eq_false_iff_eq, Bool.not_eq_true', Bool.not_eq_false', ne_eq, Bool.not_eq_true, Bool.not_eq_false] at hc)
            · ((try dsimp only [setN] at h); repeat (first | refine nn ?_ | (refine dr h ?_; clear h; (try clear w); intro w h) | refine ldC h ?_ | refine laC h ?_ | refine ckC h ?_ | (refine stC h ?_; clear h; (try clear w); intro w h; (try dsimp only [putN, setN] at h))))
              rw [if_pos hc] at hk2
              exact hk2 _ w h
            · rw [if_neg hc] at hk2
              exact hk2 _ w h
          · clear h; (try clear w)
            rintro z w h
            refine join_of (fun z w => St w0 ([Cl b7 T_api_Target [.string (lrev cf kk), .string s_, I (lpct n kk left i)]] :: [Cl d T_api_Route [.string nm, .string cf, .slice v.a v.len v.cap, I (roll % 61)]] :: sv :: [Cl b1 T_api_Route [.string s_, .string s_, .slice none 0 0, I 0]] :: E) w) (fun k2 hk2 => ?_) ?_
            · refine gd (by decide) ?_
              refine S_within2 (by decide) (by decide) ?_
              unfold lrev at hk2
              refine it (fun hc => ?_) (fun hc => ?_) <;> (try simp only [decide_eq_true_eq, decide_eq_false_iff_not, beq_iff_eq, bne_iff_ne, beq_eq_false_iff_ne, bne_eq_false_iff_eq, Bool.not_eq_true', Bool.not_eq_false', ne_eq, Bool.not_eq_true, Bool.not_eq_false] at hc)
              · ((try dsimp only [setN] at h); repeat (first | refine nn ?_ | (refine dr h ?_; clear h; (try clear w); intro w h) | refine ldC h ?_ | refine laC h ?_ | refine ckC h ?_ | (refine stC h ?_; clear h; (try clear w); intro w h; (try dsimp only [putN, setN] at h))))
                have hcs : cf.size ≤ 16 := by
                  have := short_size (m := 16) (s := cf) (by rw [hcf]; exact lname_ok _)
                  omega
                have hs1 : s__.size = 1 := rfl
                have h1 := Int.emod_nonneg (wI (Int.tdiv kk 303)) (by decide : (4 : Int) ≠ 0)
                have h2 := Int.emod_lt_of_pos (wI (Int.tdiv kk 303)) (by decide : (0 : Int) < 4)
                rw [if_pos hc] at hk2
                refine gd (by rw [hs1]; simp only [maxI64]; omega) (gd (by decide) ?_)
                refine S_within2 (by decide) (by decide) ?_
                have hg : ∃ g : Nat, g = (wI (Int.tdiv kk 303) % 4 + 1).toNat ∧ g < 10 ∧ wI (Int.tdiv kk 303) % 4 = (g : Int) - 1 := ⟨_, rfl, by omega, by omega⟩
                obtain ⟨g, hge, hg10, hg4⟩ := hg
                rw [← hge] at hk2
                (refine ckC h ?_)
                (refine ckC h ?_)
                refine digU1 h rfl rfl hg10 (y := 49 + wI (Int.tdiv kk 303) % 4) (by omega) fun w h => ?_
                have hr := rev_size cf (g := g) (by omega)
                refine gd ?_ ?_
                · have : ((cf ++ s__).size + (decB g).size) = (revB cf g).size := by unfold revB; rw [ByteArray.size_append (a := cf ++ s__)]
                  rw [this]; simp only [maxI64]; omega
                · ((try dsimp only [setN] at h); repeat (first | refine nn ?_ | (refine dr h ?_; clear h; (try clear w); intro w h) | refine ldC h ?_ | refine laC h ?_ | refine ckC h ?_ | (refine stC h ?_; clear h; (try clear w); intro w h; (try dsimp only [putN, setN] at h))))
                  exact hk2 _ w h
              · rw [if_neg hc] at hk2
                exact hk2 _ w h
            · clear h; (try clear w)
              rintro z w h
              refine join_of (fun z w => St w0 ([Cl b7 T_api_Target [.string (lrev cf kk), .string (ltag kk i), I (lpct n kk left i)]] :: [Cl d T_api_Route [.string nm, .string cf, .slice v.a v.len v.cap, I (roll % 61)]] :: sv :: [Cl b1 T_api_Route [.string s_, .string s_, .slice none 0 0, I 0]] :: E) w) (fun k2 hk2 => ?_) ?_
              · refine gd (by decide) ?_
                refine S_within2 (by decide) (by decide) ?_
                unfold ltag at hk2
                refine it (fun hc => ?_) (fun hc => ?_) <;> (try simp only [decide_eq_true_eq, decide_eq_false_iff_not, beq_iff_eq, bne_iff_ne, beq_eq_false_iff_ne, bne_eq_false_iff_eq, Bool.not_eq_true', Bool.not_eq_false', ne_eq, Bool.not_eq_true, Bool.not_eq_false] at hc)
                · rw [if_pos hc, dig1 (by omega)] at hk2
                  refine digU (g := i) h (by omega) rfl fun w h => ?_
                  refine gd ?_ ?_
                  · have h1 : s_t.size = 1 := rfl
                    have h2 := (dec_ok (g := i) (by omega)).2.1
                    have h3 : (decB i).size = (Lib.decDigits i).length := by rw [← size_list]; rfl
                    rw [h1, h3]; simp only [maxI64]; omega
                  · ((try dsimp only [setN] at h); repeat (first | refine nn ?_ | (refine dr h ?_; clear h; (try clear w); intro w h) | refine ldC h ?_ | refine laC h ?_ | refine ckC h ?_ | (refine stC h ?_; clear h; (try clear w); intro w h; (try dsimp only [putN, setN] at h))))
                    exact hk2 _ w h
                · rw [if_neg hc] at hk2
                  exact hk2 _ w h
              · clear h; (try clear w)
                rintro z w h
                ((try dsimp only [setN] at h); repeat (first | refine nn ?_ | (refine dr h ?_; clear h; (try clear w); intro w h) | refine ldC h ?_ | refine laC h ?_ | refine ckC h ?_ | (refine stC h ?_; clear h; (try clear w); intro w h; (try dsimp only [putN, setN] at h))))
                refine nw h ?_; clear h; (try clear w); intro b9 w h
                refine Rw.app encT elT h 2 rfl hv (lrev cf kk, ltag kk i, lpct n kk left i, ()) rfl (by omega) (by omega) fun v' s' w hv' h => ?_
                have h : St w0 ([Cl b7 T_api_Target [.string (lrev cf kk), .string (ltag kk i), I (lpct n kk left i)]] :: [Cl d T_api_Route [.string nm, .string cf, .slice v.a v.len v.cap, I (roll % 61)]] :: s' :: [Cl b1 T_api_Route [.string s_, .string s_, .slice none 0 0, I 0]] :: E) w := h
                ((try dsimp only [setN] at h); repeat (first | refine nn ?_ | (refine dr h ?_; clear h; (try clear w); intro w h) | refine ldC h ?_ | refine laC h ?_ | refine ckC h ?_ | (refine stC h ?_; clear h; (try clear w); intro w h; (try dsimp only [putN, setN] at h))))
                rw [wr (by omega) (by omega), wr (by omega) (by omega)]
                refine hag (q - 1) _ w (by omega) ⟨i + 1, v', s', by rw [es]; simp, by omega, by rw [es]; exact hv', dl0_ h⟩
      · have hi : i = (lcount ns).toNat := by omega
        subst hi
        ((try dsimp only [setN] at h); repeat (first | refine nn ?_ | (refine dr h ?_; clear h; (try clear w); intro w h) | refine ldC h ?_ | refine laC h ?_ | refine ckC h ?_ | (refine stC h ?_; clear h; (try clear w); intro w h; (try dsimp only [putN, setN] at h))))
        have e : lroute name ns roll = ⟨nm, cf, (ltg ns cf n (lcount ns).toNat).1, roll % 61⟩ := by unfold lroute; rw [← hnm, ← hcf, ← hn]
        rw [e] at hk
        refine ⟨(nm, cf, v, roll % 61, ()), rfl, hk v sv w hv ?_⟩
        have h := dl0_ h
        exact dl1_ h
end Go.Proofs.YtpnbgpolbjbhpaaGreatDoor
namespace Go.Proofs.YtpnbgpolbjbhpaaGreatDoor
open Go.Dm
/-! ### routes of numbers may be -/
theorem three {P : Int → Prop} (n : Int) (h0 : P 0) (h1 : P 1) (h2 : P 2) : P (n % 3) := by
  have h1' := Int.emod_nonneg n (by decide : (3 : Int) ≠ 0)
  have h2' := Int.emod_lt_of_pos n (by decide : (0 : Int) < 3)
  have : n % 3 = 0 ∨ n % 3 = 1 ∨ n % 3 = 2 := by omega
  rcases this with h | h | h <;> rw [h] <;> assumption
theorem rname_ok (n : Int) : shortB (rname n).data.toList 16 = true := three (P := fun i => shortB (([s_front, s_back, s_r_1][i.toNat]?).getD s_).data.toList 16 = true) n (by decide) (by decide) (by decide)
theorem lrev_ok {cfg : ByteArray} (hc : shortB cfg.data.toList 16 = true) (k : Int) : revOk (lrev cfg k) := by
  unfold lrev
  split
  · have h1 := Int.emod_nonneg (wI (Int.tdiv k 303)) (by decide : (4 : Int) ≠ 0)
    have h2 := Int.emod_lt_of_pos (wI (Int.tdiv k 303)) (by decide : (0 : Int) < 4)
    exact .inr ⟨cfg, _, hc, by omega, by omega, rfl⟩
  · exact .inl rfl
theorem tagD : ∀ i : Fin 10, shortB ((s_t ++ ⟨#[UInt8.ofNat (48 + i.val)]⟩ : ByteArray).data.toList) 8 = true ∧ (s_t ++ ⟨#[UInt8.ofNat (48 + i.val)]⟩ : ByteArray) ≠ s_ := by decide +kernel
theorem tagInj : ∀ i j : Fin 10, (s_t ++ ⟨#[UInt8.ofNat (48 + i.val)]⟩ : ByteArray) = s_t ++ ⟨#[UInt8.ofNat (48 + j.val)]⟩ → i = j := by decide +kernel
theorem ltag_ok (k : Int) {i : Nat} (h : i < 10) : tagBad (ltag k i) = false := by
  unfold ltag tagBad
  split
  · rw [(tagD ⟨i, h⟩).1]; simp
  · simp
theorem ltag_inj {k k' : Int} {i j : Nat} (hi : i < 10) (hj : j < 10) (h : ltag k i = ltag k' j) (hne : ltag k i ≠ s_) : i = j := by
  unfold ltag at h hne
  split at h
  · split at h
    · exact congrArg Fin.val (tagInj ⟨i, hi⟩ ⟨j, hj⟩ h)
    · exact ((tagD ⟨i, hi⟩).2 h).elim
  · rename_i hn
    rw [if_neg hn] at hne; exact (hne rfl).elim
theorem ltg_get (ns : List Int) (cfg : ByteArray) (n : Int) : ∀ (m j : Nat), j < m → (ltg ns cfg n m).1[j]? = some (lrev cfg (lk ns j), ltag (lk ns j) j, lpct n (lk ns j) (ltg ns cfg n j).2 j, ())
  | 0, _, h => by omega
  | m + 1, j, h => by
    simp only [ltg]
    by_cases e : j < m
    · rw [List.getElem?_append_left (by rw [ltg_len]; exact e)]; exact ltg_get ns cfg n m j e
    · have : j = m := by omega
      subst this
      rw [List.getElem?_append_right (by rw [ltg_len]; exact Nat.le_refl _), ltg_len]; simp
theorem lpct_ok (n : Int) (k left : Int) (i : Nat) (h : 0 ≤ left ∧ left ≤ 100) : 0 ≤ lpct n k left i ∧ lpct n k left i ≤ left := by
  have h1 := Int.emod_nonneg k (show left + 1 ≠ 0 by omega)
  have h2 := Int.emod_lt_of_pos k (show 0 < left + 1 by omega)
  unfold lpct; split <;> omega
theorem ltg_sum (ns : List Int) (cfg : ByteArray) (n : Int) : ∀ m, ((ltg ns cfg n m).1.map pct).sum + (ltg ns cfg n m).2 = 100
  | 0 => rfl
  | m + 1 => by
    have := ltg_sum ns cfg n m
    simp only [ltg, List.map_append, List.sum_append, List.map_cons, List.map_nil, List.sum_cons, List.sum_nil]
    have e : pct (lrev cfg (lk ns m), ltag (lk ns m) m, lpct n (lk ns m) (ltg ns cfg n m).2 m, ()) = lpct n (lk ns m) (ltg ns cfg n m).2 m := rfl
    rw [e]
    omega
theorem ltg_mem {ns : List Int} {cfg : ByteArray} {n : Int} {m : Nat} {t : Tgt} (h : t ∈ (ltg ns cfg n m).1) : ∃ j, j < m ∧ (ltg ns cfg n m).1[j]? = some t ∧ t = (lrev cfg (lk ns j), ltag (lk ns j) j, lpct n (lk ns j) (ltg ns cfg n j).2 j, ()) := by
  obtain ⟨j, hj⟩ := List.mem_iff_getElem?.1 h
  have hl := (List.getElem?_eq_some_iff.1 hj).1
  rw [ltg_len] at hl
  refine ⟨j, hl, hj, ?_⟩
  rw [ltg_get ns cfg n m j hl] at hj
  exact (Option.some.inj hj).symm
theorem lroute_rev (name : Int) (ns : List Int) (roll : Int) : ∀ t ∈ (lroute name ns roll).ts, revOk t.1 := by
  intro t ht
  obtain ⟨j, -, -, rfl⟩ := ltg_mem ht
  exact lrev_ok (lname_ok _) _
theorem lroute_len (name : Int) (ns : List Int) (roll : Int) : 1 ≤ (lroute name ns roll).ts.length ∧ (lroute name ns roll).ts.length ≤ 6 := by
  have := lcount_ok ns
  have e : (lroute name ns roll).ts.length = (lcount ns).toNat := ltg_len ..
  omega
theorem lts_ok (ns : List Int) (cfg : ByteArray) : (∀ t ∈ (ltg ns cfg (lcount ns) (lcount ns).toNat).1, tgE t = 0) ∧ allE (ltg ns cfg (lcount ns) (lcount ns).toNat).1 = 0 := by
  have hc := lcount_ok ns
  constructor
  · intro t ht
    obtain ⟨j, hj, -, rfl⟩ := ltg_mem ht
    have hp := lpct_ok (lcount ns) (lk ns j) (ltg ns cfg (lcount ns) j).2 j (ltg_left ..)
    have hl := ltg_left ns cfg (lcount ns) j
    unfold tgE
    rw [if_neg (by simp [ltag_ok (lk ns j) (i := j) (by omega)]), if_pos]
    exact ⟨hp.1, Int.le_trans hp.2 hl.2⟩
  · unfold allE
    rw [if_neg, if_pos]
    · have := ltg_sum ns cfg (lcount ns) (lcount ns).toNat
      have e0 : (ltg ns cfg (lcount ns) (lcount ns).toNat).2 = 0 := by
        obtain ⟨m, hm⟩ : ∃ m, (lcount ns).toNat = m + 1 := ⟨(lcount ns).toNat - 1, by omega⟩
        rw [hm]
        simp only [ltg]
        unfold lpct
        rw [if_pos (by omega)]; omega
      omega
    · simp only [List.any_eq_true, List.mem_range, not_exists, not_and, Bool.not_eq_true]
      intro i hi
      rw [ltg_len] at hi
      unfold twiceAt
      rw [ltg_get _ _ _ _ i hi]
      simp only [Bool.and_eq_false_iff, Bool.not_eq_false', decide_eq_true_eq, List.any_eq_false]
      by_cases he : ltag (lk ns i) i = s_
      · exact .inl he
      · refine .inr fun t ht => ?_
        obtain ⟨j, hj⟩ := List.mem_iff_getElem?.1 ht
        rw [List.getElem?_take] at hj
        split at hj
        · rename_i hji
          rw [ltg_get _ _ _ _ j (by omega)] at hj
          cases hj
          simp only [decide_eq_true_eq]
          intro e
          have := ltag_inj (i := i) (j := j) (by omega) (by omega) e.symm he
          omega
        · cases hj
theorem find_none' {α : Type} {p : α → Bool} {l : List α} (h : ∀ x ∈ l, p x = false) : l.find? p = none := List.find?_eq_none.2 fun x hx => by simp [h x hx]
theorem specE_of {nm cf : ByteArray} {ts : List Tgt} {roll : Int} (h1 : shortB nm.data.toList 16 = true) (h2 : shortB cf.data.toList 16 = true) (h3 : 0 ≤ roll ∧ roll ≤ 60) (h4 : 1 ≤ ts.length ∧ ts.length ≤ 6) (h5 : ∀ t ∈ ts, tgE t = 0) (h6 : allE ts = 0) : specE ⟨nm, cf, ts, roll⟩ = 0 := by
  unfold specE
  rw [if_pos ⟨h1, h2⟩, if_pos h3, if_pos h4]
  rw [find_none' fun t ht => by simp [h5 t ht]]
  exact h6
theorem lroute_ok (name : Int) (ns : List Int) (roll : Int) : specE (lroute name ns roll) = 0 := by
  have h := lts_ok ns (lname (wI (Int.tdiv name 3)))
  have hl := lroute_len name ns roll
  have h1 := Int.emod_nonneg roll (by decide : (61 : Int) ≠ 0)
  have h2 := Int.emod_lt_of_pos roll (by decide : (0 : Int) < 61)
  exact specE_of (rname_ok _) (lname_ok _) (by omega) hl h.1 h.2
end Go.Proofs.YtpnbgpolbjbhpaaGreatDoor
