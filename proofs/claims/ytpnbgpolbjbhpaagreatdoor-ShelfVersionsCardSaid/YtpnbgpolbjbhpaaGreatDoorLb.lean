/- Contracts of functions, and walks of laws (text Lb). No conditions beyond those its theorems state. -/
import Derived.Test.YtpnbgpolbjbhpaaGreatDoorLa
import Derived.Test.YtpnbgpolbjbhpaaGreatDoorLt
set_option linter.all false
namespace Go.Proofs.YtpnbgpolbjbhpaaGreatDoor
open Go.Dm
theorem call_calls {P : Program} {f : FuncId} {args : List Value} {r : RT} {k : r.T → PT} {w : World} {R : Ending → World → Prop} (hc : Calls P f args.toArray w R) (hk : ∀ e w', R e w' → ∃ x, e = .returned (r.val x) ∧ k x w') : L.call P f args r k w := Calls.mono hc hk
theorem _root_.Go.Dm.St.bytes {w0 w : World} {E : List Seg} (h : St w0 E w) (e : TypeId) (s : ByteArray) : St w0 E (Lib.bytesWorld w e s) := by
  refine ⟨by rw [Lib.bytesWorld_size]; have := h.size; omega, fun b hb => ?_, h.os, h.out, h.tape, fun x hx => ?_, h.nd, fun _ _ _ _ => rfl⟩
  · rw [Lib.bytesWorld_at_old w e s b (Nat.lt_of_lt_of_le hb h.size)]; exact h.old b hb
  · have := h.own x hx
    rw [Lib.bytesWorld_at_old w e s _ (Array.getElem?_eq_some_iff.1 this.2).1]; exact this
attribute [local irreducible] L.load L.store L.chk L.new L.nonnil L.guard L.ite L.draw L.idx L.sem L.semR L.semU L.chkSem L.next L.call L.callV L.join L.alts L.loop L.begin L.endRound L.range
variable {w0 w : World} {E : List Seg}
/-! ### revisions' names -/
def decB (g : Nat) : ByteArray := ⟨(Lib.decDigits g).toArray⟩
def revB (c : ByteArray) (g : Nat) : ByteArray := (c ++ s__) ++ decB g
theorem data_revB (c : ByteArray) (g : Nat) : (revB c g).data.toList = c.data.toList ++ 45 :: Lib.decDigits g := by
  simp [revB, decB, s__, ByteArray.data_append]
theorem bytes_ext {a b : ByteArray} (h : a.data.toList = b.data.toList) : a = b := ByteArray.ext (Array.toList_inj.1 h)
theorem data_extract (a : ByteArray) (i j : Nat) : (a.extract i j).data.toList = (a.data.toList.drop i).take (j - i) := by
  simp [ByteArray.data_extract, Array.toList_extract, List.extract]
theorem size_list (a : ByteArray) : a.data.toList.length = a.size := by simp
def decL (g : Nat) : List UInt8 := if g < 10 then [UInt8.ofNat (48 + g)] else [UInt8.ofNat (48 + g / 10), UInt8.ofNat (48 + g % 10)]
theorem dec_eq {g : Nat} (h : g < 100) : Lib.decDigits g = decL g := by
  unfold decL
  split
  · rename_i h1; exact Lib.decDigits_one h1
  · rename_i h1; exact Lib.decDigits_two h1 h
theorem dec_facts : ∀ g : Fin 100, (∀ b ∈ decL g, 48 ≤ b.toNat ∧ b.toNat ≤ 57) ∧ (decL g).length ≤ 2 ∧ 1 ≤ (decL g).length ∧ Lib.atoi (decL g) = some (g : Int) := by decide
theorem dec_ok {g : Nat} (h : g < 100) : (∀ b ∈ Lib.decDigits g, 48 ≤ b.toNat ∧ b.toNat ≤ 57) ∧ (Lib.decDigits g).length ≤ 2 ∧ 1 ≤ (Lib.decDigits g).length ∧ Lib.atoi (Lib.decDigits g) = some (g : Int) := by
  rw [dec_eq h]; exact dec_facts ⟨g, h⟩
theorem last_rev (c : ByteArray) {g : Nat} (hg : g < 100) : Lib.lastIndexByte (revB c g) 45 = c.size := by
  have hd := data_revB c g
  have hc := size_list c
  have hs := size_list (revB c g)
  rw [hd] at hs
  simp only [List.length_append, List.length_cons] at hs
  have at0 : (revB c g).data[c.size]! = 45 := by
    rw [← Array.getElem!_toList, hd, ← hc]
    simp
  have far : ∀ i, c.size < i → i < (revB c g).size → ((revB c g).data[i]!).toNat ≠ 45 := by
    intro i h1 h2
    rw [← Array.getElem!_toList, hd]
    have hmem : (c.data.toList ++ 45 :: Lib.decDigits g)[i]! ∈ Lib.decDigits g := by
      rw [List.getElem!_eq_getElem?_getD, List.getElem?_append_right (by omega), hc]
      obtain ⟨m, hm⟩ : ∃ m, i - c.size = m + 1 := ⟨i - c.size - 1, by omega⟩
      rw [hm, List.getElem?_cons_succ, List.getElem?_eq_getElem (by omega)]
      simp
    have := (dec_ok hg).1 _ hmem
    omega
  rcases Lib.lastIdx_spec (revB c g) 45 (revB c g).size with ⟨-, h⟩ | ⟨i, h1, h2, h3, h4⟩
  · exact absurd (by rw [at0]; rfl) (h c.size (by omega))
  · show Lib.lastIdx _ _ _ = _
    rw [h2]
    have : ¬ c.size < i := fun hlt => far i hlt h1 (by omega)
    have : ¬ i < c.size := fun hlt => h4 c.size hlt (by omega) (by rw [at0]; rfl)
    omega
theorem rev_front (c : ByteArray) (g : Nat) : (revB c g).extract 0 c.size = c := bytes_ext (by rw [data_extract, data_revB, ← size_list c]; simp)
theorem drop_rev (l d : List UInt8) : (l ++ 45 :: d).drop (l.length + 1) = d := by
  rw [show l ++ 45 :: d = (l ++ [45]) ++ d by simp]
  exact List.drop_left' (by simp)
theorem rev_back (c : ByteArray) (g : Nat) : (revB c g).extract (c.size + 1) (revB c g).size = decB g := bytes_ext (by
  rw [data_extract, data_revB, ← size_list c, drop_rev, ← size_list (revB c g), data_revB]
  refine List.take_of_length_le ?_
  simp only [List.length_append, List.length_cons]
  omega)
theorem rev_size (c : ByteArray) {g : Nat} (hg : g < 100) : (revB c g).size ≤ c.size + 3 ∧ c.size + 2 ≤ (revB c g).size := by
  have hs := size_list (revB c g)
  rw [data_revB] at hs
  simp only [List.length_append, List.length_cons, size_list] at hs
  have := dec_ok hg
  omega
theorem short_size {s : ByteArray} {m : Int} (h : shortB s.data.toList m = true) : (s.size : Int) ≤ m := by
  unfold shortB at h
  simp only [Bool.and_eq_true, decide_eq_true_eq, size_list] at h
  exact h.2
theorem S_LastIndex {s : ByteArray} (hs : s.size < 4611686018427387904) {k : Int → PT} (hk : k (Lib.lastIndexByte s 45) w) : L.call Pr n_strings_LastIndex [.string s, .string s__] (.one (.one (.int .i64))) k w :=
  call_calls (Tryz.strings_LastIndex_one s s__ rfl hs w) fun e w' ⟨he, hw⟩ => ⟨_, he, by subst hw; exact hk⟩
theorem S_Itoa {g : Nat} (hg : g < 100) {k : ByteArray → PT} (hk : k (decB g) w) : L.call Pr n_strconv_Itoa [I g] (.one (.one .str)) k w :=
  call_calls (Tryz.strconv_Itoa_small g hg w) fun e w' ⟨he, hw⟩ => ⟨_, he, by subst hw; exact hk⟩
theorem S_Atoi (h : St w0 E w) {g : Nat} (hg : g < 100) {k : Int × Option (TypeId × Value) × Unit → PT} (hk : ∀ w', St w0 E w' → k ((g : Int), none, ()) w') : L.call Pr n_strconv_Atoi [.string (decB g)] (.tup [.one (.int .i64), .one .iface]) k w := by
  have hf := dec_ok hg
  have hsz : (decB g).size ≤ 18 := by rw [← size_list]; simp only [decB]; omega
  refine call_calls (Tryz.strconv_Atoi (decB g) g hsz (by simpa [decB] using hf.2.2.2) w) fun e w' ⟨he, t, hw⟩ => ⟨((g : Int), none, ()), he, hk w' ?_⟩
  subst hw
  exact h.bytes 5 t
theorem S_Tag (h : St w0 E w) (und : Pr.underlying T_string = some .string) {s : ByteArray} {k : Bool → PT} (hk : ∀ w', St w0 E w' → k (shortB s.data.toList 8) w') : L.call Pr n_label_Tag [.string s] (.one (.one .bool)) k w := by
  refine call_of (C_label_Tag _) ?_
  unfold F_label_Tag
  exact S_short h und fun w h => ⟨_, rfl, hk w h⟩
theorem S_Rev (h : St w0 E w) (und : Pr.underlying T_string = some .string) {c : ByteArray} {g : Nat} (hc : shortB c.data.toList 16 = true) (h1 : 1 ≤ g) (hg : g < 100) {k : ByteArray → PT} (hk : ∀ w', St w0 E w' → k (revB c g) w') : L.call Pr n_label_Rev [.string c, I g] (.one (.one .str)) k w := by
  refine call_of (C_label_Rev _ _) ?_
  unfold F_label_Rev
  refine S_Name h und fun w h => ?_
  rw [hc]
  have hs := short_size hc
  have hr := rev_size c hg
  refine itF rfl (itF (decide_eq_false (by omega)) (itF (decide_eq_false (by omega)) ?_))
  refine gd ?_ ?_
  · simp only [s__, maxI64]; show ((c.size + 1 : Nat) : Int) ≤ _; omega
  refine S_Itoa hg ?_
  refine gd ?_ ⟨_, rfl, hk w h⟩
  have : ((c ++ s__).size + (decB g).size) = (revB c g).size := by unfold revB; rw [ByteArray.size_append (a := c ++ s__)]
  rw [this]
  simp only [maxI64]; omega
/-- a revision's name is parted -/
theorem S_Split (h : St w0 E w) (und : Pr.underlying T_string = some .string) {c : ByteArray} {g : Nat} (hc : shortB c.data.toList 16 = true) (h1 : 1 ≤ g) (hg : g < 100) {k : ByteArray × Int × Bool × Unit → PT} (hk : ∀ w', St w0 E w' → k (c, (g : Int), true, ()) w') :
    L.call Pr n_label_Split [.string (revB c g)] (.tup [.one .str, .one (.int .i64), .one .bool]) k w := by
  refine call_of (C_label_Split _) ?_
  unfold F_label_Split
  have hs := short_size hc
  have hr := rev_size c hg
  refine S_LastIndex (by omega) ?_
  rw [last_rev c hg]
  have e1 : IntKind.wrap .i64 ((c.size : Int) + 1) = ((c.size + 1 : Nat) : Int) := by rw [wr (by omega) (by omega)]; simp
  rw [e1]
  refine itF (decide_eq_false (by omega)) (gd (by omega) ?_)
  rw [Int.toNat_natCast, Int.toNat_natCast, rev_back]
  refine S_Atoi h hg fun w h => itF rfl (gd (by omega) ?_)
  have e2 : (revB c g).extract (Int.toNat 0) (Int.toNat (c.size : Int)) = c := rev_front c g
  rw [e2]
  refine S_Rev h und hc h1 hg fun w h => ?_
  refine itF (by rw [str_eq]; simp) (gd (by omega) ⟨(c, (g : Int), true, ()), rfl, hk w h⟩)
theorem S_Split0 {k : ByteArray × Int × Bool × Unit → PT} (hk : k (s_, 0, false, ()) w) : L.call Pr n_label_Split [.string s_] (.tup [.one .str, .one (.int .i64), .one .bool]) k w := by
  refine call_of (C_label_Split _) ?_
  unfold F_label_Split
  refine S_LastIndex (by decide) ?_
  exact itT rfl ⟨_, rfl, hk⟩
end Go.Proofs.YtpnbgpolbjbhpaaGreatDoor
namespace Go.Proofs.YtpnbgpolbjbhpaaGreatDoor
open Go.Dm
attribute [local irreducible] L.load L.store L.chk L.new L.nonnil L.guard L.ite L.draw L.idx L.sem L.semR L.semU L.chkSem L.next L.call L.callV L.join L.alts L.loop L.begin L.endRound L.range
variable {w0 w : World} {E : List Seg}
/-! ### the document's names -/
theorem S_rsign {c : Int} {k : Bool → PT} (hk : k (decide (97 ≤ c ∧ c ≤ 122) || decide (48 ≤ c ∧ c ≤ 57) || decide (c = 45)) w) : L.call Pr n_damperref1_sign [.int .u8 c] (.one (.one .bool)) k w := by
  refine call_of (C_damperref1_sign _) ?_
  unfold F_damperref1_sign
  have e45 : (c == 45) = decide (c = 45) := by by_cases h : c = 45 <;> simp [h]
  have fin : ∀ b : Bool, b = (decide (97 ≤ c ∧ c ≤ 122) || decide (48 ≤ c ∧ c ≤ 57) || decide (c = 45)) → ∃ x, Value.bool b = RT.val (.one (.one .bool)) x ∧ k x w := fun b hb => ⟨b, rfl, by rw [hb]; exact hk⟩
  refine it (fun h1 => ?_) (fun h1 => ?_) <;> (try simp only [decide_eq_true_eq, decide_eq_false_iff_not, beq_iff_eq, bne_iff_ne, beq_eq_false_iff_ne, bne_eq_false_iff_eq, Bool.not_eq_true', Bool.not_eq_false', ne_eq, Bool.not_eq_true, Bool.not_eq_false] at h1)
  · refine it (fun h2 => ?_) (fun h2 => ?_) <;> (try simp only [decide_eq_true_eq, decide_eq_false_iff_not, beq_iff_eq, bne_iff_ne, beq_eq_false_iff_ne, bne_eq_false_iff_eq, Bool.not_eq_true', Bool.not_eq_false', ne_eq, Bool.not_eq_true, Bool.not_eq_false] at h2)
    · exact fin _ (by rw [decide_eq_true (show 97 ≤ c ∧ c ≤ 122 by omega)]; rfl)
    · rw [decide_eq_false (show ¬ (97 ≤ c ∧ c ≤ 122) by omega), decide_eq_false (show ¬ (48 ≤ c ∧ c ≤ 57) by omega)] at fin
      refine it (fun h3 => ?_) (fun h3 => ?_) <;> (try simp only [decide_eq_true_eq, decide_eq_false_iff_not, beq_iff_eq, bne_iff_ne, beq_eq_false_iff_ne, bne_eq_false_iff_eq, Bool.not_eq_true', Bool.not_eq_false', ne_eq, Bool.not_eq_true, Bool.not_eq_false] at h3)
      · refine it (fun h4 => ?_) (fun h4 => ?_) <;> (try simp only [decide_eq_true_eq, decide_eq_false_iff_not, beq_iff_eq, bne_iff_ne, beq_eq_false_iff_ne, bne_eq_false_iff_eq, Bool.not_eq_true', Bool.not_eq_false', ne_eq, Bool.not_eq_true, Bool.not_eq_false] at h4)
        · omega
        · exact fin _ (by rw [e45]; rfl)
      · exact fin _ (by rw [e45]; rfl)
  · rw [decide_eq_false (show ¬ (97 ≤ c ∧ c ≤ 122) by omega)] at fin
    refine it (fun h3 => ?_) (fun h3 => ?_) <;> (try simp only [decide_eq_true_eq, decide_eq_false_iff_not, beq_iff_eq, bne_iff_ne, beq_eq_false_iff_ne, bne_eq_false_iff_eq, Bool.not_eq_true', Bool.not_eq_false', ne_eq, Bool.not_eq_true, Bool.not_eq_false] at h3)
    · refine it (fun h4 => ?_) (fun h4 => ?_) <;> (try simp only [decide_eq_true_eq, decide_eq_false_iff_not, beq_iff_eq, bne_iff_ne, beq_eq_false_iff_ne, bne_eq_false_iff_eq, Bool.not_eq_true', Bool.not_eq_false', ne_eq, Bool.not_eq_true, Bool.not_eq_false] at h4)
      · exact fin _ (by rw [decide_eq_true (show 48 ≤ c ∧ c ≤ 57 by omega)]; rfl)
      · exact fin _ (by rw [e45, decide_eq_false (show ¬ (48 ≤ c ∧ c ≤ 57) by omega)]; rfl)
    · exact fin _ (by rw [e45, decide_eq_false (show ¬ (48 ≤ c ∧ c ≤ 57) by omega)]; rfl)
theorem S_rName (h : St w0 E w) {s : ByteArray} {k : Bool → PT} (hk : ∀ w', St w0 E w' → k (shortB s.data.toList 16) w') : L.call Pr n_damperref1_Name [.string s] (.one (.one .bool)) k w := by
  refine call_of (C_damperref1_Name _) ?_
  unfold F_damperref1_Name
  have hsz := size_list s
  have bt : ∀ n : Int, byteAt s n = ((s.data.toList.getD n.toNat 0).toNat : Int) := fun n => rfl
  generalize s.data.toList = l at hk hsz bt
  have no : ∀ {w}, St w0 E w → shortB l 16 = false → ∃ x, Value.bool false = RT.val (.one (.one .bool)) x ∧ k x w := fun h hs => ⟨false, rfl, by have := hk _ h; rw [hs] at this; exact this⟩
  refine it (fun c1 => ?_) (fun c1 => ?_) <;> (try simp only [decide_eq_true_eq, decide_eq_false_iff_not, beq_iff_eq, bne_iff_ne, beq_eq_false_iff_ne, bne_eq_false_iff_eq, Bool.not_eq_true', Bool.not_eq_false', ne_eq, Bool.not_eq_true, Bool.not_eq_false] at c1)
  · have : l = [] := List.eq_nil_of_length_eq_zero (by omega)
    exact no h (by rw [this]; rfl)
  refine it (fun c2 => ?_) (fun c2 => ?_) <;> (try simp only [decide_eq_true_eq, decide_eq_false_iff_not, beq_iff_eq, bne_iff_ne, beq_eq_false_iff_ne, bne_eq_false_iff_eq, Bool.not_eq_true', Bool.not_eq_false', ne_eq, Bool.not_eq_true, Bool.not_eq_false] at c2)
  · refine no h ?_
    unfold shortB
    rw [decide_eq_false (show ¬ (l.length : Int) ≤ 16 by omega), Bool.and_false]
  obtain ⟨b, r, rfl⟩ : ∃ b r, l = b :: r := by
    cases l with
    | nil => simp at hsz; omega
    | cons b r => exact ⟨b, r, rfl⟩
  have hb0 : byteAt s 0 = (b.toNat : Int) := by rw [bt]; rfl
  have hlast : (b :: r).getLast? = some ((b :: r).getD (s.size - 1) 0) := by
    rw [List.getLast?_eq_getElem?, hsz, List.getD_eq_getElem?_getD, List.getElem?_eq_getElem (by omega)]
    rfl
  refine gd (by omega) ?_
  rw [hb0]
  refine it (fun c3 => ?_) (fun c3 => ?_) <;> (try simp only [decide_eq_true_eq, decide_eq_false_iff_not, beq_iff_eq, bne_iff_ne, beq_eq_false_iff_ne, bne_eq_false_iff_eq, Bool.not_eq_true', Bool.not_eq_false', ne_eq, Bool.not_eq_true, Bool.not_eq_false] at c3)
  · refine no h ?_
    unfold shortB letterB
    simp only [List.head?_cons, Option.map_some, Option.getD_some]
    rw [decide_eq_false (show ¬ (97 ≤ b.toNat ∧ b.toNat ≤ 122) by omega)]; simp
  refine gd (by omega) ?_
  refine it (fun c4 => ?_) (fun c4 => ?_) <;> (try simp only [decide_eq_true_eq, decide_eq_false_iff_not, beq_iff_eq, bne_iff_ne, beq_eq_false_iff_ne, bne_eq_false_iff_eq, Bool.not_eq_true', Bool.not_eq_false', ne_eq, Bool.not_eq_true, Bool.not_eq_false] at c4)
  · refine no h ?_
    unfold shortB letterB
    simp only [List.head?_cons, Option.map_some, Option.getD_some]
    rw [decide_eq_false (show ¬ (97 ≤ b.toNat ∧ b.toNat ≤ 122) by omega)]; simp
  have hlet : letterB b = true := decide_eq_true (by omega)
  rw [wr (by omega) (by omega)]
  refine gd (by omega) ?_
  have hbl : byteAt s ((s.size : Int) - 1) = (((b :: r).getD (s.size - 1) 0).toNat : Int) := by rw [bt]; congr 3; omega
  rw [hbl]
  generalize (b :: r).getD (s.size - 1) 0 = z at hlast
  refine it (fun c5 => ?_) (fun c5 => ?_) <;> (try simp only [decide_eq_true_eq, decide_eq_false_iff_not, beq_iff_eq, bne_iff_ne, beq_eq_false_iff_ne, bne_eq_false_iff_eq, Bool.not_eq_true', Bool.not_eq_false', ne_eq, Bool.not_eq_true, Bool.not_eq_false] at c5)
  · refine no h ?_
    unfold shortB
    rw [hlast]
    simp only
    rw [decide_eq_false (show ¬ z.toNat ≠ 45 by omega)]; simp
  refine loop_of (fun q y w => ∃ i : Nat, y = ((i : Int), ()) ∧ q + i = s.size ∧ ((b :: r).take i).all signB = true ∧ St w0 E w) s.size ⟨0, rfl, rfl, rfl, h⟩ ?_
  clear h; (try clear w)
  rintro q y w ⟨i, rfl, hq, hall, h⟩ again hag
  dsimp only
  refine it (fun hb => ?_) (fun hb => ?_) <;> (try simp only [decide_eq_true_eq, decide_eq_false_iff_not, beq_iff_eq, bne_iff_ne, beq_eq_false_iff_ne, bne_eq_false_iff_eq, Bool.not_eq_true', Bool.not_eq_false', ne_eq, Bool.not_eq_true, Bool.not_eq_false] at hb)
  · have hi : i < (b :: r).length := by omega
    have hx : (b :: r)[i]? = some (b :: r)[i] := List.getElem?_eq_getElem hi
    have hbi : byteAt s (i : Int) = ((b :: r)[i].toNat : Int) := by rw [bt, Int.toNat_natCast, List.getD_eq_getElem?_getD, hx]; rfl
    have hmem := List.mem_of_getElem? hx
    refine gd (by omega) ?_
    rw [hbi]
    generalize (b :: r)[i] = u at hx hmem
    refine S_rsign ?_
    rw [signB_eq]
    refine it (fun hs => ?_) (fun hs => ?_)
    · refine no h ?_
      have hs : signB u = false := by simpa using hs
      unfold shortB
      have : (b :: r).all signB = false := by
        rw [List.all_eq_false]; exact ⟨u, hmem, by simp [hs]⟩
      rw [this]; rfl
    · have hs : signB u = true := by simpa using hs
      rw [wr (by omega) (by omega)]
      refine hag (q - 1) _ w (by omega) ⟨i + 1, by simp, by omega, ?_, h⟩
      rw [List.take_add_one, hx, List.all_append, hall]; simp [hs]
  · have e : (b :: r).take i = b :: r := List.take_of_length_le (by omega)
    rw [e] at hall
    refine ⟨true, rfl, ?_⟩
    have := hk _ h
    have ht : shortB (b :: r) 16 = true := by
      unfold shortB
      rw [hall, hlast]
      simp only [List.head?_cons, Option.map_some, Option.getD_some]
      rw [hlet, decide_eq_true (show z.toNat ≠ 45 by omega), decide_eq_true (show (((b :: r).length : Nat) : Int) ≤ 16 by omega)]; rfl
    rw [ht] at this; exact this
theorem S_rTag (h : St w0 E w) {s : ByteArray} {k : Bool → PT} (hk : ∀ w', St w0 E w' → k (shortB s.data.toList 8) w') : L.call Pr n_damperref1_Tag [.string s] (.one (.one .bool)) k w := by
  refine call_of (C_damperref1_Tag _) ?_
  unfold F_damperref1_Tag
  have hsz := size_list s
  refine it (fun c1 => ?_) (fun c1 => ?_) <;> (try simp only [decide_eq_true_eq, decide_eq_false_iff_not, beq_iff_eq, bne_iff_ne, beq_eq_false_iff_ne, bne_eq_false_iff_eq, Bool.not_eq_true', Bool.not_eq_false', ne_eq, Bool.not_eq_true, Bool.not_eq_false] at c1)
  · refine S_rName h fun w h => ⟨_, rfl, ?_⟩
    have := hk w h
    have e : shortB s.data.toList 16 = shortB s.data.toList 8 := by
      unfold shortB
      rw [decide_eq_true (show (s.data.toList.length : Int) ≤ 16 by omega), decide_eq_true (show (s.data.toList.length : Int) ≤ 8 by omega)]
    rw [e]; exact this
  · refine ⟨false, rfl, ?_⟩
    have := hk w h
    have e : shortB s.data.toList 8 = false := by
      unfold shortB
      rw [decide_eq_false (show ¬ (s.data.toList.length : Int) ≤ 8 by omega), Bool.and_false]
    rw [e] at this; exact this
end Go.Proofs.YtpnbgpolbjbhpaaGreatDoor
namespace Go.Proofs.YtpnbgpolbjbhpaaGreatDoor
open Go.Dm
attribute [local irreducible] L.load L.store L.chk L.new L.nonnil L.guard L.ite L.draw L.idx L.sem L.semR L.semU L.chkSem L.next L.call L.callV L.join L.alts L.loop L.begin L.endRound L.range
variable {w0 w : World} {E : List Seg}
theorem rev_at (c : ByteArray) {g : Nat} (hg : g < 100) (i : Nat) : byteAt (revB c g) ((c.size : Int) + i) = (((45 :: decL g).getD i 0).toNat : Int) := by
  unfold byteAt
  rw [data_revB, dec_eq hg, show ((c.size : Int) + i).toNat = c.data.toList.length + i by rw [size_list]; omega, List.getD_eq_getElem?_getD, List.getElem?_append_right (by omega), List.getD_eq_getElem?_getD, Nat.add_sub_cancel_left]
theorem S_rSplit (h : St w0 E w) {c : ByteArray} {g : Nat} (hc : shortB c.data.toList 16 = true) (h1 : 1 ≤ g) (hg : g < 100) {k : ByteArray × Int × Bool × Unit → PT} (hk : ∀ w', St w0 E w' → k (c, (g : Int), true, ()) w') :
    L.call Pr n_damperref1_Split [.string (revB c g)] (.tup [.one .str, .one (.int .i64), .one .bool]) k w := by
  refine call_of (C_damperref1_Split _) ?_
  unfold F_damperref1_Split
  have hs := short_size hc
  have b0 := rev_at c hg 0
  have b1 := rev_at c hg 1
  have b2 := rev_at c hg 2
  have hn : (revB c g).size = c.size + 1 + (decL g).length := by
    have := size_list (revB c g)
    rw [data_revB, dec_eq hg, List.length_append, List.length_cons, size_list] at this
    omega
  have ef : (revB c g).extract 0 c.size = c := rev_front c g
  generalize revB c g = p at *
  have u8 : ∀ x : Nat, x < 10 → IntKind.wrap .u8 (((48 + x : Nat) : Int) - 48) = (x : Int) := by
    intro x hx
    have : x = 0 ∨ x = 1 ∨ x = 2 ∨ x = 3 ∨ x = 4 ∨ x = 5 ∨ x = 6 ∨ x = 7 ∨ x = 8 ∨ x = 9 := by omega
    rcases this with rfl | rfl | rfl | rfl | rfl | rfl | rfl | rfl | rfl | rfl <;> rfl
  have toN : ∀ x : Nat, x < 10 → (UInt8.ofNat (48 + x)).toNat = 48 + x := fun x hx => by simp; omega
  have h45 : byteAt p (c.size : Int) = 45 := by simpa using b0
  have hd1 : byteAt p ((c.size : Int) + 1) ≠ 48 ∧ c.size + 1 < p.size := by
    rw [hn]
    have b1 : byteAt p ((c.size : Int) + 1) = (((45 :: decL g).getD 1 0).toNat : Int) := b1
    rw [b1]
    unfold decL
    split
    · have := toN g (by omega)
      simp only [List.getD_cons_succ, List.getD_cons_zero, this, List.length_cons, List.length_nil]; omega
    · have := toN (g / 10) (by omega)
      simp only [List.getD_cons_succ, List.getD_cons_zero, this, List.length_cons, List.length_nil]; omega
  refine join_of (fun z w => z = ((c.size : Int) + 1, (g : Int), ()) ∧ St w0 E w) (fun k1 hk1 => ?_) (fun z w ⟨hz, h⟩ => ?_)
  · by_cases h10 : g < 10
    · have el : decL g = [UInt8.ofNat (48 + g)] := by unfold decL; rw [if_pos h10]
      rw [el] at hn b1
      have b1 : byteAt p ((c.size : Int) + 1) = ((48 + g : Nat) : Int) := by rw [← toN g h10]; exact b1
      refine loop_of (fun q y w => ((q = 1 ∧ y = ((p.size : Int), 0, 1, ())) ∨ (q = 0 ∧ y = ((c.size : Int) + 1, (g : Int), 10, ()))) ∧ St w0 E w) 1 ⟨.inl ⟨rfl, rfl⟩, h⟩ ?_
      clear h; (try clear w)
      rintro q y w ⟨hy, h⟩ again hag
      rcases hy with ⟨rfl, rfl⟩ | ⟨rfl, rfl⟩
      · dsimp only
        simp only [List.length_cons, List.length_nil] at hn
        have ew : IntKind.wrap .i64 ((p.size : Int) - 1) = (c.size : Int) + 1 := by rw [wr (by omega) (by omega)]; omega
        rw [ew, b1]
        refine itT (decide_eq_true (by omega)) (gd (by omega) (itT (decide_eq_true (by omega)) (gd (by omega) (itT (decide_eq_true (by omega)) (itT (decide_eq_true (by omega)) (gd (by omega) ?_))))))
        rw [u8 g h10, wr (n := (g : Int)) (by omega) (by omega), wr (n := 1 * (g : Int)) (by omega) (by omega), wr (n := 0 + 1 * (g : Int)) (by omega) (by omega)]
        exact hag 0 _ w (by omega) ⟨.inr ⟨rfl, by simp; rfl⟩, h⟩
      · dsimp only
        have ew : IntKind.wrap .i64 ((c.size : Int) + 1 - 1) = (c.size : Int) := by rw [wr (by omega) (by omega)]; omega
        rw [ew, h45]
        refine itT (decide_eq_true (by omega)) (gd (by omega) (itF (by decide) ?_))
        exact hk1 _ w ⟨rfl, h⟩
    · have el : decL g = [UInt8.ofNat (48 + g / 10), UInt8.ofNat (48 + g % 10)] := by unfold decL; rw [if_neg h10]
      rw [el] at hn b1 b2
      have b1 : byteAt p ((c.size : Int) + 1) = ((48 + g / 10 : Nat) : Int) := by rw [← toN (g / 10) (by omega)]; exact b1
      have b2 : byteAt p ((c.size : Int) + 2) = ((48 + g % 10 : Nat) : Int) := by rw [← toN (g % 10) (by omega)]; exact b2
      simp only [List.length_cons, List.length_nil] at hn
      refine loop_of (fun q y w => ((q = 2 ∧ y = ((p.size : Int), 0, 1, ())) ∨ (q = 1 ∧ y = ((c.size : Int) + 2, ((g % 10 : Nat) : Int), 10, ())) ∨ (q = 0 ∧ y = ((c.size : Int) + 1, (g : Int), 100, ()))) ∧ St w0 E w) 2 ⟨.inl ⟨rfl, rfl⟩, h⟩ ?_
      clear h; (try clear w)
      rintro q y w ⟨hy, h⟩ again hag
      rcases hy with ⟨rfl, rfl⟩ | ⟨rfl, rfl⟩ | ⟨rfl, rfl⟩
      · dsimp only
        have ew : IntKind.wrap .i64 ((p.size : Int) - 1) = (c.size : Int) + 2 := by rw [wr (by omega) (by omega)]; omega
        rw [ew, b2]
        refine itT (decide_eq_true (by omega)) (gd (by omega) (itT (decide_eq_true (by omega)) (gd (by omega) (itT (decide_eq_true (by omega)) (itT (decide_eq_true (by omega)) (gd (by omega) ?_))))))
        rw [u8 (g % 10) (by omega), wr (n := ((g % 10 : Nat) : Int)) (by omega) (by omega), wr (n := 1 * ((g % 10 : Nat) : Int)) (by omega) (by omega), wr (n := 0 + 1 * ((g % 10 : Nat) : Int)) (by omega) (by omega)]
        exact hag 1 _ w (by omega) ⟨.inr (.inl ⟨rfl, by rw [Int.one_mul, Int.zero_add]; rfl⟩), h⟩
      · dsimp only
        have ew : IntKind.wrap .i64 ((c.size : Int) + 2 - 1) = (c.size : Int) + 1 := by rw [wr (by omega) (by omega)]; omega
        rw [ew, b1]
        refine itT (decide_eq_true (by omega)) (gd (by omega) (itT (decide_eq_true (by omega)) (gd (by omega) (itT (decide_eq_true (by omega)) (itT (decide_eq_true (by omega)) (gd (by omega) ?_))))))
        rw [u8 (g / 10) (by omega), wr (n := ((g / 10 : Nat) : Int)) (by omega) (by omega), wr (n := 10 * ((g / 10 : Nat) : Int)) (by omega) (by omega), wr (n := ((g % 10 : Nat) : Int) + 10 * ((g / 10 : Nat) : Int)) (by omega) (by omega)]
        refine hag 0 _ w (by omega) ⟨.inr (.inr ⟨rfl, ?_⟩), h⟩
        have : ((g % 10 : Nat) : Int) + 10 * ((g / 10 : Nat) : Int) = (g : Int) := by omega
        rw [this]; rfl
      · dsimp only
        have ew : IntKind.wrap .i64 ((c.size : Int) + 1 - 1) = (c.size : Int) := by rw [wr (by omega) (by omega)]; omega
        rw [ew, h45]
        refine itT (decide_eq_true (by omega)) (gd (by omega) (itF (by decide) ?_))
        exact hk1 _ w ⟨rfl, h⟩
  · subst hz
    dsimp only
    have ew : IntKind.wrap .i64 ((c.size : Int) + 1 - 1) = (c.size : Int) := by rw [wr (by omega) (by omega)]; omega
    rw [ew, h45]
    refine itF (decide_eq_false (by omega)) (itF (by simp; omega) (gd (by omega) (itF rfl (gd (by omega) (itF (by simpa using hd1.1) (gd (by omega) ?_))))))
    have e2 : p.extract (Int.toNat 0) (Int.toNat (c.size : Int)) = c := ef
    rw [e2]
    refine S_rName h fun w h => ?_
    rw [hc]
    exact itF rfl (gd (by omega) ⟨(c, (g : Int), true, ()), rfl, hk w h⟩)
end Go.Proofs.YtpnbgpolbjbhpaaGreatDoor
