/- Contracts of functions, and walks of laws (text La). No conditions beyond those its theorems state. -/
import Derived.Test.YtpnbgpolbjbhpaaGreatDoorBa
import Derived.Test.YtpnbgpolbjbhpaaGreatDoorSepB
set_option linter.all false
namespace Go.Proofs.YtpnbgpolbjbhpaaGreatDoor
open Go.Dm
attribute [local irreducible] L.load L.store L.chk L.new L.nonnil L.guard L.ite L.draw L.idx L.sem L.semR L.semU L.chkSem L.next L.call L.callV L.join L.alts L.loop L.begin L.endRound L.range
variable {w0 w : World} {E : List Seg}
/-! ### names -/
def letterB (b : UInt8) : Bool := decide (97 ≤ b.toNat ∧ b.toNat ≤ 122)
def signB (b : UInt8) : Bool := letterB b || decide (48 ≤ b.toNat ∧ b.toNat ≤ 57) || decide (b.toNat = 45)
/-- a name of so many signs at most -/
def shortB (l : List UInt8) (most : Int) : Bool := l.all signB && (l.head?.map letterB).getD false && (match l.getLast? with | some b => decide (b.toNat ≠ 45) | none => false) && decide ((l.length : Int) ≤ most)
abbrev J (n : Int) : Value := .int .i32 n
theorem S_letter {c : Int} {k : Bool → PT} (hk : k (decide (97 ≤ c ∧ c ≤ 122)) w) : L.call Pr n_label_letter [J c] (.one (.one .bool)) k w := by
  refine call_of (C_label_letter _) ?_
  unfold F_label_letter
  refine it (fun h => ?_) (fun h => ?_) <;> (try simp only [decide_eq_true_eq, decide_eq_false_iff_not, beq_iff_eq, bne_iff_ne, beq_eq_false_iff_ne, bne_eq_false_iff_eq, Bool.not_eq_true', Bool.not_eq_false', ne_eq, Bool.not_eq_true, Bool.not_eq_false] at h)
  · refine ⟨_, rfl, ?_⟩
    have e : decide (97 ≤ c ∧ c ≤ 122) = decide (c ≤ 122) := by by_cases h2 : c ≤ 122 <;> simp [h2]; omega
    rw [e] at hk; exact hk
  · refine ⟨false, rfl, ?_⟩
    have e : decide (97 ≤ c ∧ c ≤ 122) = false := decide_eq_false (by omega)
    rw [e] at hk; exact hk
theorem S_sign {c : Int} {k : Bool → PT} (hk : k (decide (97 ≤ c ∧ c ≤ 122) || decide (48 ≤ c ∧ c ≤ 57) || decide (c = 45)) w) : L.call Pr n_label_sign [J c] (.one (.one .bool)) k w := by
  refine call_of (C_label_sign _) ?_
  unfold F_label_sign
  refine S_letter ?_
  refine it (fun h => ?_) (fun h => ?_) <;> (try simp only [decide_eq_true_eq, decide_eq_false_iff_not, beq_iff_eq, bne_iff_ne, beq_eq_false_iff_ne, bne_eq_false_iff_eq, Bool.not_eq_true', Bool.not_eq_false', ne_eq, Bool.not_eq_true, Bool.not_eq_false] at h)
  · refine ⟨true, rfl, ?_⟩
    rw [decide_eq_true h] at hk; exact hk
  · rw [decide_eq_false h, Bool.false_or] at hk
    have e45 : (c == 45) = decide (c = 45) := by by_cases h : c = 45 <;> simp [h]
    refine it (fun h1 => ?_) (fun h1 => ?_) <;> (try simp only [decide_eq_true_eq, decide_eq_false_iff_not, beq_iff_eq, bne_iff_ne, beq_eq_false_iff_ne, bne_eq_false_iff_eq, Bool.not_eq_true', Bool.not_eq_false', ne_eq, Bool.not_eq_true, Bool.not_eq_false] at h1)
    · refine it (fun h2 => ?_) (fun h2 => ?_) <;> (try simp only [decide_eq_true_eq, decide_eq_false_iff_not, beq_iff_eq, bne_iff_ne, beq_eq_false_iff_ne, bne_eq_false_iff_eq, Bool.not_eq_true', Bool.not_eq_false', ne_eq, Bool.not_eq_true, Bool.not_eq_false] at h2)
      · refine ⟨true, rfl, ?_⟩
        rw [decide_eq_true ⟨by omega, h2⟩] at hk; exact hk
      · refine ⟨_, rfl, ?_⟩
        rw [decide_eq_false (fun hh => h2 hh.2), Bool.false_or] at hk
        rw [e45]; exact hk
    · refine ⟨_, rfl, ?_⟩
      rw [decide_eq_false (fun hh => by omega), Bool.false_or] at hk
      rw [e45]; exact hk
theorem signB_eq (b : UInt8) : (decide (97 ≤ (b.toNat : Int) ∧ (b.toNat : Int) ≤ 122) || decide (48 ≤ (b.toNat : Int) ∧ (b.toNat : Int) ≤ 57) || decide ((b.toNat : Int) = 45)) = signB b := by
  unfold signB letterB
  congr 1
  · congr 1 <;> (apply decide_eq_decide.2; omega)
  · apply decide_eq_decide.2; omega
theorem str_at {s : ByteArray} {pos : Nat} (hp : pos < s.size) : s.data.toList[pos]? = some (s[pos]'hp) := by
  have : pos < s.data.toList.length := by simpa using hp
  rw [List.getElem?_eq_getElem this]
  simp [ByteArray.getElem_eq_getElem_data]
theorem S_short (h : St w0 E w) (und : Pr.underlying T_string = some .string) {s : ByteArray} {most : Int} {k : Bool → PT} (hk : ∀ w', St w0 E w' → k (shortB s.data.toList most) w') : L.call Pr n_label_short [.string s, I most] (.one (.one .bool)) k w := by
  refine call_of (C_label_short _ _) ?_
  unfold F_label_short
  refine rangeStr und h fun r w h => ?_
  have hsz : s.data.toList.length = s.size := by simp
  generalize hl : s.data.toList = l at hk hsz
  refine loop_of (fun q y w => ∃ pos : Nat, y = ((if pos = 0 then (45 : Int) else ((l[pos - 1]?).map fun b => (b.toNat : Int)).getD 0), ()) ∧ q + pos = s.size ∧ (l.take pos).all signB = true ∧ (0 < pos → (l.head?.map letterB).getD false = true) ∧ St w0 (ItS r s pos :: E) w) s.size
    ⟨0, rfl, rfl, rfl, by simp, h⟩ ?_
  clear h; (try clear w)
  rintro q y w ⟨pos, rfl, hq, hall, hhd, h⟩ again hag
  dsimp only
  have no : ∀ {w}, shortB l most = false → St w0 E w → ∃ x, Value.bool false = RT.val (.one (.one .bool)) x ∧ k x w := fun hs h => ⟨false, rfl, by have := hk _ h; rw [hs] at this; exact this⟩
  refine nextStr h 0 rfl (fun he => ?_) (fun hp c d w' ha hh hd h => ?_)
  · have hpos : pos = l.length := by omega
    subst hpos
    rw [List.take_length] at hall
    replace h := dl0_ h
    cases hgl : l.getLast? with
    | none =>
      have : l = [] := List.getLast?_eq_none_iff.1 hgl
      have hs : shortB l most = false := by rw [this]; rfl
      rw [if_pos (by rw [this]; rfl)]
      exact itF rfl (no hs h)
    | some b =>
      have hne : l ≠ [] := fun e => by subst e; cases hgl
      have hlen : l.length ≠ 0 := fun e => hne (List.eq_nil_of_length_eq_zero e)
      have hx : l[l.length - 1]? = some b := by rw [← List.getLast?_eq_getElem?]; exact hgl
      rw [if_neg hlen, hx]
      have hsb : shortB l most = (decide (b.toNat ≠ 45) && decide ((l.length : Int) ≤ most)) := by
        unfold shortB; rw [hall, hhd (by omega), hgl]; simp
      simp only [Option.map_some, Option.getD_some]
      refine it (fun h45 => ?_) (fun h45 => ?_) <;> (try simp only [decide_eq_true_eq, decide_eq_false_iff_not, beq_iff_eq, bne_iff_ne, beq_eq_false_iff_ne, bne_eq_false_iff_eq, Bool.not_eq_true', Bool.not_eq_false', ne_eq, Bool.not_eq_true, Bool.not_eq_false] at h45)
      · refine ⟨_, rfl, ?_⟩
        have := hk _ h
        rw [hsb, decide_eq_true (show b.toNat ≠ 45 by omega), Bool.true_and, hsz] at this
        exact this
      · refine no ?_ h
        rw [hsb, decide_eq_false (show ¬ b.toNat ≠ 45 by omega)]; rfl
  · have hx : l[pos]? = some (s[pos]'hp) := by rw [← hl]; exact str_at hp
    generalize s[pos]'hp = b at hx ha hh
    have hmem : b ∈ l := List.mem_of_getElem? hx
    have hno : signB b = false → shortB l most = false := fun hs => by
      unfold shortB
      have : l.all signB = false := by
        rw [List.all_eq_false]; exact ⟨b, hmem, by simp [hs]⟩
      rw [this]; rfl
    by_cases hb : b.toNat < 128
    · obtain ⟨rfl, rfl⟩ := ha hb
      have h : St w0 (ItS r s (pos + 1) :: E) w' := h
      refine join_of (fun z w => (0 < pos + 1 → (l.head?.map letterB).getD false = true) ∧ signB b = true ∧ St w0 (ItS r s (pos + 1) :: E) w) (fun k5 hk5 => ?_) (fun z w ⟨hhd, hs, h⟩ => ?_)
      · refine S_sign ?_
        rw [signB_eq]
        refine it (fun hs => ?_) (fun hs => ?_)
        · exact no (hno (by simpa using hs)) (dl0_ h)
        · have hs : signB b = true := by simpa using hs
          refine it (fun h0 => ?_) (fun h0 => ?_)
          · have h0 : pos = 0 := by simpa using h0
            subst h0
            have hhead : l.head? = some b := by rw [List.head?_eq_getElem?]; exact hx
            have el : decide (97 ≤ (b.toNat : Int) ∧ (b.toNat : Int) ≤ 122) = letterB b := by unfold letterB; apply decide_eq_decide.2; omega
            refine S_letter ?_
            rw [el]
            refine it (fun hlt => ?_) (fun hlt => ?_)
            · refine no ?_ (dl0_ h)
              have hlt : letterB b = false := by simpa using hlt
              unfold shortB; rw [hhead]; simp [hlt]
            · have hlt : letterB b = true := by simpa using hlt
              exact hk5 _ _ ⟨fun _ => by rw [hhead]; exact hlt, hs, h⟩
          · have h0 : pos ≠ 0 := by simpa using h0
            exact hk5 _ _ ⟨fun _ => hhd (by omega), hs, h⟩
      · refine hag (q - 1) _ w (by omega) ⟨pos + 1, ?_, by omega, ?_, hhd, h⟩
        · rw [if_neg (by omega), Nat.add_sub_cancel, hx]; rfl
        · rw [List.take_add_one, hx, List.all_append, hall]; simp [hs]
    · have hc := hh (by omega)
      have hs : signB b = false := by
        unfold signB letterB
        rw [decide_eq_false (show ¬ (97 ≤ b.toNat ∧ b.toNat ≤ 122) by omega), decide_eq_false (show ¬ (48 ≤ b.toNat ∧ b.toNat ≤ 57) by omega), decide_eq_false (show ¬ b.toNat = 45 by omega)]; rfl
      refine join_of (fun z w => False) (fun k5 hk5 => ?_) (fun z w hf => hf.elim)
      refine S_sign ?_
      rw [decide_eq_false (show ¬ (97 ≤ c ∧ c ≤ 122) by omega), decide_eq_false (show ¬ (48 ≤ c ∧ c ≤ 57) by omega), decide_eq_false (show ¬ c = 45 by omega)]
      exact itT rfl (no (hno hs) (dl0_ h))
theorem S_Name (h : St w0 E w) (und : Pr.underlying T_string = some .string) {s : ByteArray} {k : Bool → PT} (hk : ∀ w', St w0 E w' → k (shortB s.data.toList 16) w') : L.call Pr n_label_Name [.string s] (.one (.one .bool)) k w := by
  refine call_of (C_label_Name _) ?_
  unfold F_label_Name
  exact S_short h und fun w h => ⟨_, rfl, hk w h⟩
end Go.Proofs.YtpnbgpolbjbhpaaGreatDoor
