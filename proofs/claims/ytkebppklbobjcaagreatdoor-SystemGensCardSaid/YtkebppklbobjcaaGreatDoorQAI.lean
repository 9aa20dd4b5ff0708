/- What is proved on the way to a statement of the seat, pressed (text AI). No conditions beyond those its theorems state. -/
import Derived.Test.YtkebppklbobjcaaGreatDoorQAH
import Derived.Shelf.Strconv.Atoi
import Derived.Shelf.Strconv.Itoa3
import Derived.Shelf.Strings.LastIndex
import Derived.Lib.LaidTab
import Derived.Lib.Join
import Derived.Lib.ItoaNum
import Derived.Lib.ItoaMem
import Derived.Below
import Derived.Shelf.Strings.OnBuilder
import Derived.Shelf.Slices.CompactS
set_option linter.all false
namespace Go.Proofs.YtkebppklbobjcaaGreatDoor
open Go.Dm
variable {w0 w : World} {E : List Seg}
abbrev I (n : Int) : Value := .int .i64 n
theorem wr {n : Int} (h1 : -9223372036854775808 ≤ n) (h2 : n < 9223372036854775808) : IntKind.wrap .i64 n = n := by rw [IntKind.wrap_i64]; omega
theorem elI : El Pr T_s_int T_int 1 8 (I 0) := el_of (by kernel_rfl) (by kernel_rfl) rfl (by decide)
def eI (n : Int) : List Value := [I n]
theorem encI : Enc eI 1 := ⟨fun _ => rfl, fun _ => rfl, by decide⟩
theorem oldI {v : Sl} {l : List Int} (o : Old w0 eI v l) (h : St w0 E w) {n : Int} {kk : Int → PT} (h0 : 0 ≤ n) (h1 : n < v.len) (hk : ∀ x, l[n.toNat]? = some x → kk x w) : L.idx v.a n v.len 1 (fun a => L.load (.one (.int .i64)) a kk) w :=
  old1 o encI h (lf := .int .i64) (fun x => x) (fun x => ⟨_, rfl, rfl⟩) h0 h1 hk
theorem fl_I (l : List Int) : fl eI l = l.map I := by
  induction l with
  | nil => rfl
  | cons x l ih => simp only [fl, List.flatMap_cons, List.map_cons] at *; rw [ih]; rfl
theorem old_ints {W : World} {v : Sl} {l : List Int} (h1 : v.len = l.length) (h2 : ∀ i x, l[i]? = some x → ∃ a, v.a = some a ∧ W.cell? (a.add i) = some (I x)) : Old W eI v l := by
  refine ⟨⟨h1, fun j u hj => ?_⟩⟩
  rw [fl_I, nth_getElem?, List.getElem?_map] at hj
  cases hx : l[j]? with
  | none => rw [hx] at hj; cases hj
  | some x => rw [hx] at hj; cases hj; exact h2 j x hx
theorem tmod_within (p0 p1 : Int) (h : 0 < p1) : Int.tmod p0 p1 = if 0 ≤ p0 ∨ p1 ∣ p0 then p0 % p1 else p0 % p1 - p1 := by
  rw [Int.tmod_eq_emod]
  split
  · simp
  · omega
end Go.Proofs.YtkebppklbobjcaaGreatDoor
namespace Go.Proofs.YtkebppklbobjcaaGreatDoor
open Go.Dm
attribute [local irreducible] L.load L.store L.chk L.new L.nonnil L.guard L.ite L.draw L.idx L.sem L.semR L.semU L.chkSem L.next L.call L.callV L.join L.alts L.loop L.begin L.endRound L.range
variable {w0 w : World} {E : List Seg}
def letterB (b : UInt8) : Bool := decide (97 ≤ b.toNat ∧ b.toNat ≤ 122)
def signB (b : UInt8) : Bool := letterB b || decide (48 ≤ b.toNat ∧ b.toNat ≤ 57) || decide (b.toNat = 45)
def shortB (l : List UInt8) (most : Int) : Bool := l.all signB && (l.head?.map letterB).getD false && (match l.getLast? with | some b => decide (b.toNat ≠ 45) | none => false) && decide ((l.length : Int) ≤ most)
abbrev J (n : Int) : Value := .int .i32 n
theorem S_letter {c : Int} {k : Bool → PT} (hk : k (decide (97 ≤ c ∧ c ≤ 122)) w) : L.call Pr n_label_letter [J c] (.one (.one .bool)) k w := by
  refine call_of (C_label_letter _) ?_
  unfold F_label_letter
  refine it (fun h => ?_) (fun h => ?_) <;> (try simp only [decide_eq_true_eq, decide_eq_false_iff_not, beq_iff_eq, bne_iff_ne, beq_eq_false_iff_ne, bne_eq_false_iff_eq, Bool.not_eq_true', Bool.not_eq_false', ne_eq, Bool.not_eq_true, Bool.not_eq_false] at h)
  · refine ⟨_, rfl, ?_⟩
    have e : decide (97 ≤ c ∧ c ≤ 122) = decide (c ≤ 122) := by by_cases h2 : c ≤ 122 <;> simp [h2]; omega
    rw [e] at hk; exact hk
  · refine ⟨false, rfl, ?_⟩
    have e : decide (97 ≤ c ∧ c ≤ 122) = false := decide_eq_false (by omega)
    rw [e] at hk; exact hk
theorem S_sign {c : Int} {k : Bool → PT} (hk : k (decide (97 ≤ c ∧ c ≤ 122) || decide (48 ≤ c ∧ c ≤ 57) || decide (c = 45)) w) : L.call Pr n_label_sign [J c] (.one (.one .bool)) k w := by
  refine call_of (C_label_sign _) ?_
  unfold F_label_sign
  refine S_letter ?_
  refine it (fun h => ?_) (fun h => ?_) <;> (try simp only [decide_eq_true_eq, decide_eq_false_iff_not, beq_iff_eq, bne_iff_ne, beq_eq_false_iff_ne, bne_eq_false_iff_eq, Bool.not_eq_true', Bool.not_eq_false', ne_eq, Bool.not_eq_true, Bool.not_eq_false] at h)
  · refine ⟨true, rfl, ?_⟩
    rw [decide_eq_true h] at hk; exact hk
  · rw [decide_eq_false h, Bool.false_or] at hk
    have e45 : (c == 45) = decide (c = 45) := by by_cases h : c = 45 <;> simp [h]
    refine it (fun h1 => ?_) (fun h1 => ?_) <;> (try simp only [decide_eq_true_eq, decide_eq_false_iff_not, beq_iff_eq, bne_iff_ne, beq_eq_false_iff_ne, bne_eq_false_iff_eq, Bool.not_eq_true', Bool.not_eq_false', ne_eq, Bool.not_eq_true, Bool.not_eq_false] at h1)
    · refine it (fun h2 => ?_) (fun h2 => ?_) <;> (try simp only [decide_eq_true_eq, decide_eq_false_iff_not, beq_iff_eq, bne_iff_ne, beq_eq_false_iff_ne, bne_eq_false_iff_eq, Bool.not_eq_true', Bool.not_eq_false', ne_eq, Bool.not_eq_true, Bool.not_eq_false] at h2)
      · refine ⟨true, rfl, ?_⟩
        rw [decide_eq_true ⟨by omega, h2⟩] at hk; exact hk
      · refine ⟨_, rfl, ?_⟩
        rw [decide_eq_false (fun hh => h2 hh.2), Bool.false_or] at hk
        rw [e45]; exact hk
    · refine ⟨_, rfl, ?_⟩
      rw [decide_eq_false (fun hh => by omega), Bool.false_or] at hk
      rw [e45]; exact hk
theorem signB_eq (b : UInt8) : (decide (97 ≤ (b.toNat : Int) ∧ (b.toNat : Int) ≤ 122) || decide (48 ≤ (b.toNat : Int) ∧ (b.toNat : Int) ≤ 57) || decide ((b.toNat : Int) = 45)) = signB b := by
  unfold signB letterB
  congr 1
  · congr 1 <;> (apply decide_eq_decide.2; omega)
  · apply decide_eq_decide.2; omega
theorem str_at {s : ByteArray} {pos : Nat} (hp : pos < s.size) : s.data.toList[pos]? = some (s[pos]'hp) := by
  have : pos < s.data.toList.length := by simpa using hp
  rw [List.getElem?_eq_getElem this]
  simp [ByteArray.getElem_eq_getElem_data]
theorem S_short (h : St w0 E w) (und : Pr.underlying T_string = some .string) {s : ByteArray} {most : Int} {k : Bool → PT} (hk : ∀ w', St w0 E w' → k (shortB s.data.toList most) w') : L.call Pr n_label_short [.string s, I most] (.one (.one .bool)) k w := by
  refine call_of (C_label_short _ _) ?_
  unfold F_label_short
  refine rangeStr und h fun r w h => ?_
  have hsz : s.data.toList.length = s.size := by simp
  generalize hl : s.data.toList = l at hk hsz
  refine loop_of (fun q y w => ∃ pos : Nat, y = ((if pos = 0 then (45 : Int) else ((l[pos - 1]?).map fun b => (b.toNat : Int)).getD 0), ()) ∧ q + pos = s.size ∧ (l.take pos).all signB = true ∧ (0 < pos → (l.head?.map letterB).getD false = true) ∧ St w0 (ItS r s pos :: E) w) s.size
    ⟨0, rfl, rfl, rfl, by simp, h⟩ ?_
  clear h; (try clear w)
  rintro q y w ⟨pos, rfl, hq, hall, hhd, h⟩ again hag
  dsimp only
  have no : ∀ {w}, shortB l most = false → St w0 E w → ∃ x, Value.bool false = RT.val (.one (.one .bool)) x ∧ k x w := fun hs h => ⟨false, rfl, by have := hk _ h; rw [hs] at this; exact this⟩
  refine nextStr h 0 rfl (fun he => ?_) (fun hp c d w' ha hh hd h => ?_)
  · have hpos : pos = l.length := by omega
    subst hpos
    rw [List.take_length] at hall
    replace h := dl0_ h
    cases hgl : l.getLast? with
    | none =>
      have : l = [] := List.getLast?_eq_none_iff.1 hgl
      have hs : shortB l most = false := by rw [this]; rfl
      rw [if_pos (by rw [this]; rfl)]
      exact itF rfl (no hs h)
    | some b =>
      have hne : l ≠ [] := fun e => by subst e; cases hgl
      have hlen : l.length ≠ 0 := fun e => hne (List.eq_nil_of_length_eq_zero e)
      have hx : l[l.length - 1]? = some b := by rw [← List.getLast?_eq_getElem?]; exact hgl
      rw [if_neg hlen, hx]
      have hsb : shortB l most = (decide (b.toNat ≠ 45) && decide ((l.length : Int) ≤ most)) := by
        unfold shortB; rw [hall, hhd (by omega), hgl]; simp
      simp only [Option.map_some, Option.getD_some]
      refine it (fun h45 => ?_) (fun h45 => ?_) <;> (try simp only [decide_eq_true_eq, decide_eq_false_iff_not, beq_iff_eq, bne_iff_ne, beq_eq_false_iff_ne, bne_eq_false_iff_eq, Bool.not_eq_true', Bool.not_eq_false', ne_eq, Bool.not_eq_true, Bool.not_eq_false] at h45)
      · refine ⟨_, rfl, ?_⟩
        have := hk _ h
        rw [hsb, decide_eq_true (show b.toNat ≠ 45 by omega), Bool.true_and, hsz] at this
        exact this
      · refine no ?_ h
        rw [hsb, decide_eq_false (show ¬ b.toNat ≠ 45 by omega)]; rfl
  · have hx : l[pos]? = some (s[pos]'hp) := by rw [← hl]; exact str_at hp
    generalize s[pos]'hp = b at hx ha hh
    have hmem : b ∈ l := List.mem_of_getElem? hx
    have hno : signB b = false → shortB l most = false := fun hs => by
      unfold shortB
      have : l.all signB = false := by
        rw [List.all_eq_false]; exact ⟨b, hmem, by simp [hs]⟩
      rw [this]; rfl
    by_cases hb : b.toNat < 128
    · obtain ⟨rfl, rfl⟩ := ha hb
      have h : St w0 (ItS r s (pos + 1) :: E) w' := h
      refine join_of (fun z w => (0 < pos + 1 → (l.head?.map letterB).getD false = true) ∧ signB b = true ∧ St w0 (ItS r s (pos + 1) :: E) w) (fun k5 hk5 => ?_) (fun z w ⟨hhd, hs, h⟩ => ?_)
      · refine S_sign ?_
        rw [signB_eq]
        refine it (fun hs => ?_) (fun hs => ?_)
        · exact no (hno (by simpa using hs)) (dl0_ h)
        · have hs : signB b = true := by simpa using hs
          refine it (fun h0 => ?_) (fun h0 => ?_)
          · have h0 : pos = 0 := by simpa using h0
            subst h0
            have hhead : l.head? = some b := by rw [List.head?_eq_getElem?]; exact hx
            have el : decide (97 ≤ (b.toNat : Int) ∧ (b.toNat : Int) ≤ 122) = letterB b := by unfold letterB; apply decide_eq_decide.2; omega
            refine S_letter ?_
            rw [el]
            refine it (fun hlt => ?_) (fun hlt => ?_)
            · refine no ?_ (dl0_ h)
              have hlt : letterB b = false := by simpa using hlt
              unfold shortB; rw [hhead]; simp [hlt]
            · have hlt : letterB b = true := by simpa using hlt
              exact hk5 _ _ ⟨fun _ => by rw [hhead]; exact hlt, hs, h⟩
          · have h0 : pos ≠ 0 := by simpa using h0
            exact hk5 _ _ ⟨fun _ => hhd (by omega), hs, h⟩
      · refine hag (q - 1) _ w (by omega) ⟨pos + 1, ?_, by omega, ?_, hhd, h⟩
        · rw [if_neg (by omega), Nat.add_sub_cancel, hx]; rfl
        · rw [List.take_add_one, hx, List.all_append, hall]; simp [hs]
    · have hc := hh (by omega)
      have hs : signB b = false := by
        unfold signB letterB
        rw [decide_eq_false (show ¬ (97 ≤ b.toNat ∧ b.toNat ≤ 122) by omega), decide_eq_false (show ¬ (48 ≤ b.toNat ∧ b.toNat ≤ 57) by omega), decide_eq_false (show ¬ b.toNat = 45 by omega)]; rfl
      refine join_of (fun z w => False) (fun k5 hk5 => ?_) (fun z w hf => hf.elim)
      refine S_sign ?_
      rw [decide_eq_false (show ¬ (97 ≤ c ∧ c ≤ 122) by omega), decide_eq_false (show ¬ (48 ≤ c ∧ c ≤ 57) by omega), decide_eq_false (show ¬ c = 45 by omega)]
      exact itT rfl (no (hno hs) (dl0_ h))
theorem S_Name (h : St w0 E w) (und : Pr.underlying T_string = some .string) {s : ByteArray} {k : Bool → PT} (hk : ∀ w', St w0 E w' → k (shortB s.data.toList 16) w') : L.call Pr n_label_Name [.string s] (.one (.one .bool)) k w := by
  refine call_of (C_label_Name _) ?_
  unfold F_label_Name
  exact S_short h und fun w h => ⟨_, rfl, hk w h⟩
end Go.Proofs.YtkebppklbobjcaaGreatDoor

namespace Go.Proofs
open Go.Shelf
def Tryz.lays172_ren : Go.Shelf.Ren := ⟨fun | 172 => 172 | 244 => 215 | 245 => 216 | 247 => 246 | 279 => 247 | 280 => 248 | 281 => 249 | 282 => 250 | 287 => 279 | 316 => 280 | 171 => 61 | 205 => 281 | 321 => 296 | 322 => 297 | 243 => 115 | 246 => 177 | 283 => 218 | 284 => 219 | 285 => 220 | 286 => 221 | 129 => 252 | 317 => 251 | 318 => 253 | 319 => 254 | 320 => 255 | 337 => 282 | 338 => 283 | n => n, fun | 9 => 9 | 3 => 3 | 75 => 212 | 76 => 213 | 4 => 4 | 5 => 5 | 167 => 375 | 37 => 75 | 0 => 0 | 85 => 376 | 2 => 2 | 168 => 378 | 53 => 344 | 175 => 400 | 46 => 362 | 210 => 404 | 127 => 305 | 145 => 419 | 143 => 417 | 21 => 21 | 171 => 343 | 173 => 347 | 212 => 383 | 51 => 372 | 20 => 20 | 213 => 384 | 232 => 420 | 233 => 421 | 80 => 78 | n => n, fun | 15 => 2 | 16 => 3 | 17 => 1 | 18 => 4 | 19 => 5 | n => n⟩
theorem Tryz.lays172 : Go.Proofs.Lays.n172 Tryz.prog Tryz.lays172_ren := {
  mixed := by kernel_rfl
  f129 := Tryz.func252.trans (congrArg some (by kernel_rfl))
  f171 := Tryz.func61.trans (congrArg some (by kernel_rfl))
  f172 := Tryz.func172.trans (congrArg some (by kernel_rfl))
  f205 := Tryz.func281.trans (congrArg some (by kernel_rfl))
  f243 := Tryz.func115.trans (congrArg some (by kernel_rfl))
  f244 := Tryz.func215.trans (congrArg some (by kernel_rfl))
  f245 := Tryz.func216.trans (congrArg some (by kernel_rfl))
  f246 := Tryz.func177.trans (congrArg some (by kernel_rfl))
  f247 := Tryz.func246.trans (congrArg some (by kernel_rfl))
  f279 := Tryz.func247.trans (congrArg some (by kernel_rfl))
  f280 := Tryz.func248.trans (congrArg some (by kernel_rfl))
  f281 := Tryz.func249.trans (congrArg some (by kernel_rfl))
  f282 := Tryz.func250.trans (congrArg some (by kernel_rfl))
  f283 := Tryz.func218.trans (congrArg some (by kernel_rfl))
  f284 := Tryz.func219.trans (congrArg some (by kernel_rfl))
  f285 := Tryz.func220.trans (congrArg some (by kernel_rfl))
  f286 := Tryz.func221.trans (congrArg some (by kernel_rfl))
  f287 := Tryz.func279.trans (congrArg some (by kernel_rfl))
  f316 := Tryz.func280.trans (congrArg some (by kernel_rfl))
  f317 := Tryz.func251.trans (congrArg some (by kernel_rfl))
  f318 := Tryz.func253.trans (congrArg some (by kernel_rfl))
  f319 := Tryz.func254.trans (congrArg some (by kernel_rfl))
  f320 := Tryz.func255.trans (congrArg some (by kernel_rfl))
  f321 := Tryz.func296.trans (congrArg some (by kernel_rfl))
  f322 := Tryz.func297.trans (congrArg some (by kernel_rfl))
  f337 := Tryz.func282.trans (congrArg some (by kernel_rfl))
  f338 := Tryz.func283.trans (congrArg some (by kernel_rfl))
  t0 := Tryz.underlying0
  a0 := Tryz.isAgg0
  z0 := Tryz.sizeOf0
  v0 := Tryz.zeroValue0
  t2 := Tryz.underlying2
  a2 := Tryz.isAgg2
  z2 := Tryz.sizeOf2
  v2 := Tryz.zeroValue2
  t3 := Tryz.underlying3
  a3 := Tryz.isAgg3
  z3 := Tryz.sizeOf3
  v3 := Tryz.zeroValue3
  t4 := Tryz.underlying4
  a4 := Tryz.isAgg4
  z4 := Tryz.sizeOf4
  v4 := Tryz.zeroValue4
  t5 := Tryz.underlying5
  a5 := Tryz.isAgg5
  z5 := Tryz.sizeOf5
  v5 := Tryz.zeroValue5
  t9 := Tryz.underlying9
  a9 := Tryz.isAgg9
  z9 := Tryz.sizeOf9
  v9 := Tryz.zeroValue9
  t20 := Tryz.underlying20
  a20 := Tryz.isAgg20
  z20 := Tryz.sizeOf20
  v20 := Tryz.zeroValue20
  t21 := Tryz.underlying21
  a21 := Tryz.isAgg21
  z21 := Tryz.sizeOf21
  v21 := Tryz.zeroValue21
  t37 := Tryz.underlying75
  a37 := Tryz.isAgg75
  z37 := Tryz.sizeOf75
  v37 := Tryz.zeroValue75
  t46 := Tryz.underlying362
  a46 := Tryz.isAgg362
  z46 := Tryz.sizeOf362
  v46 := Tryz.zeroValue362
  t51 := Tryz.underlying372
  a51 := Tryz.isAgg372
  z51 := Tryz.sizeOf372
  v51 := Tryz.zeroValue372
  t53 := Tryz.underlying344
  a53 := Tryz.isAgg344
  z53 := Tryz.sizeOf344
  v53 := Tryz.zeroValue344
  t75 := Tryz.underlying212
  a75 := Tryz.isAgg212
  z75 := Tryz.sizeOf212
  v75 := Tryz.zeroValue212
  t76 := Tryz.underlying213
  a76 := Tryz.isAgg213
  z76 := Tryz.sizeOf213
  v76 := Tryz.zeroValue213
  t85 := Tryz.underlying376
  a85 := Tryz.isAgg376
  z85 := Tryz.sizeOf376
  v85 := Tryz.zeroValue376
  t127 := Tryz.underlying305
  a127 := Tryz.isAgg305
  z127 := Tryz.sizeOf305
  v127 := Tryz.zeroValue305
  t143 := Tryz.underlying417
  a143 := Tryz.isAgg417
  z143 := Tryz.sizeOf417
  v143 := Tryz.zeroValue417
  t145 := Tryz.underlying419
  a145 := Tryz.isAgg419
  z145 := Tryz.sizeOf419
  v145 := Tryz.zeroValue419
  t167 := Tryz.underlying375
  a167 := Tryz.isAgg375
  z167 := Tryz.sizeOf375
  v167 := Tryz.zeroValue375
  t168 := Tryz.underlying378
  a168 := Tryz.isAgg378
  z168 := Tryz.sizeOf378
  v168 := Tryz.zeroValue378
  t171 := Tryz.underlying343
  a171 := Tryz.isAgg343
  z171 := Tryz.sizeOf343
  v171 := Tryz.zeroValue343
  t173 := Tryz.underlying347
  a173 := Tryz.isAgg347
  z173 := Tryz.sizeOf347
  v173 := Tryz.zeroValue347
  t175 := Tryz.underlying400
  a175 := Tryz.isAgg400
  z175 := Tryz.sizeOf400
  v175 := Tryz.zeroValue400
  t210 := Tryz.underlying404
  a210 := Tryz.isAgg404
  z210 := Tryz.sizeOf404
  v210 := Tryz.zeroValue404
  t212 := Tryz.underlying383
  a212 := Tryz.isAgg383
  z212 := Tryz.sizeOf383
  v212 := Tryz.zeroValue383
  t213 := Tryz.underlying384
  a213 := Tryz.isAgg384
  z213 := Tryz.sizeOf384
  t232 := Tryz.underlying420
  a232 := Tryz.isAgg420
  z232 := Tryz.sizeOf420
  v232 := Tryz.zeroValue420
  t233 := Tryz.underlying421
  a233 := Tryz.isAgg421
  z233 := Tryz.sizeOf421
  v233 := Tryz.zeroValue421
  g15 := by kernel_rfl
  g16 := by kernel_rfl
  g17 := by kernel_rfl
  g18 := by kernel_rfl
  g19 := by kernel_rfl }
open Go.RowKit in
theorem Tryz.strconv_Atoi (s : ByteArray) (n : Int) (hl : s.size ≤ 18) (h : Lib.atoi s.data.toList = some n) (w : World) :
    Calls Tryz.prog 172 #[.string s] w fun e w' => e = .returned (.tuple #[.int .i64 n, .nilIface]) ∧ ∃ t, w' = Lib.bytesWorld w 5 t := Any.strconv_Atoi Tryz.lays172 s n hl h w
def Tryz.lays171_ren : Go.Shelf.Ren := ⟨fun | 171 => 61 | 243 => 115 | 246 => 177 | 283 => 218 | 284 => 219 | 285 => 220 | 286 => 221 | 129 => 252 | 317 => 251 | 318 => 253 | 319 => 254 | 320 => 255 | 337 => 282 | 338 => 283 | n => n, fun | 3 => 3 | 9 => 9 | 2 => 2 | 4 => 4 | 171 => 343 | 0 => 0 | 53 => 344 | 37 => 75 | 5 => 5 | 173 => 347 | 212 => 383 | 51 => 372 | 20 => 20 | 213 => 384 | 46 => 362 | 232 => 420 | 233 => 421 | n => n, fun | 17 => 1 | 18 => 4 | 19 => 5 | n => n⟩
theorem Tryz.lays171 : Go.Proofs.Lays.n171 Tryz.prog Tryz.lays171_ren := {
  mixed := by kernel_rfl
  f129 := Tryz.func252.trans (congrArg some (by kernel_rfl))
  f171 := Tryz.func61.trans (congrArg some (by kernel_rfl))
  f243 := Tryz.func115.trans (congrArg some (by kernel_rfl))
  f246 := Tryz.func177.trans (congrArg some (by kernel_rfl))
  f283 := Tryz.func218.trans (congrArg some (by kernel_rfl))
  f284 := Tryz.func219.trans (congrArg some (by kernel_rfl))
  f285 := Tryz.func220.trans (congrArg some (by kernel_rfl))
  f286 := Tryz.func221.trans (congrArg some (by kernel_rfl))
  f317 := Tryz.func251.trans (congrArg some (by kernel_rfl))
  f318 := Tryz.func253.trans (congrArg some (by kernel_rfl))
  f319 := Tryz.func254.trans (congrArg some (by kernel_rfl))
  f320 := Tryz.func255.trans (congrArg some (by kernel_rfl))
  f337 := Tryz.func282.trans (congrArg some (by kernel_rfl))
  f338 := Tryz.func283.trans (congrArg some (by kernel_rfl))
  t0 := Tryz.underlying0
  a0 := Tryz.isAgg0
  z0 := Tryz.sizeOf0
  v0 := Tryz.zeroValue0
  t2 := Tryz.underlying2
  a2 := Tryz.isAgg2
  z2 := Tryz.sizeOf2
  v2 := Tryz.zeroValue2
  t3 := Tryz.underlying3
  a3 := Tryz.isAgg3
  z3 := Tryz.sizeOf3
  v3 := Tryz.zeroValue3
  t4 := Tryz.underlying4
  a4 := Tryz.isAgg4
  z4 := Tryz.sizeOf4
  v4 := Tryz.zeroValue4
  t5 := Tryz.underlying5
  a5 := Tryz.isAgg5
  z5 := Tryz.sizeOf5
  v5 := Tryz.zeroValue5
  t9 := Tryz.underlying9
  a9 := Tryz.isAgg9
  z9 := Tryz.sizeOf9
  v9 := Tryz.zeroValue9
  t20 := Tryz.underlying20
  a20 := Tryz.isAgg20
  z20 := Tryz.sizeOf20
  v20 := Tryz.zeroValue20
  t37 := Tryz.underlying75
  a37 := Tryz.isAgg75
  z37 := Tryz.sizeOf75
  v37 := Tryz.zeroValue75
  t46 := Tryz.underlying362
  a46 := Tryz.isAgg362
  z46 := Tryz.sizeOf362
  v46 := Tryz.zeroValue362
  t51 := Tryz.underlying372
  a51 := Tryz.isAgg372
  z51 := Tryz.sizeOf372
  v51 := Tryz.zeroValue372
  t53 := Tryz.underlying344
  a53 := Tryz.isAgg344
  z53 := Tryz.sizeOf344
  v53 := Tryz.zeroValue344
  t171 := Tryz.underlying343
  a171 := Tryz.isAgg343
  z171 := Tryz.sizeOf343
  v171 := Tryz.zeroValue343
  t173 := Tryz.underlying347
  a173 := Tryz.isAgg347
  z173 := Tryz.sizeOf347
  v173 := Tryz.zeroValue347
  t212 := Tryz.underlying383
  a212 := Tryz.isAgg383
  z212 := Tryz.sizeOf383
  v212 := Tryz.zeroValue383
  t213 := Tryz.underlying384
  a213 := Tryz.isAgg384
  z213 := Tryz.sizeOf384
  t232 := Tryz.underlying420
  a232 := Tryz.isAgg420
  z232 := Tryz.sizeOf420
  v232 := Tryz.zeroValue420
  t233 := Tryz.underlying421
  a233 := Tryz.isAgg421
  z233 := Tryz.sizeOf421
  v233 := Tryz.zeroValue421
  g17 := by kernel_rfl
  g18 := by kernel_rfl
  g19 := by kernel_rfl }
open Go.RowKit Go.Sort Go.Lib in
theorem Tryz.strconv_Itoa_small (i : Nat) (hi : i < 100) (w : World) :
    Calls Tryz.prog 61 #[.int .i64 i] w fun e w' => e = .returned (.string ⟨(Lib.decDigits i).toArray⟩) ∧ w' = w := Any.strconv_Itoa_small Tryz.lays171 i hi w
def Tryz.lays148_ren : Go.Shelf.Ren := ⟨fun | 148 => 171 | 222 => 213 | 223 => 214 | 269 => 245 | n => n, fun | 9 => 9 | 3 => 3 | 4 => 4 | 5 => 5 | 146 => 373 | 51 => 372 | 46 => 362 | n => n, fun | n => n⟩
theorem Tryz.lays148 : Go.Proofs.Lays.n148 Tryz.prog Tryz.lays148_ren := {
  mixed := by kernel_rfl
  f148 := Tryz.func171.trans (congrArg some (by kernel_rfl))
  f222 := Tryz.func213.trans (congrArg some (by kernel_rfl))
  f223 := Tryz.func214.trans (congrArg some (by kernel_rfl))
  f269 := Tryz.func245.trans (congrArg some (by kernel_rfl))
  t3 := Tryz.underlying3
  a3 := Tryz.isAgg3
  z3 := Tryz.sizeOf3
  v3 := Tryz.zeroValue3
  t4 := Tryz.underlying4
  a4 := Tryz.isAgg4
  z4 := Tryz.sizeOf4
  v4 := Tryz.zeroValue4
  t5 := Tryz.underlying5
  a5 := Tryz.isAgg5
  z5 := Tryz.sizeOf5
  v5 := Tryz.zeroValue5
  t9 := Tryz.underlying9
  a9 := Tryz.isAgg9
  z9 := Tryz.sizeOf9
  v9 := Tryz.zeroValue9
  t46 := Tryz.underlying362
  a46 := Tryz.isAgg362
  z46 := Tryz.sizeOf362
  v46 := Tryz.zeroValue362
  t51 := Tryz.underlying372
  a51 := Tryz.isAgg372
  z51 := Tryz.sizeOf372
  v51 := Tryz.zeroValue372
  t146 := Tryz.underlying373
  a146 := Tryz.isAgg373
  z146 := Tryz.sizeOf373
  v146 := Tryz.zeroValue373 }
open Go.RowKit Go.Lib in
theorem Tryz.strings_LastIndex_one (s sub : ByteArray) (h1 : sub.size = 1) (hs : s.size < 4611686018427387904) (w : World) :
    Calls Tryz.prog 171 #[.string s, .string sub] w fun e w' => e = .returned (.int .i64 (Lib.lastIndexByte s ((sub[0]'(by omega)).toNat : Int))) ∧ w' = w := Any.strings_LastIndex_one Tryz.lays148 s sub h1 hs w
end Go.Proofs
namespace Go.Proofs.YtkebppklbobjcaaGreatDoor
open Go.Dm
theorem call_calls {P : Program} {f : FuncId} {args : List Value} {r : RT} {k : r.T → PT} {w : World} {R : Ending → World → Prop} (hc : Calls P f args.toArray w R) (hk : ∀ e w', R e w' → ∃ x, e = .returned (r.val x) ∧ k x w') : L.call P f args r k w := Calls.mono hc hk
theorem _root_.Go.Dm.St.bytes {w0 w : World} {E : List Seg} (h : St w0 E w) (e : TypeId) (s : ByteArray) : St w0 E (Lib.bytesWorld w e s) := by
  refine ⟨by rw [Lib.bytesWorld_size]; have := h.size; omega, fun b hb => ?_, h.os, h.out, h.tape, fun x hx => ?_, h.nd, fun _ _ _ _ => rfl⟩
  · rw [Lib.bytesWorld_at_old w e s b (Nat.lt_of_lt_of_le hb h.size)]; exact h.old b hb
  · have := h.own x hx
    rw [Lib.bytesWorld_at_old w e s _ (Array.getElem?_eq_some_iff.1 this.2).1]; exact this
attribute [local irreducible] L.load L.store L.chk L.new L.nonnil L.guard L.ite L.draw L.idx L.sem L.semR L.semU L.chkSem L.next L.call L.callV L.join L.alts L.loop L.begin L.endRound L.range
variable {w0 w : World} {E : List Seg}
def decB (g : Nat) : ByteArray := ⟨(Lib.decDigits g).toArray⟩
def revB (c : ByteArray) (g : Nat) : ByteArray := (c ++ s___b5d2) ++ decB g
theorem data_revB (c : ByteArray) (g : Nat) : (revB c g).data.toList = c.data.toList ++ 45 :: Lib.decDigits g := by
  simp [revB, decB, s___b5d2, ByteArray.data_append]
theorem bytes_ext {a b : ByteArray} (h : a.data.toList = b.data.toList) : a = b := ByteArray.ext (Array.toList_inj.1 h)
theorem data_extract (a : ByteArray) (i j : Nat) : (a.extract i j).data.toList = (a.data.toList.drop i).take (j - i) := by
  simp [ByteArray.data_extract, Array.toList_extract, List.extract]
theorem size_list (a : ByteArray) : a.data.toList.length = a.size := by simp
def decL (g : Nat) : List UInt8 := if g < 10 then [UInt8.ofNat (48 + g)] else [UInt8.ofNat (48 + g / 10), UInt8.ofNat (48 + g % 10)]
theorem dec_eq {g : Nat} (h : g < 100) : Lib.decDigits g = decL g := by
  unfold decL
  split
  · rename_i h1; exact Lib.decDigits_one h1
  · rename_i h1; exact Lib.decDigits_two h1 h
theorem dec_facts : ∀ g : Fin 100, (∀ b ∈ decL g, 48 ≤ b.toNat ∧ b.toNat ≤ 57) ∧ (decL g).length ≤ 2 ∧ 1 ≤ (decL g).length ∧ Lib.atoi (decL g) = some (g : Int) := by decide
theorem dec_ok {g : Nat} (h : g < 100) : (∀ b ∈ Lib.decDigits g, 48 ≤ b.toNat ∧ b.toNat ≤ 57) ∧ (Lib.decDigits g).length ≤ 2 ∧ 1 ≤ (Lib.decDigits g).length ∧ Lib.atoi (Lib.decDigits g) = some (g : Int) := by
  rw [dec_eq h]; exact dec_facts ⟨g, h⟩
theorem last_rev (c : ByteArray) {g : Nat} (hg : g < 100) : Lib.lastIndexByte (revB c g) 45 = c.size := by
  have hd := data_revB c g
  have hc := size_list c
  have hs := size_list (revB c g)
  rw [hd] at hs
  simp only [List.length_append, List.length_cons] at hs
  have at0 : (revB c g).data[c.size]! = 45 := by
    rw [← Array.getElem!_toList, hd, ← hc]
    simp
  have far : ∀ i, c.size < i → i < (revB c g).size → ((revB c g).data[i]!).toNat ≠ 45 := by
    intro i h1 h2
    rw [← Array.getElem!_toList, hd]
    have hmem : (c.data.toList ++ 45 :: Lib.decDigits g)[i]! ∈ Lib.decDigits g := by
      rw [List.getElem!_eq_getElem?_getD, List.getElem?_append_right (by omega), hc]
      obtain ⟨m, hm⟩ : ∃ m, i - c.size = m + 1 := ⟨i - c.size - 1, by omega⟩
      rw [hm, List.getElem?_cons_succ, List.getElem?_eq_getElem (by omega)]
      simp
    have := (dec_ok hg).1 _ hmem
    omega
  rcases Lib.lastIdx_spec (revB c g) 45 (revB c g).size with ⟨-, h⟩ | ⟨i, h1, h2, h3, h4⟩
  · exact absurd (by rw [at0]; rfl) (h c.size (by omega))
  · show Lib.lastIdx _ _ _ = _
    rw [h2]
    have : ¬ c.size < i := fun hlt => far i hlt h1 (by omega)
    have : ¬ i < c.size := fun hlt => h4 c.size hlt (by omega) (by rw [at0]; rfl)
    omega
theorem rev_front (c : ByteArray) (g : Nat) : (revB c g).extract 0 c.size = c := bytes_ext (by rw [data_extract, data_revB, ← size_list c]; simp)
theorem drop_rev (l d : List UInt8) : (l ++ 45 :: d).drop (l.length + 1) = d := by
  rw [show l ++ 45 :: d = (l ++ [45]) ++ d by simp]
  exact List.drop_left' (by simp)
theorem rev_back (c : ByteArray) (g : Nat) : (revB c g).extract (c.size + 1) (revB c g).size = decB g := bytes_ext (by
  rw [data_extract, data_revB, ← size_list c, drop_rev, ← size_list (revB c g), data_revB]
  refine List.take_of_length_le ?_
  simp only [List.length_append, List.length_cons]
  omega)
theorem rev_size (c : ByteArray) {g : Nat} (hg : g < 100) : (revB c g).size ≤ c.size + 3 ∧ c.size + 2 ≤ (revB c g).size := by
  have hs := size_list (revB c g)
  rw [data_revB] at hs
  simp only [List.length_append, List.length_cons, size_list] at hs
  have := dec_ok hg
  omega
theorem short_size {s : ByteArray} {m : Int} (h : shortB s.data.toList m = true) : (s.size : Int) ≤ m := by
  unfold shortB at h
  simp only [Bool.and_eq_true, decide_eq_true_eq, size_list] at h
  exact h.2
theorem S_LastIndex {s : ByteArray} (hs : s.size < 4611686018427387904) {k : Int → PT} (hk : k (Lib.lastIndexByte s 45) w) : L.call Pr n_strings_LastIndex [.string s, .string s___b5d2] (.one (.one (.int .i64))) k w :=
  call_calls (Tryz.strings_LastIndex_one s s___b5d2 rfl hs w) fun e w' ⟨he, hw⟩ => ⟨_, he, by subst hw; exact hk⟩
theorem S_Itoa {g : Nat} (hg : g < 100) {k : ByteArray → PT} (hk : k (decB g) w) : L.call Pr n_strconv_Itoa [I g] (.one (.one .str)) k w :=
  call_calls (Tryz.strconv_Itoa_small g hg w) fun e w' ⟨he, hw⟩ => ⟨_, he, by subst hw; exact hk⟩
theorem S_Atoi (h : St w0 E w) {g : Nat} (hg : g < 100) {k : Int × Option (TypeId × Value) × Unit → PT} (hk : ∀ w', St w0 E w' → k ((g : Int), none, ()) w') : L.call Pr n_strconv_Atoi [.string (decB g)] (.tup [.one (.int .i64), .one .iface]) k w := by
  have hf := dec_ok hg
  have hsz : (decB g).size ≤ 18 := by rw [← size_list]; simp only [decB]; omega
  refine call_calls (Tryz.strconv_Atoi (decB g) g hsz (by simpa [decB] using hf.2.2.2) w) fun e w' ⟨he, t, hw⟩ => ⟨((g : Int), none, ()), he, hk w' ?_⟩
  subst hw
  exact h.bytes 5 t
theorem S_Tag (h : St w0 E w) (und : Pr.underlying T_string = some .string) {s : ByteArray} {k : Bool → PT} (hk : ∀ w', St w0 E w' → k (shortB s.data.toList 8) w') : L.call Pr n_label_Tag [.string s] (.one (.one .bool)) k w := by
  refine call_of (C_label_Tag _) ?_
  unfold F_label_Tag
  exact S_short h und fun w h => ⟨_, rfl, hk w h⟩
theorem S_Rev (h : St w0 E w) (und : Pr.underlying T_string = some .string) {c : ByteArray} {g : Nat} (hc : shortB c.data.toList 16 = true) (h1 : 1 ≤ g) (hg : g < 100) {k : ByteArray → PT} (hk : ∀ w', St w0 E w' → k (revB c g) w') : L.call Pr n_label_Rev [.string c, I g] (.one (.one .str)) k w := by
  refine call_of (C_label_Rev _ _) ?_
  unfold F_label_Rev
  refine S_Name h und fun w h => ?_
  rw [hc]
  have hs := short_size hc
  have hr := rev_size c hg
  refine itF rfl (itF (decide_eq_false (by omega)) (itF (decide_eq_false (by omega)) ?_))
  refine gd ?_ ?_
  · simp only [s___b5d2, maxI64]; show ((c.size + 1 : Nat) : Int) ≤ _; omega
  refine S_Itoa hg ?_
  refine gd ?_ ⟨_, rfl, hk w h⟩
  have : ((c ++ s___b5d2).size + (decB g).size) = (revB c g).size := by unfold revB; rw [ByteArray.size_append (a := c ++ s___b5d2)]
  rw [this]
  simp only [maxI64]; omega
theorem S_Split (h : St w0 E w) (und : Pr.underlying T_string = some .string) {c : ByteArray} {g : Nat} (hc : shortB c.data.toList 16 = true) (h1 : 1 ≤ g) (hg : g < 100) {k : ByteArray × Int × Bool × Unit → PT} (hk : ∀ w', St w0 E w' → k (c, (g : Int), true, ()) w') :
    L.call Pr n_label_Split [.string (revB c g)] (.tup [.one .str, .one (.int .i64), .one .bool]) k w := by
  refine call_of (C_label_Split _) ?_
  unfold F_label_Split
  have hs := short_size hc
  have hr := rev_size c hg
  refine S_LastIndex (by omega) ?_
  rw [last_rev c hg]
  have e1 : IntKind.wrap .i64 ((c.size : Int) + 1) = ((c.size + 1 : Nat) : Int) := by rw [wr (by omega) (by omega)]; simp
  rw [e1]
  refine itF (decide_eq_false (by omega)) (gd (by omega) ?_)
  rw [Int.toNat_natCast, Int.toNat_natCast, rev_back]
  refine S_Atoi h hg fun w h => itF rfl (gd (by omega) ?_)
  have e2 : (revB c g).extract (Int.toNat 0) (Int.toNat (c.size : Int)) = c := rev_front c g
  rw [e2]
  refine S_Rev h und hc h1 hg fun w h => ?_
  refine itF (by rw [str_eq]; simp) (gd (by omega) ⟨(c, (g : Int), true, ()), rfl, hk w h⟩)
theorem S_Split0 {k : ByteArray × Int × Bool × Unit → PT} (hk : k (s_, 0, false, ()) w) : L.call Pr n_label_Split [.string s_] (.tup [.one .str, .one (.int .i64), .one .bool]) k w := by
  refine call_of (C_label_Split _) ?_
  unfold F_label_Split
  refine S_LastIndex (by decide) ?_
  exact itT rfl ⟨_, rfl, hk⟩
end Go.Proofs.YtkebppklbobjcaaGreatDoor

namespace Go.Proofs
open Go.Shelf
def Tryz.lays190_ren : Go.Shelf.Ren := ⟨fun | 190 => 211 | 125 => 232 | 258 => 244 | 128 => 268 | 129 => 252 | 302 => 270 | 303 => 271 | 304 => 272 | 305 => 273 | 306 => 274 | 307 => 275 | 308 => 276 | 309 => 277 | 310 => 278 | 333 => 292 | 329 => 287 | 330 => 288 | 334 => 293 | 335 => 294 | 336 => 295 | 344 => 300 | n => n, fun | 31 => 40 | 9 => 9 | 3 => 3 | 46 => 362 | 0 => 0 | 51 => 372 | 53 => 344 | 4 => 4 | 183 => 389 | 182 => 388 | 131 => 240 | 5 => 5 | 218 => 408 | 222 => 412 | 228 => 422 | 229 => 177 | n => n, fun | n => n⟩
theorem Tryz.lays190 : Go.Proofs.Lays.n190 Tryz.prog Tryz.lays190_ren := {
  mixed := by kernel_rfl
  f125 := Tryz.func232.trans (congrArg some (by kernel_rfl))
  f128 := Tryz.func268.trans (congrArg some (by kernel_rfl))
  f129 := Tryz.func252.trans (congrArg some (by kernel_rfl))
  f190 := Tryz.func211.trans (congrArg some (by kernel_rfl))
  f258 := Tryz.func244.trans (congrArg some (by kernel_rfl))
  f302 := Tryz.func270.trans (congrArg some (by kernel_rfl))
  f303 := Tryz.func271.trans (congrArg some (by kernel_rfl))
  f304 := Tryz.func272.trans (congrArg some (by kernel_rfl))
  f305 := Tryz.func273.trans (congrArg some (by kernel_rfl))
  f306 := Tryz.func274.trans (congrArg some (by kernel_rfl))
  f307 := Tryz.func275.trans (congrArg some (by kernel_rfl))
  f308 := Tryz.func276.trans (congrArg some (by kernel_rfl))
  f309 := Tryz.func277.trans (congrArg some (by kernel_rfl))
  f310 := Tryz.func278.trans (congrArg some (by kernel_rfl))
  f329 := Tryz.func287.trans (congrArg some (by kernel_rfl))
  f330 := Tryz.func288.trans (congrArg some (by kernel_rfl))
  f333 := Tryz.func292.trans (congrArg some (by kernel_rfl))
  f334 := Tryz.func293.trans (congrArg some (by kernel_rfl))
  f335 := Tryz.func294.trans (congrArg some (by kernel_rfl))
  f336 := Tryz.func295.trans (congrArg some (by kernel_rfl))
  f344 := Tryz.func300.trans (congrArg some (by kernel_rfl))
  t0 := Tryz.underlying0
  a0 := Tryz.isAgg0
  z0 := Tryz.sizeOf0
  v0 := Tryz.zeroValue0
  t3 := Tryz.underlying3
  a3 := Tryz.isAgg3
  z3 := Tryz.sizeOf3
  v3 := Tryz.zeroValue3
  t4 := Tryz.underlying4
  a4 := Tryz.isAgg4
  z4 := Tryz.sizeOf4
  v4 := Tryz.zeroValue4
  t5 := Tryz.underlying5
  a5 := Tryz.isAgg5
  z5 := Tryz.sizeOf5
  v5 := Tryz.zeroValue5
  t9 := Tryz.underlying9
  a9 := Tryz.isAgg9
  z9 := Tryz.sizeOf9
  v9 := Tryz.zeroValue9
  t31 := Tryz.underlying40
  a31 := Tryz.isAgg40
  z31 := Tryz.sizeOf40
  v31 := Tryz.zeroValue40
  t46 := Tryz.underlying362
  a46 := Tryz.isAgg362
  z46 := Tryz.sizeOf362
  v46 := Tryz.zeroValue362
  t51 := Tryz.underlying372
  a51 := Tryz.isAgg372
  z51 := Tryz.sizeOf372
  v51 := Tryz.zeroValue372
  t53 := Tryz.underlying344
  a53 := Tryz.isAgg344
  z53 := Tryz.sizeOf344
  v53 := Tryz.zeroValue344
  t131 := Tryz.underlying240
  a131 := Tryz.isAgg240
  z131 := Tryz.sizeOf240
  v131 := Tryz.zeroValue240
  t182 := Tryz.underlying388
  a182 := Tryz.isAgg388
  z182 := Tryz.sizeOf388
  v182 := Tryz.zeroValue388
  t183 := Tryz.underlying389
  a183 := Tryz.isAgg389
  z183 := Tryz.sizeOf389
  v183 := Tryz.zeroValue389
  t218 := Tryz.underlying408
  a218 := Tryz.isAgg408
  z218 := Tryz.sizeOf408
  v218 := Tryz.zeroValue408
  t222 := Tryz.underlying412
  a222 := Tryz.isAgg412
  z222 := Tryz.sizeOf412
  v222 := Tryz.zeroValue412
  t228 := Tryz.underlying422
  a228 := Tryz.isAgg422
  z228 := Tryz.sizeOf422
  v228 := Tryz.zeroValue422
  t229 := Tryz.underlying177
  a229 := Tryz.isAgg177
  z229 := Tryz.sizeOf177
  v229 := Tryz.zeroValue177 }
end Go.Proofs
namespace Go.Proofs.YtkebppklbobjcaaGreatDoor
open Go.Dm
attribute [local irreducible] L.load L.store L.chk L.new L.nonnil L.guard L.ite L.draw L.idx L.sem L.semR L.semU L.chkSem L.next L.call L.callV L.join L.alts L.loop L.begin L.endRound L.range
variable {w0 w : World} {E : List Seg}
def eS (x : ByteArray) : List Value := [.string x]
theorem encS : Enc eS 1 := ⟨fun _ => rfl, fun _ => rfl, by decide⟩
theorem elS : El Pr T_s_string T_string 1 16 (.string s_) := el_of (by kernel_rfl) (by kernel_rfl) rfl (by decide)
abbrev bl (x : ByteArray) : List UInt8 := x.data.toList
def ble (a b : ByteArray) : Bool := decide (bl a ≤ bl b)
theorem ble_trans (a b c : ByteArray) (h1 : ble a b = true) (h2 : ble b c = true) : ble a c = true := by
  unfold ble at *; simp only [decide_eq_true_eq] at *; exact List.le_trans h1 h2
theorem ble_total (a b : ByteArray) : (ble a b || ble b a) = true := by
  unfold ble; simp only [Bool.or_eq_true, decide_eq_true_eq]; exact List.le_total ..
theorem ble_anti {a b : ByteArray} (h1 : ble a b = true) (h2 : ble b a = true) : a = b := by
  unfold ble at *; simp only [decide_eq_true_eq] at *; exact str_inj (List.le_antisymm h1 h2)
def sins (x : ByteArray) : List ByteArray → List ByteArray
  | [] => [x]
  | y :: l => if ble x y = true then x :: y :: l else y :: sins x l
def ssort : List ByteArray → List ByteArray
  | [] => []
  | x :: l => sins x (ssort l)
theorem sins_perm (x : ByteArray) : ∀ l : List ByteArray, (sins x l).Perm (x :: l)
  | [] => .refl _
  | y :: l => by
    unfold sins
    split
    · exact .refl _
    · exact ((sins_perm x l).cons y).trans (.swap x y l)
theorem ssort_perm : ∀ l : List ByteArray, (ssort l).Perm l
  | [] => .refl _
  | x :: l => (sins_perm x (ssort l)).trans ((ssort_perm l).cons x)
theorem sins_pw (x : ByteArray) : ∀ {l : List ByteArray}, l.Pairwise (fun a b => ble a b = true) → (sins x l).Pairwise fun a b => ble a b = true
  | [], _ => List.pairwise_singleton ..
  | y :: l, h => by
    unfold sins
    split
    · rename_i hxy
      refine List.Pairwise.cons (fun z hz => ?_) h
      rcases List.mem_cons.1 hz with rfl | hz
      · exact hxy
      · exact ble_trans _ _ _ hxy ((List.pairwise_cons.1 h).1 z hz)
    · rename_i hxy
      have hyx : ble y x = true := by
        have := ble_total x y
        simp only [Bool.or_eq_true] at this
        rcases this with h | h
        · exact absurd h hxy
        · exact h
      refine List.Pairwise.cons (fun z hz => ?_) (sins_pw x (List.pairwise_cons.1 h).2)
      rcases List.mem_cons.1 ((sins_perm x l).mem_iff.1 hz) with rfl | hz
      · exact hyx
      · exact (List.pairwise_cons.1 h).1 z hz
theorem ssort_pw : ∀ l : List ByteArray, (ssort l).Pairwise fun a b => ble a b = true
  | [] => .nil
  | x :: l => sins_pw x (ssort_pw l)
theorem ssort_of {l m : List ByteArray} (h : l.Perm m) (hm : m.Pairwise fun a b => ble a b = true) : ssort l = m :=
  List.Perm.eq_of_pairwise (fun a b _ _ h1 h2 => ble_anti h1 h2) (ssort_pw l) hm ((ssort_perm l).trans h)
theorem ssort_eq {l m : List ByteArray} (h : l.Perm m) : ssort l = ssort m := ssort_of (h.trans (ssort_perm m).symm) (ssort_pw m)
theorem ssort_len (l : List ByteArray) : (ssort l).length = l.length := (ssort_perm l).length_eq
theorem ssort_mem {l : List ByteArray} {x : ByteArray} : x ∈ ssort l ↔ x ∈ l := (ssort_perm l).mem_iff
theorem ssort_nil : ssort [] = [] := ssort_of (.refl _) .nil
def eL (x : List UInt8) : List Value := [Go.Proofs.encStr x]
theorem encL : Enc eL 1 := ⟨fun _ => rfl, fun _ => rfl, by decide⟩
theorem fl_SL (l : List ByteArray) : fl eS l = fl eL (l.map bl) := by
  induction l with
  | nil => rfl
  | cons x l ih =>
    simp only [fl, List.flatMap_cons, List.map_cons] at *
    rw [ih]; rfl
theorem ssort_bl (l : List ByteArray) : (ssort l).map bl = (l.map bl).mergeSort fun x y => decide (x ≤ y) := by
  have e : l.mergeSort ble = ssort l := by
    refine (ssort_of (List.mergeSort_perm l ble).symm ?_).symm
    exact List.pairwise_mergeSort ble_trans ble_total l
  rw [← e]
  exact List.map_mergeSort fun a _ b _ => rfl
theorem S_SortS (h : St w0 E w) (i : Nat) {s : Seg} (hi : nth E i = some s) {v : Sl} {l : List ByteArray} (hr : Rw eS T_string 1 v l s) (hn : l.length < 1000000000) {k : Unit → PT} (hk : ∀ s' w', Rw eS T_string 1 v (ssort l) s' → St w0 (setN E i s') w' → k () w') :
    L.call Pr n_slices_Sort_string_string [.slice v.a v.len v.cap] (.tup []) k w := by
  have hr : Rw eL T_string 1 v (l.map bl) s := by unfold Rw at *; rwa [← fl_SL]
  refine sort_of (encv := Go.Proofs.encStr) (fun _ => rfl) encL ((ssort l).map bl) (by rw [List.length_map, List.length_map, ssort_len]) (fun g off cap w h1 h2 => ?_) (fun p cap w => Any.slices_Sort_string_none Tryz.lays190 p cap w) h i hi hr (fun s' w' hr' h => hk s' w' (by unfold Rw at *; rwa [fl_SL]) h)
  have := Any.slices_Sort_string Tryz.lays190 g off cap (l.map bl) w h1 h2 (by rw [List.length_map]; omega)
  rw [ssort_bl]; exact this
theorem S_AppendSeqS {a1 a2 : Seg} {F : List Seg} {fv : FV} {keys : List ByteArray} (hY : YldM Pr w0 [a1, a2] fv.val keys Value.string) (h : St w0 (a1 :: a2 :: F) w) (hn : keys.length < 1000000000) {k : Sl → PT}
    (hk : ∀ seen v s w', seen.Perm keys → Rw eS T_string 1 v seen s → St w0 (s :: a1 :: a2 :: F) w' → k v w') : L.call Pr n_slices_AppendSeq_string_string [.slice none 0 0, fv.val] (.one (.one .slice)) k w := by
  refine call_of (C_slices_AppendSeq_string_string ⟨none, 0, 0⟩ fv) ?_
  unfold F_slices_AppendSeq_string_string
  refine nw h ?_; clear h; (try clear w); intro b1 w h
  have h := fr2_ (fr2_ h)
  have h : St w0 ([a1, a2] ++ [Cl b1 T_s_string [SlV ⟨none, 0, 0⟩]] :: [] :: F) w := h.eq (by simp)
  refine range_ofM (l := .str) (arg := fun x => x) (A := [a1, a2]) (keys := keys) hY h (fun seen G => ∃ v s, G = [Cl b1 T_s_string [SlV v]] :: s :: F ∧ Rw eS T_string 1 v seen s) (fun j G => False) ⟨_, _, rfl, Rw.nil⟩ ?_ ?_ ?_
  · rintro seen x G X w lv lp d R hm ⟨v, s, rfl, hr⟩ h hN hE
    have h : St w0 ([Rec lv lp .busy none] :: [DfM d] :: a1 :: a2 :: [Cl b1 T_s_string [SlV v]] :: s :: (F ++ X)) w := h
    ((try dsimp only [setN, List.cons_append, List.nil_append] at h); repeat (first | refine nn ?_ | (refine dr h ?_; clear h; (try clear w); intro w h) | refine ldC h ?_ | refine laC h ?_ | refine ckC h ?_ | (refine stC h ?_; clear h; (try clear w); intro w h; (try dsimp only [putN, setN] at h)) | rw [add_add]))
    refine nw h ?_; clear h; (try clear w); intro b8 w h
    refine Rw.app encS elS h 5 rfl hr x rfl (by omega) (by omega) fun v' s' w hr' h => ?_
    ((try dsimp only [setN, List.cons_append, List.nil_append] at h); repeat (first | refine nn ?_ | (refine dr h ?_; clear h; (try clear w); intro w h) | refine ldC h ?_ | refine laC h ?_ | refine ckC h ?_ | (refine stC h ?_; clear h; (try clear w); intro w h; (try dsimp only [putN, setN] at h)) | rw [add_add]))
    exact hN _ w ⟨v', s', rfl, hr'⟩ h
  · rintro d seen G w hp ⟨v, s, rfl, hr⟩ h
    have h : St w0 ([DfM d] :: a1 :: a2 :: [Cl b1 T_s_string [SlV v]] :: s :: F) w := h
    refine jumpN ?_
    ((try dsimp only [setN, List.cons_append, List.nil_append] at h); repeat (first | refine nn ?_ | (refine dr h ?_; clear h; (try clear w); intro w h) | refine ldC h ?_ | refine laC h ?_ | refine ckC h ?_ | (refine stC h ?_; clear h; (try clear w); intro w h; (try dsimp only [putN, setN] at h)) | rw [add_add]))
    (first | refine um0_ h ?_ | refine um1_ h ?_ | refine um2_ h ?_ | refine um3_ h ?_ | refine um4_ h ?_ | refine um5_ h ?_ | refine um6_ h ?_ | refine um7_ h ?_ | refine um8_ h ?_ | refine um9_ h ?_ | refine um10_ h ?_ | refine um11_ h ?_); clear h; (try clear w); intro w h
    refine ⟨v, rfl, hk seen v s w hp hr ?_⟩
    have h := fr3_ (fr1_ (fr1_ h))
    have h := dl3_ h
    exact h
  · rintro d j G w hf; exact hf.elim
theorem S_SortedKeysS {a1 a2 : Seg} {F : List Seg} {fv : FV} {keys : List ByteArray} (hY : YldM Pr w0 [a1, a2] fv.val keys Value.string) (h : St w0 (a1 :: a2 :: F) w) (hn : keys.length < 1000000000) {k : Sl → PT}
    (hk : ∀ v s w', Rw eS T_string 1 v (ssort keys) s → St w0 (s :: a2 :: F) w' → k v w') : L.call Pr n_slices_Sorted_string [fv.val] (.one (.one .slice)) k w := by
  refine call_of (C_slices_Sorted_string fv) ?_
  unfold F_slices_Sorted_string
  refine call_of (C_slices_Collect_string fv) ?_
  unfold F_slices_Collect_string
  refine S_AppendSeqS hY h hn fun seen v s w hp hr h => ⟨v, rfl, ?_⟩
  refine S_SortS h 0 rfl hr (by rw [hp.length_eq]; exact hn) fun s w hr h => ?_
  rw [ssort_eq hp] at hr
  exact ⟨v, rfl, hk v s w hr (dl1_ h)⟩
theorem S_CloneS (h : St w0 E w) {v : Sl} {l : List ByteArray} (r : Rd w eS v l) (hn : l.length < 1000000000) (h0 : v.a = none → l = []) {k : Sl → PT}
    (hk : ∀ v' s' w', Rw eS T_string 1 v' l s' → (v'.a = none ↔ v.a = none) → St w0 (s' :: E) w' → k v' w') : L.call Pr n_slices_Clone_string_string [SlV v] (.one (.one .slice)) k w := by
  refine call_of (C_slices_Clone_string_string v) ?_
  unfold F_slices_Clone_string_string
  exact clone_of (K := fun v w' => ∃ x, v = RT.val (.one (.one .slice)) x ∧ k x w') encS elS h r (by omega) (by omega) h0 fun v' s' w' hr hi h => ⟨v', rfl, hk v' s' w' hr hi h⟩
theorem Rw.nil0 {α : Type} {enc : α → List Value} {e size : Nat} {v : Sl} {l : List α} {s : Seg} (hE : Enc enc size) (hr : Rw enc e size v l s) : v.a = none → l = [] := by
  intro h0
  have hl := Rw.len hE hr
  unfold Rw at hr
  generalize fl enc l = xs at hr
  cases hr with
  | nil => exact List.eq_nil_of_length_eq_zero hl.symm
  | mk => cases h0
def unS : Value → ByteArray
  | .string x => x
  | _ => s_
end Go.Proofs.YtkebppklbobjcaaGreatDoor
namespace Go.Proofs.YtkebppklbobjcaaGreatDoor
open Go.Dm
attribute [local irreducible] L.load L.store L.chk L.new L.nonnil L.guard L.ite L.draw L.idx L.sem L.semR L.semU L.chkSem L.next L.call L.callV L.join L.alts L.loop L.begin L.endRound L.range
variable {w0 w : World} {E : List Seg}
theorem und_str : Pr.underlying T_string = some .string := by kernel_rfl
theorem S_spanHas (h : St w0 E w) {a b n : Int} {k : Bool → PT} (hk : ∀ w', St w0 E w' → k (decide (a ≤ n ∧ n ≤ b)) w') : L.call Pr n_spec_span_has [.agg #[I a, I b], I n] (.one (.one .bool)) k w := by
  refine call_of (C_spec_span_has (a, b, ()) n) ?_
  unfold F_spec_span_has
  refine nw h ?_; clear h; (try clear w); intro b1 w h
  ((try dsimp only [setN, List.cons_append, List.nil_append] at h); repeat (first | refine nn ?_ | (refine dr h ?_; clear h; (try clear w); intro w h) | refine ldC h ?_ | refine laC h ?_ | refine ckC h ?_ | (refine stC h ?_; clear h; (try clear w); intro w h; (try dsimp only [putN, setN] at h)) | rw [add_add]))
  refine it (fun h1 => ?_) (fun h1 => ?_) <;> (try simp only [decide_eq_true_eq, decide_eq_false_iff_not, beq_iff_eq, bne_iff_ne, beq_eq_false_iff_ne, bne_eq_false_iff_eq, Bool.not_eq_true', Bool.not_eq_false', ne_eq, Bool.not_eq_true, Bool.not_eq_false] at h1)
  · ((try dsimp only [setN, List.cons_append, List.nil_append] at h); repeat (first | refine nn ?_ | (refine dr h ?_; clear h; (try clear w); intro w h) | refine ldC h ?_ | refine laC h ?_ | refine ckC h ?_ | (refine stC h ?_; clear h; (try clear w); intro w h; (try dsimp only [putN, setN] at h)) | rw [add_add]))
    refine ⟨_, rfl, ?_⟩
    have := hk w (dl0_ h)
    have e : decide (a ≤ n ∧ n ≤ b) = decide (n ≤ b) := decide_eq_decide.2 ⟨fun h => h.2, fun h => ⟨by omega, h⟩⟩
    rw [e] at this; exact this
  · refine ⟨_, rfl, ?_⟩
    have := hk w (dl0_ h)
    rw [decide_eq_false (fun h => h1 (by omega))] at this; exact this
abbrev Cfg := HT [.str, .int .i64, .int .i64, .int .i64, .int .i64, .int .i64]
abbrev Cfg.cells (c : Cfg) : List Value := [.string c.1, I c.2.1, I c.2.2.1, I c.2.2.2.1, I c.2.2.2.2.1, I c.2.2.2.2.2.1]
def cfgNum (c : Cfg) : Bool := decide (0 ≤ c.2.1 ∧ c.2.1 ≤ 255) && (decide (1 ≤ c.2.2.1 ∧ c.2.2.1 ≤ 8) && (decide (1 ≤ c.2.2.2.2.1 ∧ c.2.2.2.2.1 ≤ 10) && (decide (0 ≤ c.2.2.2.1 ∧ c.2.2.2.1 ≤ c.2.2.2.2.1) && decide (0 ≤ c.2.2.2.2.2.1 ∧ c.2.2.2.2.2.1 ≤ 30))))
def specC (c : Cfg) : Int := if shortB c.1.data.toList 16 = true then (if cfgNum c = true then 0 else 2) else 1
theorem S_specC (h : St w0 E w) {c : Cfg} {k : Int → PT} (hk : ∀ w', St w0 E w' → k (specC c) w') : L.call Pr n_spec_Config [.agg (Cfg.cells c).toArray] (.one (.one (.int .i64))) k w := by
  obtain ⟨nm, im, co, mi, ma, gr, ⟨⟩⟩ := c
  refine call_of (C_spec_Config (nm, im, co, mi, ma, gr, ())) ?_
  unfold F_spec_Config
  refine nw h ?_; clear h; (try clear w); intro b1 w h
  ((try dsimp only [setN, List.cons_append, List.nil_append] at h); repeat (first | refine nn ?_ | (refine dr h ?_; clear h; (try clear w); intro w h) | refine ldC h ?_ | refine laC h ?_ | refine ckC h ?_ | (refine stC h ?_; clear h; (try clear w); intro w h; (try dsimp only [putN, setN] at h)) | rw [add_add]))
  refine S_Name h und_str fun w h => ?_
  refine it (fun hn => ?_) (fun hn => ?_) <;> (try simp only [decide_eq_true_eq, decide_eq_false_iff_not, beq_iff_eq, bne_iff_ne, beq_eq_false_iff_ne, bne_eq_false_iff_eq, Bool.not_eq_true', Bool.not_eq_false', ne_eq, Bool.not_eq_true, Bool.not_eq_false] at hn)
  · refine ⟨_, rfl, ?_⟩
    have := hk w (dl0_ h)
    have e : specC (nm, im, co, mi, ma, gr, ()) = 1 := if_neg (by simp [hn])
    rw [e] at this; exact this
  refine join_of (fun z w => z = (!cfgNum (nm, im, co, mi, ma, gr, ()), ()) ∧ St w0 ([Cl b1 T_api_Config (Cfg.cells (nm, im, co, mi, ma, gr, ()))] :: E) w) (fun k4 hk4 => ?_) (fun z w ⟨hz, h⟩ => ?_)
  · ((try dsimp only [setN, List.cons_append, List.nil_append] at h); repeat (first | refine nn ?_ | (refine dr h ?_; clear h; (try clear w); intro w h) | refine ldC h ?_ | refine laC h ?_ | refine ckC h ?_ | (refine stC h ?_; clear h; (try clear w); intro w h; (try dsimp only [putN, setN] at h)) | rw [add_add]))
    refine S_spanHas h fun w h => ?_
    refine it (fun h1 => hk4 _ w ⟨by unfold cfgNum; simp only [Bool.not_eq_true'] at h1; simp only [h1, Bool.false_and], h⟩) (fun h1 => ?_)
    simp only [Bool.not_eq_false'] at h1
    ((try dsimp only [setN, List.cons_append, List.nil_append] at h); repeat (first | refine nn ?_ | (refine dr h ?_; clear h; (try clear w); intro w h) | refine ldC h ?_ | refine laC h ?_ | refine ckC h ?_ | (refine stC h ?_; clear h; (try clear w); intro w h; (try dsimp only [putN, setN] at h)) | rw [add_add]))
    refine S_spanHas h fun w h => ?_
    refine it (fun h2 => hk4 _ w ⟨by unfold cfgNum; simp only [Bool.not_eq_true'] at h2; simp only [h1, h2, Bool.false_and, Bool.and_false], h⟩) (fun h2 => ?_)
    simp only [Bool.not_eq_false'] at h2
    ((try dsimp only [setN, List.cons_append, List.nil_append] at h); repeat (first | refine nn ?_ | (refine dr h ?_; clear h; (try clear w); intro w h) | refine ldC h ?_ | refine laC h ?_ | refine ckC h ?_ | (refine stC h ?_; clear h; (try clear w); intro w h; (try dsimp only [putN, setN] at h)) | rw [add_add]))
    refine S_spanHas h fun w h => ?_
    refine it (fun h3 => hk4 _ w ⟨by unfold cfgNum; simp only [Bool.not_eq_true'] at h3; simp only [h1, h2, h3, Bool.false_and, Bool.and_false], h⟩) (fun h3 => ?_)
    simp only [Bool.not_eq_false'] at h3
    ((try dsimp only [setN, List.cons_append, List.nil_append] at h); repeat (first | refine nn ?_ | (refine dr h ?_; clear h; (try clear w); intro w h) | refine ldC h ?_ | refine laC h ?_ | refine ckC h ?_ | (refine stC h ?_; clear h; (try clear w); intro w h; (try dsimp only [putN, setN] at h)) | rw [add_add]))
    refine S_spanHas h fun w h => ?_
    refine it (fun h4 => hk4 _ w ⟨by unfold cfgNum; simp only [Bool.not_eq_true'] at h4; simp only [h1, h2, h3, h4, Bool.false_and, Bool.and_false], h⟩) (fun h4 => ?_)
    simp only [Bool.not_eq_false'] at h4
    ((try dsimp only [setN, List.cons_append, List.nil_append] at h); repeat (first | refine nn ?_ | (refine dr h ?_; clear h; (try clear w); intro w h) | refine ldC h ?_ | refine laC h ?_ | refine ckC h ?_ | (refine stC h ?_; clear h; (try clear w); intro w h; (try dsimp only [putN, setN] at h)) | rw [add_add]))
    refine S_spanHas h fun w h => ?_
    exact hk4 _ w ⟨by unfold cfgNum; simp only [h1, h2, h3, h4, Bool.true_and], h⟩
  · subst hz
    dsimp only
    have hn : shortB nm.data.toList 16 = true := by simpa using hn
    refine it (fun hc => ?_) (fun hc => ?_) <;> (try simp only [decide_eq_true_eq, decide_eq_false_iff_not, beq_iff_eq, bne_iff_ne, beq_eq_false_iff_ne, bne_eq_false_iff_eq, Bool.not_eq_true', Bool.not_eq_false', ne_eq, Bool.not_eq_true, Bool.not_eq_false] at hc)
    · refine ⟨_, rfl, ?_⟩
      have := hk w (dl0_ h)
      have e : specC (nm, im, co, mi, ma, gr, ()) = 2 := by unfold specC; rw [if_pos hn, if_neg (by simp [hc])]
      rw [e] at this; exact this
    · refine ⟨_, rfl, ?_⟩
      have := hk w (dl0_ h)
      have e : specC (nm, im, co, mi, ma, gr, ()) = 0 := by unfold specC; rw [if_pos hn, if_pos (by simpa using hc)]
      rw [e] at this; exact this
end Go.Proofs.YtkebppklbobjcaaGreatDoor
namespace Go.Dm
class Tab (P : Program) (w : World) : Prop where
  is : Lib.TabIs P w "internal/strconv.uint64pow10" .u64 Lib.pow10Tab
section
variable {w0 w : World} {E : List Seg} {P : Program}
theorem St.var (h : St w0 E w) {n : String} {cs : Array Value} (hv : w0.var? P n = some cs) : w.var? P n = some cs := by
  unfold World.var? at *
  cases hg : P.globalNamed n with
  | none => rw [hg] at hv; cases hv
  | some g =>
    rw [hg] at hv
    simp only [Option.bind_some] at hv ⊢
    cases hh : w0.heap[g]? with
    | none => rw [hh] at hv; cases hv
    | some o =>
      have := h.old g (Array.getElem?_eq_some_iff.1 hh).1
      rw [this]; exact hv
theorem St.tab [T : Tab P w0] (h : St w0 E w) : Lib.TabIs P w "internal/strconv.uint64pow10" .u64 Lib.pow10Tab := h.var T.is
end
def joinB (xs : List ByteArray) : ByteArray := ⟨(Lib.join (xs.map (·.data.toList)) [32]).toArray⟩
theorem ba_ext {a b : ByteArray} (h : a.data.toList = b.data.toList) : a = b := ByteArray.ext (Array.toList_inj.1 h)
theorem data_joinB (xs : List ByteArray) : (joinB xs).data.toList = Lib.join (xs.map (·.data.toList)) [32] := by simp [joinB]
theorem joinB_nil : joinB [] = ⟨#[]⟩ := rfl
theorem joinB_one (x : ByteArray) : joinB [x] = x := ba_ext (by rw [data_joinB]; simp [Lib.join_one])
theorem decDig_le (g : Nat) : (Lib.decDigits g).length ≤ g + 1 := by
  induction g using Nat.strongRecOn with
  | _ g ih =>
    by_cases h : g < 10
    · rw [Lib.decDigits_one h]; simp
    · rw [Lib.decDigits, dif_neg h, List.length_append]
      have := ih (g / 10) (by omega)
      simp only [List.length_singleton]
      omega
def spB : ByteArray := ⟨#[32]⟩
theorem joinB_cons (x y : ByteArray) (xs : List ByteArray) : joinB (x :: y :: xs) = (x ++ spB) ++ joinB (y :: xs) := ba_ext (by
  rw [data_joinB]
  simp only [List.map_cons, Lib.join, List.intercalate, ByteArray.data_append, Array.toList_append, data_joinB]
  simp [List.intersperse, spB])
theorem joinB_le (m : Nat) : ∀ (l : List ByteArray), (∀ x ∈ l, x.size ≤ m) → (joinB l).size ≤ l.length * (m + 1)
  | [], _ => by rw [joinB_nil]; exact Nat.zero_le _
  | [x], h => by rw [joinB_one]; have := h x (by simp); simp; omega
  | x :: y :: l, h => by
    have h1 := h x (by simp)
    have h2 := joinB_le m (y :: l) fun z hz => h z (List.mem_cons_of_mem _ hz)
    have hs : spB.size = 1 := rfl
    rw [joinB_cons, ByteArray.size_append, ByteArray.size_append, hs]
    simp only [List.length_cons, Nat.add_mul] at h2 ⊢
    omega
def decD (g : Nat) : ByteArray := ⟨(Lib.decDigits g).toArray⟩
theorem data_decD (g : Nat) : (decD g).data.toList = Lib.decDigits g := by simp [decD]
theorem decD_le (g : Nat) : (decD g).size ≤ g + 1 := by
  have := decDig_le g
  unfold decD
  simpa [ByteArray.size] using this
theorem decD_step {g : Nat} (h : 10 ≤ g) : decD g = decD (g / 10) ++ decD (g % 10) := ba_ext (by
  rw [ByteArray.data_append, Array.toList_append, data_decD, data_decD, data_decD, Lib.decDigits, dif_neg (by omega), Lib.decDigits_one (Nat.mod_lt _ (by omega))])
theorem itoa_nat (g : Nat) : (⟨(Lib.itoa (g : Int)).toArray⟩ : ByteArray) = decD g := by
  unfold Lib.itoa decD
  rw [if_neg (by omega)]; simp
section
variable {w0 w w' : World} {E : List Seg} {P : Program}
theorem St.below (h : St w0 E w) (hb : RowKit.Below w.heap.size w w') : St w0 E w' := by
  have hlt : ∀ k, k < w.heap.size → w'.heap[k]? = w.heap[k]? := hb.block
  refine ⟨Nat.le_trans h.size hb.size, fun b hb' => ?_, hb.os.trans h.os, hb.output.trans h.out, hb.tape.trans h.tape, fun x hx => ?_, h.nd, fun _ _ _ _ => rfl⟩
  · rw [hlt b (Nat.lt_of_lt_of_le hb' h.size)]; exact h.old b hb'
  · have := h.own x hx
    rw [hlt _ (Array.getElem?_eq_some_iff.1 this.2).1]; exact this
def eTx (x : ByteArray) : List Value := [.string x]
theorem Rw.texts {e : TypeId} {s : Seg} (h : St w0 E w) (k : Nat) (hi : nth E k = some s) {g n cap off : Nat} {l : List ByteArray} (hE : Enc eTx 1) (hr : Rw eTx e 1 ⟨some ⟨g, off, none⟩, n, cap⟩ l s) :
    (∀ (j : Nat) x, l[j]? = some x → w.cell? ⟨g, off + j, none⟩ = some (.string x)) ∧ g < w.heap.size := by
  have hr' := hr
  constructor
  · intro j x hx
    have hn := fl_nth hE hx (f := 0) (u := Value.string x) rfl
    simp only [Nat.mul_one, Nat.add_zero] at hn
    have hc := hr.cell h k hi rfl hn
    rw [add_none] at hc
    exact hc
  · unfold Rw at hr'
    generalize fl eTx l = xs at hr'
    cases hr' with
    | mk g n cap pre xs spare post h1 h2 h3 h4 => exact (Array.getElem?_eq_some_iff.1 (h.at k hi).2).1
theorem Rw.cka {α : Type} {enc : α → List Value} {e size : Nat} {v : Sl} {l : List α} {s : Seg} (hE : Enc enc size) (h : St w0 E w) (k : Nat) (hi : nth E k = some s) (hr : Rw enc e size v l s) {i : Nat} {a : Addr} (ha : ElA v size i a) {x : α} (hx : l[i]? = some x) {cs : List Value} (hc : enc x = cs) {kk : PT} (hk : kk w) : L.chk a cs kk w := by
  subst hc
  obtain ⟨a0, hv, rfl⟩ := ha
  refine ⟨fun j c hc => ?_, hk⟩
  rw [add_add]
  exact hr.cell h k hi hv (fl_nth hE hx hc)
theorem joinB_of {f : FuncId} {e : TypeId} {s : Seg} {v : Sl} {l : List ByteArray} {sep : ByteArray} (hsep : sep = spB) (hE : Enc eTx 1)
    (hc : ∀ g off cap w, (∀ (j : Nat) x, l[j]? = some x → w.cell? ⟨g, off + j, none⟩ = some (.string x)) → g < w.heap.size → l.length ≤ cap → Calls P f #[.slice (some ⟨g, off, none⟩) l.length cap, .string sep] w fun r w' => r = .returned (.string ⟨(Lib.join (l.map (·.data.toList)) sep.data.toList).toArray⟩) ∧ RowKit.Below w.heap.size w w')
    (hc0 : ∀ p cap w, Calls P f #[.slice p 0 cap, .string sep] w fun r w' => r = .returned (.string ⟨#[]⟩) ∧ w' = w)
    (h : St w0 E w) (k : Nat) (hi : nth E k = some s) (hr : Rw eTx e 1 v l s) {kk : ByteArray → PT} (hk : ∀ w', St w0 E w' → kk (joinB l) w') : L.call P f [.slice v.a v.len v.cap, .string sep] (.one (.one .str)) kk w := by
  have hlen := Rw.len hE hr
  cases hl0 : l with
  | nil =>
    subst hl0
    simp only [List.length_nil] at hlen
    rw [hlen]
    exact (hc0 v.a v.cap w).mono fun r w' ⟨h1, h2⟩ => ⟨joinB [], h1, by subst h2; exact hk _ h⟩
  | cons x l2 =>
    have hpos : 0 < l.length := by rw [hl0]; simp
    have hcap := hr.cap
    obtain ⟨va, vn, vc⟩ := v
    have : ∃ g off, va = some ⟨g, off, none⟩ := by
      have hr' := hr
      unfold Rw at hr'
      generalize fl eTx l = xs at hr'
      cases hr' with
      | nil => simp at hlen; omega
      | mk => exact ⟨_, _, rfl⟩
    obtain ⟨g, off, rfl⟩ := this
    simp only at hlen hcap
    subst hlen
    obtain ⟨hH, hlt⟩ := Rw.texts h k hi hE hr
    refine (hc g off vc w hH hlt hcap.1).mono fun r w' ⟨h1, h2⟩ => ⟨joinB l, ?_, hk _ (h.below h2)⟩
    rw [h1, hsep]; rfl
end
end Go.Dm
namespace Go.Proofs.YtkebppklbobjcaaGreatDoor
open Go.Dm
attribute [local irreducible] L.load L.store L.chk L.new L.nonnil L.guard L.ite L.draw L.idx L.sem L.semR L.semU L.chkSem L.next L.call L.callV L.join L.alts L.loop L.begin L.endRound L.range
variable {w0 w : World} {E : List Seg}
abbrev Rv := HT [.str, .int .i64, .str, .int .i64, .int .i64, .int .i64, .int .i64, .int .i64]
abbrev eRv : E1 := .agg [.str, .int .i64, .str, .int .i64, .int .i64, .int .i64, .int .i64, .int .i64]
def vRv (t : Rv) : Value := eRv.val t
def noRv : Rv := (s_, 0, s_, 0, 0, 0, 0, 0, ())
abbrev rvC (t : Rv) : List Value := [.string t.1, I t.2.1, .string t.2.2.1, I t.2.2.2.1, I t.2.2.2.2.1, I t.2.2.2.2.2.1, I t.2.2.2.2.2.2.1, I t.2.2.2.2.2.2.2.1]
abbrev Rv.cfg (t : Rv) : Cfg := t.2.2
def rvOf (name : ByteArray) (gen : Int) (c : Cfg) : Rv := (name, gen, c)
structure ABook where
  all : List (ByteArray × Rv)
  pv : List (ByteArray × Bool)
structure ABook.Ok (a : ABook) : Prop where
  name : ∀ p ∈ a.all, p.2.1 = p.1 ∧ p.1 ≠ s_
  few : a.all.length < 1000000
theorem und_bkA : Pr.underlying T_stamp_shelf_api_Revision = some (.map T_string T_api_Revision) := by kernel_rfl
theorem mkStr : MK Pr T_string Value.string := mk_str und_str
theorem zrv (w : World) : (zeroValue T_api_Revision).run Pr w = .ok (eRv.val noRv) w := by
  have h : (Pr.info? T_api_Revision).map (·.zero) = some (some (.agg #[.string s_, I 0, .string s_, I 0, I 0, I 0, I 0, I 0])) := by kernel_rfl
  cases hi : Pr.info? T_api_Revision with
  | none => rw [hi] at h; cases h
  | some i => rw [hi] at h; simp only [Option.map_some, Option.some.injEq] at h; exact zv hi h w
def bkGet (a : ABook) (rev : ByteArray) : Rv := (mget a.all rev).getD noRv
def bkHas (a : ABook) (rev : ByteArray) : Bool := (mget a.all rev).isSome
def bkProved (a : ABook) (rev : ByteArray) : Bool := (mget a.pv rev).getD false
abbrev bkB (b rA rP : Nat) : Seg := [Cl b T_stamp_Book [.map (some rA), .map (some rP)]]
def BkS (b : Nat) (a : ABook) (s : Seg) : Prop := a.Ok ∧ ∃ rA rP sA sP, MpS Value.string vRv rA a.all sA ∧ MpS Value.string Value.bool rP a.pv sP ∧ s = bkB b rA rP ++ (sA ++ sP)
theorem rlookup {r : Nat} {m : List (ByteArray × Rv)} {s : Seg} (h : St w0 E w) (i : Nat) (hi : nth E i = some s) (hm : MpS Value.string vRv r m s) {n : ByteArray} {kk : eRv.T → PT} (hk : kk ((mget m n).getD noRv) w) :
    L.semR Pr (.one eRv) (Instr.lookup T_stamp_shelf_api_Revision (.map (some r)) (.string n) false) kk w := by
  refine MpS.get mkStr und_bkA zrv (fun t : Rv => t) (fun _ => rfl) h i hi hm ?_
  have : ((mget m n).map fun t : Rv => t).getD noRv = (mget m n).getD noRv := by cases mget m n <;> rfl
  rw [this]; exact hk
theorem S_bkNew (h : St w0 E w) {k : Option Addr → PT} (hk : ∀ b s w', BkS b ⟨[], []⟩ s → St w0 (s :: E) w' → k (some ⟨b, 0, none⟩) w') : L.call Pr n_stamp_New [] (.one (.one .ptr)) k w := by
  refine call_of C_stamp_New ?_
  unfold F_stamp_New
  refine MpS.new h Value.string vRv fun r s w hm h => ?_
  refine MpS.new h Value.string Value.bool fun r2 s2 w hm2 h => ?_
  refine nw h ?_; clear h; (try clear w); intro b w h
  refine ⟨_, rfl, hk b _ w ⟨⟨by simp, by simp⟩, r, r2, s, s2, hm, hm2, rfl⟩ ?_⟩
  have h := fr2_ (fr2_ (fr1_ h))
  exact h.glue3
def bkStamp (a : ABook) (c : Cfg) (gen : Nat) : ABook × ByteArray × Bool :=
  if bkHas a (revB c.1 gen) = true then (a, revB c.1 gen, false) else (⟨mset a.all (revB c.1 gen) (rvOf (revB c.1 gen) gen c), a.pv⟩, revB c.1 gen, true)
theorem rev_ne' (c : ByteArray) {g : Nat} (hg : g < 100) : revB c g ≠ s_ := fun e => by
  have := rev_size c hg
  rw [e] at this
  have h0 : s_.size = 0 := rfl
  omega
theorem ne_rv0 (w : World) : (do eqGuard .neq T_api_Revision (.tmp 0) (.tmp 0) (.agg (rvC noRv).toArray) (.agg #[.string s_, I 0, .string s_, I 0, I 0, I 0, I 0, I 0]); binOp .neq T_api_Revision (.agg (rvC noRv).toArray) (.agg #[.string s_, I 0, .string s_, I 0, I 0, I 0, I 0, I 0]) : Sem Value).run Pr w = .ok (.bool false) w := by kernel_rfl
theorem ne_rv1 (t : Rv) (ht : t.1 ≠ s_) (w : World) : (do eqGuard .neq T_api_Revision (.tmp 0) (.tmp 0) (.agg (rvC t).toArray) (.agg #[.string s_, I 0, .string s_, I 0, I 0, I 0, I 0, I 0]); binOp .neq T_api_Revision (.agg (rvC t).toArray) (.agg #[.string s_, I 0, .string s_, I 0, I 0, I 0, I 0, I 0]) : Sem Value).run Pr w = .ok (.bool true) w := by
  refine neS_of (r := false) (by kernel_rfl) ?_
  have hS : Pr.underlying T_api_Revision = some (.struct (Pr.fieldsOf T_api_Revision)) := by kernel_rfl
  have hp : Pr.stoodInHeld T_api_Revision = false := by kernel_rfl
  rw [show (10000 : Nat) = 9999 + 1 from rfl, run_equalIn_agg w 9999 T_api_Revision _ _ hS hp]
  have u9 := Tryz.underlying9
  have i9 := Tryz.isAgg9
  have z9 := Tryz.sizeOf9
  simp only [Program.fieldsOf, Tryz.underlying172]
  go_simp
  have e : ¬ (ByteArray.toList t.1 = ByteArray.toList s_) := fun e => ht (by
    have : (@BEq.beq ByteArray _ t.1 s_) = true := by rw [beq_toListBytes]; simp [e]
    exact ba_iff.1 this)
  simp [e]
end Go.Proofs.YtkebppklbobjcaaGreatDoor
namespace Go.Proofs.YtkebppklbobjcaaGreatDoor
open Go.Dm
attribute [local irreducible] L.load L.store L.chk L.new L.nonnil L.guard L.ite L.draw L.idx L.sem L.semR L.semU L.chkSem L.next L.call L.callV L.join L.alts L.loop L.begin L.endRound L.range
variable {w0 w : World} {E : List Seg}
abbrev Thg := HT [.str, .int .i64, .int .i64, .int .i64, .int .i64, .int .i64, .int .i64, .int .i64, .bool]
abbrev eThg : E1 := .agg [.str, .int .i64, .int .i64, .int .i64, .int .i64, .int .i64, .int .i64, .int .i64, .bool]
def vThg (t : Thg) : Value := eThg.val t
def noThg : Thg := (s_, 0, 0, 0, 0, 0, 0, 0, false, ())
abbrev Thg.ver (t : Thg) : Int := t.2.2.2.2.2.2.1
abbrev Thg.gen (t : Thg) : Int := t.2.2.2.2.2.2.2.1
abbrev Thg.is (t : Thg) : Bool := t.2.2.2.2.2.2.2.2.1
def thgOf (c : Cfg) (ver gen : Int) (is : Bool) : Thg := (c.1, c.2.1, c.2.2.1, c.2.2.2.1, c.2.2.2.2.1, c.2.2.2.2.2.1, ver, gen, is, ())
theorem und_rack : Pr.underlying T_map_string_shelf_thing_api_Config = some (.map T_string T_shelf_thing_api_Config) := by kernel_rfl
theorem mkS : MK Pr T_string Value.string := mk_str und_str
theorem zthg (w : World) : (zeroValue T_shelf_thing_api_Config).run Pr w = .ok (eThg.val noThg) w := by
  have h : (Pr.info? T_shelf_thing_api_Config).map (·.zero) = some (some (.agg #[.string s_, I 0, I 0, I 0, I 0, I 0, I 0, I 0, .bool false])) := by kernel_rfl
  cases hi : Pr.info? T_shelf_thing_api_Config with
  | none => rw [hi] at h; cases h
  | some i => rw [hi] at h; simp only [Option.map_some, Option.some.injEq] at h; exact zv hi h w
def tget (m : List (ByteArray × Thg)) (n : ByteArray) : Thg := (mget m n).getD noThg
def RackS (b : Nat) (m : List (ByteArray × Thg)) (s : Seg) : Prop := ∃ r sm, MpS Value.string vThg r m sm ∧ s = [Cl b T_shelf_rack_api_Config [.map (some r), .func (.func n_shelf_New_1) #[] #[]]] ++ sm
theorem tlook {r : Nat} {m : List (ByteArray × Thg)} {s : Seg} (h : St w0 E w) (i : Nat) (hi : nth E i = some s) (hm : MpS Value.string vThg r m s) {n : ByteArray} {kk : eThg.T → PT} (hk : kk (tget m n) w) :
    L.semR Pr (.one eThg) (Instr.lookup T_map_string_shelf_thing_api_Config (.map (some r)) (.string n) false) kk w := by
  refine MpS.get mkS und_rack zthg (fun t : Thg => t) (fun _ => rfl) h i hi hm ?_
  have : ((mget m n).map fun t : Thg => t).getD noThg = tget m n := by unfold tget; cases mget m n <;> rfl
  rw [this]; exact hk
theorem S_madeC (h : St w0 E w) {k : Option Addr → PT} (hk : ∀ b s w', RackS b [] s → St w0 (s :: E) w' → k (some ⟨b, 0, none⟩) w') :
    L.call Pr n_shelf_made_api_Config [.func (.func n_shelf_New_1) #[] #[]] (.one (.one .ptr)) k w := by
  refine call_of (C_shelf_made_api_Config ⟨.func n_shelf_New_1, #[], #[]⟩) ?_
  unfold F_shelf_made_api_Config
  refine MpS.new h Value.string vThg fun r s w hm h => ?_
  refine nw h ?_; clear h; (try clear w); intro b w h
  exact ⟨_, rfl, hk b _ w ⟨r, s, hm, rfl⟩ h.glue⟩
def mayC (t : Thg) (ver : Int) (fresh : Bool) : Int :=
  if fresh = true ∧ ver = 0 then (if t.is = true then 5 else 0) else if t.is = true then (if t.ver = ver then 0 else 7) else 6
theorem S_mayC (h : St w0 E w) (i : Nat) {b : Nat} {m : List (ByteArray × Thg)} {s : Seg} (hi : nth E i = some s) (hs : RackS b m s) {n : ByteArray} {ver : Int} {fresh : Bool} {k : Int → PT} (hk : ∀ w', St w0 E w' → k (mayC (tget m n) ver fresh) w') :
    L.call Pr n_shelf_rack_api_Config_may [.pointer (some ⟨b, 0, none⟩), .string n, I ver, .bool fresh] (.one (.one (.int .i64))) k w := by
  obtain ⟨r, sm, hm, rfl⟩ := hs
  refine call_of (C_shelf_rack_api_Config_may _ _ _ _) ?_
  unfold F_shelf_rack_api_Config_may
  have h := (h.front i hi).split
  ((try dsimp only [setN, List.cons_append, List.nil_append] at h); repeat (first | refine nn ?_ | (refine dr h ?_; clear h; (try clear w); intro w h) | refine ldC h ?_ | refine laC h ?_ | refine ckC h ?_ | (refine stC h ?_; clear h; (try clear w); intro w h; (try dsimp only [putN, setN] at h)) | rw [add_add]))
  refine tlook h 1 rfl hm ?_
  generalize tget m n = t at hk
  refine nw h ?_; clear h; (try clear w); intro b4 w h
  ((try dsimp only [setN, List.cons_append, List.nil_append] at h); repeat (first | refine nn ?_ | (refine dr h ?_; clear h; (try clear w); intro w h) | refine ldC h ?_ | refine laC h ?_ | refine ckC h ?_ | (refine stC h ?_; clear h; (try clear w); intro w h; (try dsimp only [putN, setN] at h)) | rw [add_add]))
  have fin : ∀ {e : Int} {w : World}, e = mayC t ver fresh → St w0 ([Cl b4 T_shelf_thing_api_Config [.string t.1, I t.2.1, I t.2.2.1, I t.2.2.2.1, I t.2.2.2.2.1, I t.2.2.2.2.2.1, I t.2.2.2.2.2.2.1, I t.2.2.2.2.2.2.2.1, .bool t.2.2.2.2.2.2.2.2.1]] :: [Cl b T_shelf_rack_api_Config [.map (some r), .func (.func n_shelf_New_1) #[] #[]]] :: sm :: delN E i) w →
      ∃ x, I e = RT.val (.one (.one (.int .i64))) x ∧ k x w := by
    rintro e w rfl h
    exact ⟨_, rfl, hk w (St.setN_same' i hi (St.back i hi (dl0_ h).glue))⟩
  have c2 : ∀ {k5 : Unit → PT} {w : World}, ¬ (fresh = true ∧ ver = 0) → (∀ {w}, mayC t ver fresh = 0 → St w0 ([Cl b4 T_shelf_thing_api_Config [.string t.1, I t.2.1, I t.2.2.1, I t.2.2.2.1, I t.2.2.2.2.1, I t.2.2.2.2.2.1, I t.2.2.2.2.2.2.1, I t.2.2.2.2.2.2.2.1, .bool t.2.2.2.2.2.2.2.2.1]] :: [Cl b T_shelf_rack_api_Config [.map (some r), .func (.func n_shelf_New_1) #[] #[]]] :: sm :: delN E i) w → k5 () w) →
      St w0 ([Cl b4 T_shelf_thing_api_Config [.string t.1, I t.2.1, I t.2.2.1, I t.2.2.2.1, I t.2.2.2.2.1, I t.2.2.2.2.2.1, I t.2.2.2.2.2.2.1, I t.2.2.2.2.2.2.2.1, .bool t.2.2.2.2.2.2.2.2.1]] :: [Cl b T_shelf_rack_api_Config [.map (some r), .func (.func n_shelf_New_1) #[] #[]]] :: sm :: delN E i) w →
      L.load (.one (.bool)) ((⟨b4, 0, none⟩ : Addr).add 8) (fun (x18 : Bool) =>
      L.ite (!x18) (
        fun w => ∃ x, Value.int .i64 6 = RT.val (.one (.one (.int .i64))) x ∧ k x w) <|
      L.load (.one (.int .i64)) ((⟨b4, 0, none⟩ : Addr).add 6) fun (x19 : Int) =>
      L.ite (x19 != ver) (
        fun w => ∃ x, Value.int .i64 7 = RT.val (.one (.one (.int .i64))) x ∧ k x w) <|
      k5 (())) w := by
    intro k5 w hf hk5 h
    ((try dsimp only [setN, List.cons_append, List.nil_append] at h); repeat (first | refine nn ?_ | (refine dr h ?_; clear h; (try clear w); intro w h) | refine ldC h ?_ | refine laC h ?_ | refine ckC h ?_ | (refine stC h ?_; clear h; (try clear w); intro w h; (try dsimp only [putN, setN] at h)) | rw [add_add]))
    refine it (fun h1 => ?_) (fun h1 => ?_) <;> (try simp only [decide_eq_true_eq, decide_eq_false_iff_not, beq_iff_eq, bne_iff_ne, beq_eq_false_iff_ne, bne_eq_false_iff_eq, Bool.not_eq_true', Bool.not_eq_false', ne_eq, Bool.not_eq_true, Bool.not_eq_false] at h1)
    · exact fin (by unfold mayC; rw [if_neg hf, if_neg (by simp [Thg.is, h1])]) h
    ((try dsimp only [setN, List.cons_append, List.nil_append] at h); repeat (first | refine nn ?_ | (refine dr h ?_; clear h; (try clear w); intro w h) | refine ldC h ?_ | refine laC h ?_ | refine ckC h ?_ | (refine stC h ?_; clear h; (try clear w); intro w h; (try dsimp only [putN, setN] at h)) | rw [add_add]))
    have h1 : t.is = true := by simpa using h1
    refine it (fun h2 => ?_) (fun h2 => ?_) <;> (try simp only [decide_eq_true_eq, decide_eq_false_iff_not, beq_iff_eq, bne_iff_ne, beq_eq_false_iff_ne, bne_eq_false_iff_eq, Bool.not_eq_true', Bool.not_eq_false', ne_eq, Bool.not_eq_true, Bool.not_eq_false] at h2)
    · exact fin (by unfold mayC; rw [if_neg hf, if_pos h1, if_neg h2]) h
    · exact hk5 (by unfold mayC; rw [if_neg hf, if_pos h1, if_pos h2]) h
  refine join_of (fun z w => mayC t ver fresh = 0 ∧ St w0 ([Cl b4 T_shelf_thing_api_Config [.string t.1, I t.2.1, I t.2.2.1, I t.2.2.2.1, I t.2.2.2.2.1, I t.2.2.2.2.2.1, I t.2.2.2.2.2.2.1, I t.2.2.2.2.2.2.2.1, .bool t.2.2.2.2.2.2.2.2.1]] :: [Cl b T_shelf_rack_api_Config [.map (some r), .func (.func n_shelf_New_1) #[] #[]]] :: sm :: delN E i) w) (fun k5 hk5 => ?_) (fun z w ⟨hz, h⟩ => fin hz.symm h)
  cases fresh with
  | false => exact itF rfl (itF rfl (c2 (by simp) (fun h1 h => hk5 _ _ ⟨h1, h⟩) h))
  | true =>
    refine itT rfl ?_
    refine it (fun hv => ?_) (fun hv => ?_) <;> (try simp only [decide_eq_true_eq, decide_eq_false_iff_not, beq_iff_eq, bne_iff_ne, beq_eq_false_iff_ne, bne_eq_false_iff_eq, Bool.not_eq_true', Bool.not_eq_false', ne_eq, Bool.not_eq_true, Bool.not_eq_false] at hv)
    · ((try dsimp only [setN, List.cons_append, List.nil_append] at h); repeat (first | refine nn ?_ | (refine dr h ?_; clear h; (try clear w); intro w h) | refine ldC h ?_ | refine laC h ?_ | refine ckC h ?_ | (refine stC h ?_; clear h; (try clear w); intro w h; (try dsimp only [putN, setN] at h)) | rw [add_add]))
      refine it (fun h1 => ?_) (fun h1 => ?_) <;> (try simp only [decide_eq_true_eq, decide_eq_false_iff_not, beq_iff_eq, bne_iff_ne, beq_eq_false_iff_ne, bne_eq_false_iff_eq, Bool.not_eq_true', Bool.not_eq_false', ne_eq, Bool.not_eq_true, Bool.not_eq_false] at h1)
      · exact fin (by unfold mayC; rw [if_pos ⟨rfl, hv⟩, if_pos h1]) h
      · refine itT rfl (itT (by simp [hv]) ?_)
        exact fin (by unfold mayC; rw [if_pos ⟨rfl, hv⟩, if_neg (by simp [Thg.is, h1])]) h
    · refine itT rfl (itF (by simp [hv]) ?_)
      exact c2 (fun hh => hv hh.2) (fun h1 h => hk5 _ _ ⟨h1, h⟩) h
end Go.Proofs.YtkebppklbobjcaaGreatDoor
namespace Go.Proofs.YtkebppklbobjcaaGreatDoor
open Go.Dm
attribute [local irreducible] L.load L.store L.chk L.new L.nonnil L.guard L.ite L.draw L.idx L.sem L.semR L.semU L.chkSem L.next L.call L.callV L.join L.alts L.loop L.begin L.endRound L.range
variable {w0 w : World} {E : List Seg}
theorem S_getC (h : St w0 E w) (i : Nat) {b : Nat} {m : List (ByteArray × Thg)} {s : Seg} (hi : nth E i = some s) (hs : RackS b m s) {n : ByteArray} {k : eThg.T × Bool × Unit → PT} (hk : ∀ w', St w0 E w' → k (tget m n, (tget m n).is, ()) w') :
    L.call Pr n_shelf_rack_api_Config_get [.pointer (some ⟨b, 0, none⟩), .string n] (.tup [eThg, .one .bool]) k w := by
  obtain ⟨r, sm, hm, rfl⟩ := hs
  refine call_of (C_shelf_rack_api_Config_get _ _) ?_
  unfold F_shelf_rack_api_Config_get
  have h := (h.front i hi).split
  refine nw h ?_; clear h; (try clear w); intro b1 w h
  ((try dsimp only [setN, List.cons_append, List.nil_append] at h); repeat (first | refine nn ?_ | (refine dr h ?_; clear h; (try clear w); intro w h) | refine ldC h ?_ | refine laC h ?_ | refine ckC h ?_ | (refine stC h ?_; clear h; (try clear w); intro w h; (try dsimp only [putN, setN] at h)) | rw [add_add]))
  refine tlook h 2 rfl hm ?_
  generalize tget m n = t at hk
  refine nw h ?_; clear h; (try clear w); intro b5 w h
  ((try dsimp only [setN, List.cons_append, List.nil_append] at h); repeat (first | refine nn ?_ | (refine dr h ?_; clear h; (try clear w); intro w h) | refine ldC h ?_ | refine laC h ?_ | refine ckC h ?_ | (refine stC h ?_; clear h; (try clear w); intro w h; (try dsimp only [putN, setN] at h)) | rw [add_add]))
  exact ⟨(t, t.is, ()), rfl, hk w (St.setN_same' i hi (St.back i hi (dl0_ (dl0_ h)).glue))⟩
def sameC (a b : Cfg) : Bool := (a.1 == b.1) && ((a.2.1 == b.2.1) && ((a.2.2.1 == b.2.2.1) && ((a.2.2.2.1 == b.2.2.2.1) && ((a.2.2.2.2.1 == b.2.2.2.2.1) && ((a.2.2.2.2.2.1 == b.2.2.2.2.2.1) && true)))))
theorem eqin_cfg (a b : Cfg) (w : World) : (Op.equalIn 10000 T_api_Config (.agg (Cfg.cells a).toArray) (.agg (Cfg.cells b).toArray)).run Pr w = .ok (sameC a b) w := by
  have hS : Pr.underlying T_api_Config = some (.struct (Pr.fieldsOf T_api_Config)) := by kernel_rfl
  have hp : Pr.stoodInHeld T_api_Config = false := by kernel_rfl
  obtain ⟨a1, a2, a3, a4, a5, a6, ⟨⟩⟩ := a
  obtain ⟨b1, b2, b3, b4, b5, b6, ⟨⟩⟩ := b
  rw [show (10000 : Nat) = 9999 + 1 from rfl, run_equalIn_agg w 9999 T_api_Config _ _ hS hp]
  have u3 := Tryz.underlying3
  have i3 := Tryz.isAgg3
  have z3 := Tryz.sizeOf3
  have u9 := Tryz.underlying9
  have i9 := Tryz.isAgg9
  have z9 := Tryz.sizeOf9
  simp only [Program.fieldsOf, Tryz.underlying23]
  go_simp
  have e : (ByteArray.toList a1 = ByteArray.toList b1) ↔ (@BEq.beq ByteArray _ a1 b1) = true := by rw [beq_toListBytes]; simp
  unfold sameC
  by_cases h1 : (@BEq.beq ByteArray _ a1 b1) = true
  · rw [if_pos (e.2 h1)]
    simp only [show (a1 == b1) = true from h1, Bool.true_and]
    by_cases h2 : @Eq Int a2 b2
    · by_cases h3 : @Eq Int a3 b3
      · by_cases h4 : @Eq Int a4 b4
        · by_cases h5 : @Eq Int a5 b5
          · by_cases h6 : @Eq Int a6 b6
            · cases h2; cases h3; cases h4; cases h5; cases h6; simp
            · cases h2; cases h3; cases h4; cases h5; simp [h6]
          · cases h2; cases h3; cases h4; simp [h5]
        · cases h2; cases h3; simp [h4]
      · cases h2; simp [h3]
    · simp [h2]
  · rw [if_neg (fun h => h1 (e.1 h))]
    have : (a1 == b1) = false := by simpa using h1
    simp [this]
theorem eq_cfg (a b : Cfg) (w : World) : (do eqGuard .eql T_api_Config (.tmp 0) (.tmp 0) (.agg (Cfg.cells a).toArray) (.agg (Cfg.cells b).toArray); binOp .eql T_api_Config (.agg (Cfg.cells a).toArray) (.agg (Cfg.cells b).toArray) : Sem Value).run Pr w = .ok (.bool (sameC a b)) w :=
  eqS_of (by kernel_rfl) (eqin_cfg a b w)
theorem sameC_iff (a b : Cfg) : sameC a b = true ↔ a = b := by
  obtain ⟨a1, a2, a3, a4, a5, a6, ⟨⟩⟩ := a
  obtain ⟨b1, b2, b3, b4, b5, b6, ⟨⟩⟩ := b
  have e : (@BEq.beq ByteArray _ a1 b1) = true ↔ a1 = b1 := ba_iff
  unfold sameC
  simp [Prod.ext_iff]
  intros; exact e
end Go.Proofs.YtkebppklbobjcaaGreatDoor
namespace Go.Proofs.YtkebppklbobjcaaGreatDoor
open Go.Dm
attribute [local irreducible] L.load L.store L.chk L.new L.nonnil L.guard L.ite L.draw L.idx L.sem L.semR L.semU L.chkSem L.next L.call L.callV L.join L.alts L.loop L.begin L.endRound L.range
variable {w0 w : World} {E : List Seg}
theorem S_sameV (h : St w0 E w) {a b : Cfg} {k : Bool → PT} (hk : ∀ w', St w0 E w' → k (sameC a b) w') :
    L.callV Pr (.func (.func n_shelf_New_1) #[] #[]) [.agg (Cfg.cells a).toArray, .agg (Cfg.cells b).toArray] (.one (.one .bool)) k w := by
  refine callV_of (fs := #[]) (cs := #[]) E_shelf_New_1 (C_shelf_New_1 a b) ?_
  unfold F_shelf_New_1
  refine nw h ?_; clear h; (try clear w); intro b1 w h
  refine nw h ?_; clear h; (try clear w); intro b2 w h
  ((try dsimp only [setN, List.cons_append, List.nil_append] at h); repeat (first | refine nn ?_ | (refine dr h ?_; clear h; (try clear w); intro w h) | refine ldC h ?_ | refine laC h ?_ | refine ckC h ?_ | (refine stC h ?_; clear h; (try clear w); intro w h; (try dsimp only [putN, setN] at h)) | rw [add_add]))
  unfold L.chkSem
  refine ⟨eq_cfg a b w, _, rfl, ?_⟩
  exact hk w (dl0_ (dl0_ h))
def cfgOf (t : Thg) : Cfg := (t.1, t.2.1, t.2.2.1, t.2.2.2.1, t.2.2.2.2.1, t.2.2.2.2.2.1, ())
def putC (m : List (ByteArray × Thg)) (n : ByteArray) (c : Cfg) (ver : Int) : List (ByteArray × Thg) :=
  mset m n (thgOf c ver (if (tget m n).is = true ∧ sameC (cfgOf (tget m n)) c = true then (tget m n).gen else (tget m n).gen + 1) true)
theorem S_putC (h : St w0 E w) (i : Nat) {b : Nat} {m : List (ByteArray × Thg)} {s : Seg} (hi : nth E i = some s) (hs : RackS b m s) {n : ByteArray} {c : Cfg} {ver : Int} (hg : 0 ≤ (tget m n).gen ∧ (tget m n).gen < 4611686018427387904) {k : Unit → PT}
    (hk : ∀ s' w', RackS b (putC m n c ver) s' → St w0 (setN E i s') w' → k () w') :
    L.call Pr n_shelf_rack_api_Config_put [.pointer (some ⟨b, 0, none⟩), .string n, .agg (Cfg.cells c).toArray, I ver] (.tup []) k w := by
  obtain ⟨r, sm, hm, rfl⟩ := hs
  refine call_of (C_shelf_rack_api_Config_put _ _ c _) ?_
  unfold F_shelf_rack_api_Config_put
  unfold putC at hk
  have h := (h.front i hi).split
  refine nw h ?_; clear h; (try clear w); intro b1 w h
  ((try dsimp only [setN, List.cons_append, List.nil_append] at h); repeat (first | refine nn ?_ | (refine dr h ?_; clear h; (try clear w); intro w h) | refine ldC h ?_ | refine laC h ?_ | refine ckC h ?_ | (refine stC h ?_; clear h; (try clear w); intro w h; (try dsimp only [putN, setN] at h)) | rw [add_add]))
  refine tlook h 2 rfl hm ?_
  generalize tget m n = t at hk hg
  refine nw h ?_; clear h; (try clear w); intro b5 w h
  ((try dsimp only [setN, List.cons_append, List.nil_append] at h); repeat (first | refine nn ?_ | (refine dr h ?_; clear h; (try clear w); intro w h) | refine ldC h ?_ | refine laC h ?_ | refine ckC h ?_ | (refine stC h ?_; clear h; (try clear w); intro w h; (try dsimp only [putN, setN] at h)) | rw [add_add]))
  let cells : Int → List Value := fun g => [.string t.1, I t.2.1, I t.2.2.1, I t.2.2.2.1, I t.2.2.2.2.1, I t.2.2.2.2.2.1, I t.2.2.2.2.2.2.1, I g, .bool t.2.2.2.2.2.2.2.2.1]
  have hw : IntKind.wrap .i64 (t.gen + 1) = t.gen + 1 := wr (by omega) (by omega)
  refine join_of (fun z w => St w0 ([Cl b5 T_shelf_thing_api_Config (cells (if t.is = true ∧ sameC (cfgOf t) c = true then t.gen else t.gen + 1))] :: [Cl b1 T_api_Config (Cfg.cells c)] :: [Cl b T_shelf_rack_api_Config [.map (some r), .func (.func n_shelf_New_1) #[] #[]]] :: sm :: delN E i) w) (fun k6 hk6 => ?_) (fun z w h => ?_)
  · have h : St w0 ([Cl b5 T_shelf_thing_api_Config (cells t.gen)] :: [Cl b1 T_api_Config (Cfg.cells c)] :: [Cl b T_shelf_rack_api_Config [.map (some r), .func (.func n_shelf_New_1) #[] #[]]] :: sm :: delN E i) w := h
    dsimp only [cells] at h hk6
    have more : ∀ {w}, ¬ (t.is = true ∧ sameC (cfgOf t) c = true) → St w0 ([Cl b5 T_shelf_thing_api_Config [.string t.1, I t.2.1, I t.2.2.1, I t.2.2.2.1, I t.2.2.2.2.1, I t.2.2.2.2.2.1, I t.2.2.2.2.2.2.1, I t.gen, .bool t.2.2.2.2.2.2.2.2.1]] :: [Cl b1 T_api_Config (Cfg.cells c)] :: [Cl b T_shelf_rack_api_Config [.map (some r), .func (.func n_shelf_New_1) #[] #[]]] :: sm :: delN E i) w →
        L.load (.one (.int .i64)) ((⟨b5, 0, none⟩ : Addr).add 7) (fun (x9 : Int) =>
          L.store ((⟨b5, 0, none⟩ : Addr).add 7) [.int .i64 (IntKind.wrap .i64 (x9 + 1))] <| k6 (())) w := by
      intro w hn h
      ((try dsimp only [setN, List.cons_append, List.nil_append] at h); repeat (first | refine nn ?_ | (refine dr h ?_; clear h; (try clear w); intro w h) | refine ldC h ?_ | refine laC h ?_ | refine ckC h ?_ | (refine stC h ?_; clear h; (try clear w); intro w h; (try dsimp only [putN, setN] at h)) | rw [add_add]))
      rw [hw] at h
      refine hk6 _ w ?_
      rw [if_neg hn]; exact h
    ((try dsimp only [setN, List.cons_append, List.nil_append] at h); repeat (first | refine nn ?_ | (refine dr h ?_; clear h; (try clear w); intro w h) | refine ldC h ?_ | refine laC h ?_ | refine ckC h ?_ | (refine stC h ?_; clear h; (try clear w); intro w h; (try dsimp only [putN, setN] at h)) | rw [add_add]))
    refine it (fun h1 => ?_) (fun h1 => ?_) <;> (try simp only [decide_eq_true_eq, decide_eq_false_iff_not, beq_iff_eq, bne_iff_ne, beq_eq_false_iff_ne, bne_eq_false_iff_eq, Bool.not_eq_true', Bool.not_eq_false', ne_eq, Bool.not_eq_true, Bool.not_eq_false] at h1)
    · exact more (fun hh => by have := hh.1; simp only [Thg.is] at this; rw [h1] at this; cases this) h
    · have h1 : t.is = true := by simpa using h1
      ((try dsimp only [setN, List.cons_append, List.nil_append] at h); repeat (first | refine nn ?_ | (refine dr h ?_; clear h; (try clear w); intro w h) | refine ldC h ?_ | refine laC h ?_ | refine ckC h ?_ | (refine stC h ?_; clear h; (try clear w); intro w h; (try dsimp only [putN, setN] at h)) | rw [add_add]))
      refine S_sameV (a := cfgOf t) (b := c) h fun w h => ?_
      refine it (fun h2 => ?_) (fun h2 => ?_) <;> (try simp only [decide_eq_true_eq, decide_eq_false_iff_not, beq_iff_eq, bne_iff_ne, beq_eq_false_iff_ne, bne_eq_false_iff_eq, Bool.not_eq_true', Bool.not_eq_false', ne_eq, Bool.not_eq_true, Bool.not_eq_false] at h2)
      · exact more (fun hh => by rw [hh.2] at h2; cases h2) h
      · have h2 : sameC (cfgOf t) c = true := by simpa using h2
        refine hk6 _ w ?_
        rw [if_pos ⟨h1, h2⟩]; exact h
  · dsimp only [cells] at h
    ((try dsimp only [setN, List.cons_append, List.nil_append] at h); repeat (first | refine nn ?_ | (refine dr h ?_; clear h; (try clear w); intro w h) | refine ldC h ?_ | refine laC h ?_ | refine ckC h ?_ | (refine stC h ?_; clear h; (try clear w); intro w h; (try dsimp only [putN, setN] at h)) | rw [add_add]))
    refine MpS.set mkS und_rack h 3 rfl hm (thgOf c ver (if t.is = true ∧ sameC (cfgOf t) c = true then t.gen else t.gen + 1) true) rfl fun sm' w hm' h => ?_
    exact ⟨(), rfl, hk _ w ⟨r, sm', hm', rfl⟩ (St.back i hi (dl0_ (dl0_ h)).glue)⟩
end Go.Proofs.YtkebppklbobjcaaGreatDoor
namespace Go.Proofs.YtkebppklbobjcaaGreatDoor
open Go.Dm
attribute [local irreducible] L.load L.store L.chk L.new L.nonnil L.guard L.ite L.draw L.idx L.sem L.semR L.semU L.chkSem L.next L.call L.callV L.join L.alts L.loop L.begin L.endRound L.range
variable {w0 w : World} {E : List Seg}
abbrev Tgt := HT [.str, .str, .int .i64]
def eT (t : Tgt) : List Value := [.string t.1, .string t.2.1, I t.2.2.1]
theorem encT : Enc eT 3 := ⟨fun _ => rfl, fun _ => rfl, by decide⟩
structure ARt where
  name : ByteArray
  cfg : ByteArray
  ts : List Tgt
  roll : Int
abbrev Thr := HT [.str, .str, .slice, .int .i64, .int .i64, .int .i64, .bool]
abbrev eThr : E1 := .agg [.str, .str, .slice, .int .i64, .int .i64, .int .i64, .bool]
abbrev Thr.ver (t : Thr) : Int := t.2.2.2.2.1
abbrev Thr.gen (t : Thr) : Int := t.2.2.2.2.2.1
abbrev Thr.is (t : Thr) : Bool := t.2.2.2.2.2.2.1
def vThr (t : Thr) : Value := eThr.val t
structure AThr where
  r : ARt
  ver : Int
  gen : Int
  is : Bool
structure RtE where
  k : ByteArray
  t : Thr
  ts : List Tgt
  sg : Seg
def RtE.ok (x : RtE) : Prop := Rw eT T_api_Target 3 x.t.2.2.1 x.ts x.sg
def RtE.abs (x : RtE) : AThr := ⟨⟨x.t.1, x.t.2.1, x.ts, x.t.2.2.2.1⟩, x.t.ver, x.t.gen, x.t.is⟩
abbrev RtE.kt (x : RtE) : ByteArray × Thr := (x.k, x.t)
abbrev RtE.ka (x : RtE) : ByteArray × AThr := (x.k, x.abs)
def RackR (b : Nat) (m : List (ByteArray × AThr)) (s : Seg) : Prop := ∃ r sm, ∃ Q : List RtE, MpS Value.string vThr r (Q.map RtE.kt) sm ∧ (∀ x ∈ Q, x.ok) ∧ m = Q.map RtE.ka ∧
  s = [Cl b T_shelf_rack_api_Route [.map (some r), .func (.func n_spec_SameRoute) #[] #[]]] ++ (sm ++ (Q.map RtE.sg).flatten)
theorem S_madeR (h : St w0 E w) {k : Option Addr → PT} (hk : ∀ b s w', RackR b [] s → St w0 (s :: E) w' → k (some ⟨b, 0, none⟩) w') :
    L.call Pr n_shelf_made_api_Route [.func (.func n_spec_SameRoute) #[] #[]] (.one (.one .ptr)) k w := by
  refine call_of (C_shelf_made_api_Route ⟨.func n_spec_SameRoute, #[], #[]⟩) ?_
  unfold F_shelf_made_api_Route
  refine MpS.new h Value.string vThr fun r s w hm h => ?_
  refine nw h ?_; clear h; (try clear w); intro b w h
  exact ⟨_, rfl, hk b _ w ⟨r, s, [], hm, by simp, rfl, by simp⟩ h.glue⟩
theorem RackR.put {r b : Nat} {Q : List RtE} {sm : Seg} (x : RtE) (hx : x.ok) (hQ : ∀ x ∈ Q, x.ok) (hm : MpS Value.string vThr r (mset (Q.map RtE.kt) x.k x.t) sm)
    (h : St w0 (x.sg :: (Q.map RtE.sg).flatten :: [Cl b T_shelf_rack_api_Route [.map (some r), .func (.func n_spec_SameRoute) #[] #[]]] :: sm :: E) w) :
    ∃ s, RackR b (mset (Q.map RtE.ka) x.k x.abs) s ∧ St w0 (s :: E) w := by
  have e1 := lput_map (key := RtE.k) RtE.t x Q
  have e2 := lput_map (key := RtE.k) RtE.abs x Q
  have h := St.lput (key := RtE.k) h
  refine ⟨_, ⟨r, sm, lput RtE.k Q x, by rw [e1]; exact hm, fun y hy => ?_, e2.symm, rfl⟩, ?_⟩
  · rcases lput_mem hy with rfl | hy
    · exact hx
    · exact hQ y hy
  · have h := fr2_ (fr2_ h)
    exact h.glue3
end Go.Proofs.YtkebppklbobjcaaGreatDoor
namespace Go.Proofs.YtkebppklbobjcaaGreatDoor
open Go.Dm
attribute [local irreducible] L.load L.store L.chk L.new L.nonnil L.guard L.ite L.draw L.idx L.sem L.semR L.semU L.chkSem L.next L.call L.callV L.join L.alts L.loop L.begin L.endRound L.range
variable {w0 w : World} {E : List Seg}
def argS (l : List ByteArray) (m : Nat) : TT [.one .str] := ((l[m]?).getD s_, ())
theorem argS_at {l : List ByteArray} {m : Nat} {x : ByteArray} (h : l[m]? = some x) : argS l m = (x, ()) := by simp [argS, h]
end Go.Proofs.YtkebppklbobjcaaGreatDoor
namespace Go.Proofs.YtkebppklbobjcaaGreatDoor
open Go.Dm
attribute [local irreducible] L.load L.store L.chk L.new L.nonnil L.guard L.ite L.draw L.idx L.sem L.semR L.semU L.chkSem L.next L.call L.callV L.join L.alts L.loop L.begin L.endRound L.range
variable {w0 w : World} {E : List Seg}
structure AShelf where
  m : List (ByteArray × Thg)
  r : List (ByteArray × AThr)
  n : Int
structure AShelf.Ok (a : AShelf) : Prop where
  lo : 0 ≤ a.n
  hi : a.n < 1000000000
  gen : ∀ x, 0 ≤ (tget a.m x).gen ∧ (tget a.m x).gen ≤ a.n
  fm : a.m.length ≤ a.n
  fr : a.r.length ≤ a.n
abbrev shB (b bc br : Nat) (n : Int) : Seg := [Cl b T_shelf_Shelf [.pointer (some ⟨bc, 0, none⟩), .pointer (some ⟨br, 0, none⟩), I n]]
def ShS (b : Nat) (a : AShelf) (s : Seg) : Prop := a.Ok ∧ ∃ bc br sc sr, RackS bc a.m sc ∧ RackR br a.r sr ∧ s = shB b bc br a.n ++ (sc ++ sr)
theorem tget_put (m : List (ByteArray × Thg)) (n x : ByteArray) (t : Thg) : tget (mset m n t) x = if n = x then t else tget m x := by
  unfold tget; rw [mget_mset]; split <;> rfl
theorem mset_le {κ υ : Type} [DecidableEq κ] (m : List (κ × υ)) (k : κ) (u : υ) : (mset m k u).length ≤ m.length + 1 := by
  cases h : mget m k with
  | none => rw [mset_none h]; simp
  | some v => rw [mset_len h]; omega
def shPut (a : AShelf) (c : Cfg) (ver : Int) : AShelf × Int × Int :=
  if specC c ≠ 0 then (a, 0, specC c) else if mayC (tget a.m c.1) ver true ≠ 0 then (a, 0, mayC (tget a.m c.1) ver true) else (⟨putC a.m c.1 c (a.n + 1), a.r, a.n + 1⟩, a.n + 1, 0)
theorem S_shPut (h : St w0 E w) (i : Nat) {b : Nat} {a : AShelf} {s : Seg} (hi : nth E i = some s) (hs : ShS b a s) (hn : a.n < 900000000) {c : Cfg} {ver : Int} {k : Int × Int × Unit → PT}
    (hk : ∀ s' w', ShS b (shPut a c ver).1 s' → St w0 (setN E i s') w' → k ((shPut a c ver).2.1, (shPut a c ver).2.2, ()) w') :
    L.call Pr n_shelf_Shelf_PutConfig [.pointer (some ⟨b, 0, none⟩), .agg (Cfg.cells c).toArray, I ver] (.tup [.one (.int .i64), .one (.int .i64)]) k w := by
  have hs0 := hs
  obtain ⟨ok, bc, br, sc, sr, hC, hR, rfl⟩ := hs
  have hlo := ok.lo
  refine call_of (C_shelf_Shelf_PutConfig _ c _) ?_
  unfold F_shelf_Shelf_PutConfig
  have h := (h.front i hi).split3
  refine nw h ?_; clear h; (try clear w); intro b1 w h
  ((try dsimp only [setN, List.cons_append, List.nil_append] at h); repeat (first | refine nn ?_ | (refine dr h ?_; clear h; (try clear w); intro w h) | refine ldC h ?_ | refine laC h ?_ | refine ckC h ?_ | (refine stC h ?_; clear h; (try clear w); intro w h; (try dsimp only [putN, setN] at h)) | rw [add_add]))
  refine S_specC (c := c) h fun w h => ?_
  unfold shPut at hk
  refine jd ?_
  refine it (fun he => ?_) (fun he => ?_) <;> (try simp only [decide_eq_true_eq, decide_eq_false_iff_not, beq_iff_eq, bne_iff_ne, beq_eq_false_iff_ne, bne_eq_false_iff_eq, Bool.not_eq_true', Bool.not_eq_false', ne_eq, Bool.not_eq_true, Bool.not_eq_false] at he)
  · ((try dsimp only [setN, List.cons_append, List.nil_append] at h); repeat (first | refine nn ?_ | (refine dr h ?_; clear h; (try clear w); intro w h) | refine ldC h ?_ | refine laC h ?_ | refine ckC h ?_ | (refine stC h ?_; clear h; (try clear w); intro w h; (try dsimp only [putN, setN] at h)) | rw [add_add]))
    refine S_mayC h 2 rfl hC fun w h => ?_
    rw [if_neg (by simpa using he)] at hk
    refine it (fun hm => ?_) (fun hm => ?_) <;> (try simp only [decide_eq_true_eq, decide_eq_false_iff_not, beq_iff_eq, bne_iff_ne, beq_eq_false_iff_ne, bne_eq_false_iff_eq, Bool.not_eq_true', Bool.not_eq_false', ne_eq, Bool.not_eq_true, Bool.not_eq_false] at hm)
    · rw [if_pos hm] at hk
      exact ⟨_, rfl, hk _ w hs0 (St.back i hi (dl0_ h).glue3)⟩
    · rw [if_neg (by simpa using hm)] at hk
      ((try dsimp only [setN, List.cons_append, List.nil_append] at h); repeat (first | refine nn ?_ | (refine dr h ?_; clear h; (try clear w); intro w h) | refine ldC h ?_ | refine laC h ?_ | refine ckC h ?_ | (refine stC h ?_; clear h; (try clear w); intro w h; (try dsimp only [putN, setN] at h)) | rw [add_add]))
      rw [wr (by omega) (by omega)] at h ⊢
      have hgc := ok.gen c.1
      refine S_putC (c := c) h 2 rfl hC (by omega) fun sc' w hC' h => ?_
      have h : St w0 ([Cl b1 T_api_Config (Cfg.cells c)] :: shB b bc br (a.n + 1) :: sc' :: sr :: delN E i) w := h
      ((try dsimp only [setN, List.cons_append, List.nil_append] at h); repeat (first | refine nn ?_ | (refine dr h ?_; clear h; (try clear w); intro w h) | refine ldC h ?_ | refine laC h ?_ | refine ckC h ?_ | (refine stC h ?_; clear h; (try clear w); intro w h; (try dsimp only [putN, setN] at h)) | rw [add_add]))
      refine ⟨(a.n + 1, 0, ()), rfl, hk _ w ⟨⟨by simp only; omega, by simp only; omega, fun x => ?_, ?_, ?_⟩, bc, br, sc', sr, hC', hR, rfl⟩ (St.back i hi (dl0_ h).glue3)⟩
      · simp only [putC]
        rw [tget_put]
        have hx := ok.gen x
        split
        · simp only [thgOf, Thg.gen]
          split <;> constructor <;> (simp only [Thg.gen] at hgc ⊢; omega)
        · omega
      · have := ok.fm; have := mset_le a.m c.1 (thgOf c (a.n + 1) (if (tget a.m c.1).is = true ∧ sameC (cfgOf (tget a.m c.1)) c = true then (tget a.m c.1).gen else (tget a.m c.1).gen + 1) true)
        simp only [putC]; omega
      · have := ok.fr; simp only; omega
  · refine it (fun hm => ?_) (fun hm => ?_) <;> (try simp only [decide_eq_true_eq, decide_eq_false_iff_not, beq_iff_eq, bne_iff_ne, beq_eq_false_iff_ne, bne_eq_false_iff_eq, Bool.not_eq_true', Bool.not_eq_false', ne_eq, Bool.not_eq_true, Bool.not_eq_false] at hm)
    · rw [if_pos he] at hk
      exact ⟨_, rfl, hk _ w hs0 (St.back i hi (dl0_ h).glue3)⟩
    · exact (he hm).elim
end Go.Proofs.YtkebppklbobjcaaGreatDoor
namespace Go.Proofs.YtkebppklbobjcaaGreatDoor
open Go.Dm
attribute [local irreducible] L.load L.store L.chk L.new L.nonnil L.guard L.ite L.draw L.idx L.sem L.semR L.semU L.chkSem L.next L.call L.callV L.join L.alts L.loop L.begin L.endRound L.range
variable {w0 w : World} {E : List Seg}
theorem bk_step {T : List (ByteArray × Rv)} {n : ByteArray} (h : ∀ p ∈ T, p.2.1 = p.1 ∧ p.1 ≠ s_) {t : Rv} (hm : mget T n = some t) : t.1 = n ∧ n ≠ s_ := by
  have := mget_mem hm
  have h2 := h _ this
  exact h2
def nbRv (x6 : Rv) : Bool := !((x6.1 == s_) && ((x6.2.1 == 0) && ((x6.2.2.1 == s_) && ((x6.2.2.2.1 == 0) && ((x6.2.2.2.2.1 == 0) && ((x6.2.2.2.2.2.1 == 0) && ((x6.2.2.2.2.2.2.1 == 0) && ((x6.2.2.2.2.2.2.2.1 == 0) && true))))))))
theorem nbRv1 {t : Rv} (ht : t.1 ≠ s_) : nbRv t = true := by
  have : (t.1 == s_) = false := by
    cases e : (t.1 == s_) with
    | false => rfl
    | true => exact absurd (ba_iff.1 e) ht
  unfold nbRv
  rw [this]; rfl
theorem S_bkStamp (h : St w0 E w) (i : Nat) {b : Nat} {a : ABook} {s : Seg} (hi : nth E i = some s) (hs : BkS b a s) {c : Cfg} {g : Nat} (hc : shortB c.1.data.toList 16 = true) (h1 : 1 ≤ g) (hg : g < 100) (hf : a.all.length < 999999) {k : ByteArray × Bool × Unit → PT}
    (hk : ∀ s' w', BkS b (bkStamp a c g).1 s' → St w0 (setN E i s') w' → k ((bkStamp a c g).2.1, (bkStamp a c g).2.2, ()) w') :
    L.call Pr n_stamp_Book_Stamp [.pointer (some ⟨b, 0, none⟩), .agg (Cfg.cells c).toArray, I g] (.tup [.one .str, .one .bool]) k w := by
  have hs0 := hs
  obtain ⟨ok, rA, rP, sA, sP, hA, hP, rfl⟩ := hs
  refine call_of (C_stamp_Book_Stamp _ c _) ?_
  unfold F_stamp_Book_Stamp
  have hne := rev_ne' c.1 hg
  unfold bkStamp bkHas at hk
  have h := (h.front i hi).split3
  refine nw h ?_; clear h; (try clear w); intro b1 w h
  ((try dsimp only [setN, List.cons_append, List.nil_append] at h); repeat (first | refine nn ?_ | (refine dr h ?_; clear h; (try clear w); intro w h) | refine ldC h ?_ | refine laC h ?_ | refine ckC h ?_ | (refine stC h ?_; clear h; (try clear w); intro w h; (try dsimp only [putN, setN] at h)) | rw [add_add]))
  refine S_Rev h und_str hc h1 hg fun w h => ?_
  generalize revB c.1 g = rev at hk hne
  refine itF (by rw [str_eq]; exact decide_eq_false hne) ?_
  ((try dsimp only [setN, List.cons_append, List.nil_append] at h); repeat (first | refine nn ?_ | (refine dr h ?_; clear h; (try clear w); intro w h) | refine ldC h ?_ | refine laC h ?_ | refine ckC h ?_ | (refine stC h ?_; clear h; (try clear w); intro w h; (try dsimp only [putN, setN] at h)) | rw [add_add]))
  refine rlookup h 2 rfl hA ?_
  unfold L.chkSem
  cases hm : mget a.all rev with
  | none =>
    rw [hm] at hk
    refine ⟨ne_rv0 w, itF rfl ?_⟩
    rw [if_neg (by simp)] at hk
    ((try dsimp only [setN, List.cons_append, List.nil_append] at h); repeat (first | refine nn ?_ | (refine dr h ?_; clear h; (try clear w); intro w h) | refine ldC h ?_ | refine laC h ?_ | refine ckC h ?_ | (refine stC h ?_; clear h; (try clear w); intro w h; (try dsimp only [putN, setN] at h)) | rw [add_add]))
    refine MpS.set mkStr und_bkA h 2 rfl hA (rvOf rev g c) rfl fun sA' w hA' h => ?_
    dsimp only [setN] at h
    refine ⟨(rev, true, ()), rfl, hk _ w ⟨⟨?_, ?_⟩, rA, rP, sA', sP, hA', hP, rfl⟩ (St.back i hi (dl0_ h).glue3)⟩
    · intro p hp
      rcases mset_mem hp with rfl | hp
      · exact ⟨rfl, hne⟩
      · exact ok.name p hp
    · have := mset_le a.all rev (rvOf rev g c); show (mset a.all rev (rvOf rev g c)).length < 1000000; omega
  | some t =>
    rw [hm] at hk
    have ht := bk_step ok.name hm
    have ht1 : t.1 ≠ s_ := by rw [ht.1]; exact ht.2
    dsimp only [Option.getD]
    refine ⟨(ne_rv1 t ht1 w).trans (by show _ = Result.ok (Value.bool (nbRv t)) w; rw [nbRv1 ht1]), itT (nbRv1 ht1) ?_⟩
    rw [if_pos (by rfl)] at hk
    exact ⟨(rev, false, ()), rfl, hk _ w hs0 (St.back i hi (dl0_ h).glue3)⟩
theorem S_bkNames (h : St w0 E w) (i : Nat) {s : Seg} (hi : nth E i = some s) {r : Nat} {m : List (ByteArray × Rv)} (hm : MpS Value.string vRv r m s) (hn : m.length < 1000000000) {k : Sl → PT}
    (hk : ∀ v s' w', Rw eS T_string 1 v (ssort (m.map (·.1))) s' → St w0 (s' :: E) w' → k v w') : L.call Pr n_stamp_shelf_api_Revision_names [.map (some r)] (.one (.one .slice)) k w := by
  refine call_of (C_stamp_shelf_api_Revision_names _) ?_
  unfold F_stamp_shelf_api_Revision_names
  refine call_of (C_maps_Keys_stamp_shelf_api_Revision_string_api_Revision _) ?_
  unfold F_maps_Keys_stamp_shelf_api_Revision_string_api_Revision
  have h := h.front i hi
  refine nw h ?_; clear h; (try clear w); intro c w h
  refine ⟨⟨.func n_maps_Keys_stamp_shelf_api_Revision_string_api_Revision_1, #[], #[.pointer (some ⟨c, 0, none⟩)]⟩, rfl, ?_⟩
  have hY : YldM Pr w0 [[Cl c T_stamp_shelf_api_Revision [.map (some r)]], s] (.func (.func n_maps_Keys_stamp_shelf_api_Revision_string_api_Revision_1) #[] #[.pointer (some ⟨c, 0, none⟩)]) (m.map (·.1)) Value.string := by
    intro yv R J Jd F w h hJ step fin fin2
    refine ⟨E_maps_Keys_stamp_shelf_api_Revision_string_api_Revision_1, C_maps_Keys_stamp_shelf_api_Revision_string_api_Revision_1 yv ⟨c, 0, none⟩ ?_⟩
    unfold F_maps_Keys_stamp_shelf_api_Revision_string_api_Revision_1
    exact keys_of (kv := Value.string) (vv := vRv) unS (fun _ => rfl) und_bkA (lk := .str) (ev := eRv) (fun x => x) (fun _ => rfl) (fun x : Rv => x) (fun _ => rfl) J Jd hm h hJ (fun seen k F X w hl hJ h => step seen k F X w (by simpa using hl) hJ h) fin fin2
  refine S_SortedKeysS (fv := ⟨.func n_maps_Keys_stamp_shelf_api_Revision_string_api_Revision_1, #[], #[.pointer (some ⟨c, 0, none⟩)]⟩) hY h (by simpa using hn) fun v s' w hr h => ⟨v, rfl, hk v s' w hr ?_⟩
  have h := fr1_ h
  exact St.again (i + 1) (E := s' :: E) hi h
def bkAll (a : ABook) : List ByteArray := ssort (a.all.map (·.1))
theorem S_bkAll (h : St w0 E w) (i : Nat) {b : Nat} {a : ABook} {s : Seg} (hi : nth E i = some s) (hs : BkS b a s) {k : Sl → PT} (hk : ∀ v s' w', Rw eS T_string 1 v (bkAll a) s' → St w0 (s' :: E) w' → k v w') :
    L.call Pr n_stamp_Book_All [.pointer (some ⟨b, 0, none⟩)] (.one (.one .slice)) k w := by
  obtain ⟨ok, rA, rP, sA, sP, hA, hP, rfl⟩ := hs
  refine call_of (C_stamp_Book_All _) ?_
  unfold F_stamp_Book_All
  have h := (h.front i hi).split3
  have hf := ok.few
  ((try dsimp only [setN, List.cons_append, List.nil_append] at h); repeat (first | refine nn ?_ | (refine dr h ?_; clear h; (try clear w); intro w h) | refine ldC h ?_ | refine laC h ?_ | refine ckC h ?_ | (refine stC h ?_; clear h; (try clear w); intro w h; (try dsimp only [putN, setN] at h)) | rw [add_add]))
  refine S_bkNames h 1 rfl hA (by omega) fun v s' w hr h => ?_
  refine S_CloneS h (Rw.rd encS h 0 rfl hr) (by rw [ssort_len, List.length_map]; omega) (Rw.nil0 encS hr) fun v' s2 w hr2 _ h => ⟨v', rfl, hk v' s2 w hr2 ?_⟩
  have h := dl1_ h
  have h := fr3_ (fr3_ (fr3_ h))
  have h := h.glue3
  exact St.again (i + 1) (E := s2 :: E) hi h
end Go.Proofs.YtkebppklbobjcaaGreatDoor
namespace Go.Proofs.YtkebppklbobjcaaGreatDoor
open Go.Dm
attribute [local irreducible] L.load L.store L.chk L.new L.nonnil L.guard L.ite L.draw L.idx L.sem L.semR L.semU L.chkSem L.next L.call L.callV L.join L.alts L.loop L.begin L.endRound L.range
variable {w0 w : World} {E : List Seg}
def bkStep (a : ABook) (c : ByteArray) (q : ByteArray → Bool) (t : Rv) (rev : ByteArray) : Rv :=
  if (bkGet a rev).2.2.1 = c then if t.2.1 < (bkGet a rev).2.1 then if q rev = true then bkGet a rev else t else t else t
def bkBest (a : ABook) (c : ByteArray) (q : ByteArray → Bool) : Rv := (bkAll a).foldl (bkStep a c q) noRv
def bkReady (a : ABook) (c : ByteArray) : ByteArray := (bkBest a c (bkProved a)).1
end Go.Proofs.YtkebppklbobjcaaGreatDoor

namespace Go.Proofs
open Go.Shelf
def Tryz.laysM171_ren : Go.Shelf.Ren := ⟨fun | 171 => 61 | 243 => 115 | 246 => 177 | 283 => 218 | 284 => 219 | 285 => 220 | 286 => 221 | 129 => 252 | 317 => 251 | 318 => 253 | 319 => 254 | 320 => 255 | 337 => 282 | 338 => 283 | n => n, fun | 3 => 3 | 9 => 9 | 2 => 2 | 4 => 4 | 171 => 343 | 0 => 0 | 53 => 344 | 37 => 75 | 5 => 5 | 173 => 347 | 212 => 383 | 51 => 372 | 20 => 20 | 213 => 384 | 46 => 362 | 232 => 420 | 233 => 421 | n => n, fun | 17 => 1 | 18 => 4 | 19 => 5 | n => n⟩
theorem Tryz.laysM171 : Go.Proofs.LaysM.n171 Tryz.prog Tryz.laysM171_ren := {
  mixed := by kernel_rfl
  f129 := Tryz.func252.trans (congrArg some (by kernel_rfl))
  f171 := Tryz.func61.trans (congrArg some (by kernel_rfl))
  f243 := Tryz.func115.trans (congrArg some (by kernel_rfl))
  f246 := Tryz.func177.trans (congrArg some (by kernel_rfl))
  f283 := Tryz.func218.trans (congrArg some (by kernel_rfl))
  f284 := Tryz.func219.trans (congrArg some (by kernel_rfl))
  f285 := Tryz.func220.trans (congrArg some (by kernel_rfl))
  f286 := Tryz.func221.trans (congrArg some (by kernel_rfl))
  f317 := Tryz.func251.trans (congrArg some (by kernel_rfl))
  f318 := Tryz.func253.trans (congrArg some (by kernel_rfl))
  f319 := Tryz.func254.trans (congrArg some (by kernel_rfl))
  f320 := Tryz.func255.trans (congrArg some (by kernel_rfl))
  f337 := Tryz.func282.trans (congrArg some (by kernel_rfl))
  f338 := Tryz.func283.trans (congrArg some (by kernel_rfl))
  t0 := Tryz.underlying0
  a0 := Tryz.isAgg0
  z0 := Tryz.sizeOf0
  v0 := Tryz.zeroValue0
  t2 := Tryz.underlying2
  a2 := Tryz.isAgg2
  z2 := Tryz.sizeOf2
  v2 := Tryz.zeroValue2
  t3 := Tryz.underlying3
  a3 := Tryz.isAgg3
  z3 := Tryz.sizeOf3
  v3 := Tryz.zeroValue3
  t4 := Tryz.underlying4
  a4 := Tryz.isAgg4
  z4 := Tryz.sizeOf4
  v4 := Tryz.zeroValue4
  t5 := Tryz.underlying5
  a5 := Tryz.isAgg5
  z5 := Tryz.sizeOf5
  v5 := Tryz.zeroValue5
  t9 := Tryz.underlying9
  a9 := Tryz.isAgg9
  z9 := Tryz.sizeOf9
  v9 := Tryz.zeroValue9
  t20 := Tryz.underlying20
  a20 := Tryz.isAgg20
  z20 := Tryz.sizeOf20
  v20 := Tryz.zeroValue20
  t37 := Tryz.underlying75
  a37 := Tryz.isAgg75
  z37 := Tryz.sizeOf75
  v37 := Tryz.zeroValue75
  t46 := Tryz.underlying362
  a46 := Tryz.isAgg362
  z46 := Tryz.sizeOf362
  v46 := Tryz.zeroValue362
  t51 := Tryz.underlying372
  a51 := Tryz.isAgg372
  z51 := Tryz.sizeOf372
  v51 := Tryz.zeroValue372
  t53 := Tryz.underlying344
  a53 := Tryz.isAgg344
  z53 := Tryz.sizeOf344
  v53 := Tryz.zeroValue344
  t171 := Tryz.underlying343
  a171 := Tryz.isAgg343
  z171 := Tryz.sizeOf343
  v171 := Tryz.zeroValue343
  t173 := Tryz.underlying347
  a173 := Tryz.isAgg347
  z173 := Tryz.sizeOf347
  v173 := Tryz.zeroValue347
  t212 := Tryz.underlying383
  a212 := Tryz.isAgg383
  z212 := Tryz.sizeOf383
  v212 := Tryz.zeroValue383
  t213 := Tryz.underlying384
  a213 := Tryz.isAgg384
  z213 := Tryz.sizeOf384
  t232 := Tryz.underlying420
  a232 := Tryz.isAgg420
  z232 := Tryz.sizeOf420
  v232 := Tryz.zeroValue420
  t233 := Tryz.underlying421
  a233 := Tryz.isAgg421
  z233 := Tryz.sizeOf421
  v233 := Tryz.zeroValue421
  g17 := by kernel_rfl
  g18 := by kernel_rfl
  g19 := by kernel_rfl
  i0 := by kernel_rfl
  i2 := by kernel_rfl
  i3 := by kernel_rfl
  i4 := by kernel_rfl
  i5 := by kernel_rfl
  i9 := by kernel_rfl
  i20 := by kernel_rfl
  i37 := by kernel_rfl
  i46 := by kernel_rfl
  i51 := by kernel_rfl
  i53 := by kernel_rfl
  i171 := by kernel_rfl
  i173 := by kernel_rfl
  i212 := by kernel_rfl
  i232 := by kernel_rfl
  i233 := by kernel_rfl
  m17 := by kernel_rfl
  m18 := by kernel_rfl
  m19 := by kernel_rfl }
open Go.RowKit Go.Sort Go.Lib in
theorem Tryz.strconv_Itoa (n : Int) (h0 : -9223372036854775808 ≤ n) (h1 : n ≤ 9223372036854775807) (w : World) (htab : Lib.TabIs Tryz.prog w "internal/strconv.uint64pow10" .u64 Lib.pow10Tab) :
    Calls Tryz.prog 61 #[.int .i64 n] w fun e w' => e = .returned (.string ⟨(Lib.itoa n).toArray⟩) ∧ ∃ k os, w' = grow (w.drewN k) os := Any.strconv_Itoa Tryz.laysM171 n h0 h1 w htab
end Go.Proofs

namespace Go.Proofs
open Go.Shelf
def Tryz.lays156_ren : Go.Shelf.Ren := ⟨fun | 156 => 62 | 165 => 116 | 166 => 117 | 169 => 118 | 240 => 178 | 241 => 179 | 276 => 222 | 277 => 223 | n => n, fun | 31 => 40 | 9 => 9 | 3 => 3 | 4 => 4 | 0 => 0 | 20 => 20 | 72 => 210 | 76 => 213 | 70 => 208 | 37 => 75 | 75 => 212 | 127 => 305 | 164 => 349 | 5 => 5 | 80 => 78 | n => n, fun | n => n⟩
theorem Tryz.lays156 : Go.Proofs.Lays.n156 Tryz.prog Tryz.lays156_ren := {
  mixed := by kernel_rfl
  f156 := Tryz.func62.trans (congrArg some (by kernel_rfl))
  f165 := Tryz.func116.trans (congrArg some (by kernel_rfl))
  f166 := Tryz.func117.trans (congrArg some (by kernel_rfl))
  f169 := Tryz.func118.trans (congrArg some (by kernel_rfl))
  f240 := Tryz.func178.trans (congrArg some (by kernel_rfl))
  f241 := Tryz.func179.trans (congrArg some (by kernel_rfl))
  f276 := Tryz.func222.trans (congrArg some (by kernel_rfl))
  f277 := Tryz.func223.trans (congrArg some (by kernel_rfl))
  t0 := Tryz.underlying0
  a0 := Tryz.isAgg0
  z0 := Tryz.sizeOf0
  v0 := Tryz.zeroValue0
  t3 := Tryz.underlying3
  a3 := Tryz.isAgg3
  z3 := Tryz.sizeOf3
  v3 := Tryz.zeroValue3
  t4 := Tryz.underlying4
  a4 := Tryz.isAgg4
  z4 := Tryz.sizeOf4
  v4 := Tryz.zeroValue4
  t9 := Tryz.underlying9
  a9 := Tryz.isAgg9
  z9 := Tryz.sizeOf9
  v9 := Tryz.zeroValue9
  t20 := Tryz.underlying20
  a20 := Tryz.isAgg20
  z20 := Tryz.sizeOf20
  v20 := Tryz.zeroValue20
  t31 := Tryz.underlying40
  a31 := Tryz.isAgg40
  z31 := Tryz.sizeOf40
  v31 := Tryz.zeroValue40
  t37 := Tryz.underlying75
  a37 := Tryz.isAgg75
  z37 := Tryz.sizeOf75
  v37 := Tryz.zeroValue75
  t70 := Tryz.underlying208
  a70 := Tryz.isAgg208
  z70 := Tryz.sizeOf208
  v70 := Tryz.zeroValue208
  t72 := Tryz.underlying210
  a72 := Tryz.isAgg210
  z72 := Tryz.sizeOf210
  v72 := Tryz.zeroValue210
  t75 := Tryz.underlying212
  a75 := Tryz.isAgg212
  z75 := Tryz.sizeOf212
  v75 := Tryz.zeroValue212
  t76 := Tryz.underlying213
  a76 := Tryz.isAgg213
  z76 := Tryz.sizeOf213
  v76 := Tryz.zeroValue213
  t127 := Tryz.underlying305
  a127 := Tryz.isAgg305
  z127 := Tryz.sizeOf305
  v127 := Tryz.zeroValue305
  t164 := Tryz.underlying349
  a164 := Tryz.isAgg349
  z164 := Tryz.sizeOf349
  v164 := Tryz.zeroValue349 }
theorem Tryz.Builder_Extra_156 : Builder.Extra Tryz.prog Tryz.lays156_ren := {
  sizeBuilder := by kernel_rfl
  liesBuilder := by kernel_rfl
  t5 := Tryz.underlying5
  a5 := Tryz.isAgg5
  z5 := Tryz.sizeOf5
  v5 := Tryz.zeroValue5
  infoByte := by kernel_rfl
  cellsByte := by kernel_rfl
  sizeByte := by kernel_rfl
  neB5 := by decide }
open Go.RowKit in
theorem Tryz.strings_Join (bk o c : Nat) (xs : List ByteArray) (sep : ByteArray) (w : World)
    (hcells : ∀ (j : Nat) x, xs[j]? = some x → w.cell? ⟨bk, o + j, none⟩ = some (.string x))
    (hbk : bk < w.heap.size) (hN : xs.length ≤ 140737488355328) (hcap : xs.length ≤ c)
    (hlen : (Lib.join (xs.map (·.data.toList)) sep.data.toList).length ≤ 140737488355328) :
    Calls Tryz.prog 62 #[.slice (some ⟨bk, o, none⟩) xs.length c, .string sep] w fun e w' => e = .returned (.string ⟨(Lib.join (xs.map (·.data.toList)) sep.data.toList).toArray⟩) ∧ Below w.heap.size w w' := Any.strings_Join Tryz.lays156 Tryz.Builder_Extra_156 bk o c xs sep w hcells hbk hN hcap hlen
end Go.Proofs
namespace Go.Proofs.YtkebppklbobjcaaGreatDoor
open Go.Dm
attribute [local irreducible] L.load L.store L.chk L.new L.nonnil L.guard L.ite L.draw L.idx L.sem L.semR L.semU L.chkSem L.next L.call L.callV L.join L.alts L.loop L.begin L.endRound L.range
variable {w0 w : World} {E : List Seg}
abbrev bTab (w0 : World) := Tab Pr w0
theorem S_ItoaT [bTab w0] (h : St w0 E w) {n : Int} (h0 : 0 ≤ n) (h1 : n ≤ 9223372036854775807) {k : ByteArray → PT} (hk : ∀ w', St w0 E w' → k (decD n.toNat) w') : L.call Pr n_strconv_Itoa [I n] (.one (.one .str)) k w := by
  refine call_calls (Tryz.strconv_Itoa n (by omega) h1 w h.tab) fun e w' ⟨he, m, os, hw⟩ => ⟨decD n.toNat, ?_, ?_⟩
  · rw [he, ← itoa_nat, Int.toNat_of_nonneg h0]; rfl
  · subst hw
    exact hk _ ((h.drawn).grow os)
theorem S_JoinB (h : St w0 E w) (i : Nat) {s : Seg} (hi : nth E i = some s) {v : Sl} {l : List ByteArray} (hr : Rw eS T_string 1 v l s) (hn : l.length < 1000000000) (hsz : (joinB l).size < 1000000000000) {k : ByteArray → PT} (hk : ∀ w', St w0 E w' → k (joinB l) w') :
    L.call Pr n_strings_Join [SlV v, .string s___b5c5] (.one (.one .str)) k w := by
  refine joinB_of (e := T_string) (s := s) (v := v) (l := l) rfl encS (fun g off cap w h1 h2 h3 => Tryz.strings_Join g off cap l s___b5c5 w h1 h2 (by omega) h3 ?_) (fun p cap w => Any.strings_Join_none Tryz.lays156 Tryz.Builder_Extra_156 p cap s___b5c5 w) h i hi hr hk
  have : (joinB l).size = (Lib.join (l.map (·.data.toList)) [32]).length := by rw [← size_list, data_joinB]
  show (Lib.join (l.map (·.data.toList)) [32]).length ≤ _
  omega
end Go.Proofs.YtkebppklbobjcaaGreatDoor
namespace Go.Proofs.YtkebppklbobjcaaGreatDoor
open Go.Dm
attribute [local irreducible] L.load L.store L.chk L.new L.nonnil L.guard L.ite L.draw L.idx L.sem L.semR L.semU L.chkSem L.next L.call L.callV L.join L.alts L.loop L.begin L.endRound L.range
variable {w0 w : World} {E : List Seg}
theorem S_rsign {c : Int} {k : Bool → PT} (hk : k (decide (97 ≤ c ∧ c ≤ 122) || decide (48 ≤ c ∧ c ≤ 57) || decide (c = 45)) w) : L.call Pr n_damperref1_sign [.int .u8 c] (.one (.one .bool)) k w := by
  refine call_of (C_damperref1_sign _) ?_
  unfold F_damperref1_sign
  have e45 : (c == 45) = decide (c = 45) := by by_cases h : c = 45 <;> simp [h]
  have fin : ∀ b : Bool, b = (decide (97 ≤ c ∧ c ≤ 122) || decide (48 ≤ c ∧ c ≤ 57) || decide (c = 45)) → ∃ x, Value.bool b = RT.val (.one (.one .bool)) x ∧ k x w := fun b hb => ⟨b, rfl, by rw [hb]; exact hk⟩
  refine it (fun h1 => ?_) (fun h1 => ?_) <;> (try simp only [decide_eq_true_eq, decide_eq_false_iff_not, beq_iff_eq, bne_iff_ne, beq_eq_false_iff_ne, bne_eq_false_iff_eq, Bool.not_eq_true', Bool.not_eq_false', ne_eq, Bool.not_eq_true, Bool.not_eq_false] at h1)
  · refine it (fun h2 => ?_) (fun h2 => ?_) <;> (try simp only [decide_eq_true_eq, decide_eq_false_iff_not, beq_iff_eq, bne_iff_ne, beq_eq_false_iff_ne, bne_eq_false_iff_eq, Bool.not_eq_true', Bool.not_eq_false', ne_eq, Bool.not_eq_true, Bool.not_eq_false] at h2)
    · exact fin _ (by rw [decide_eq_true (show 97 ≤ c ∧ c ≤ 122 by omega)]; rfl)
    · rw [decide_eq_false (show ¬ (97 ≤ c ∧ c ≤ 122) by omega), decide_eq_false (show ¬ (48 ≤ c ∧ c ≤ 57) by omega)] at fin
      refine it (fun h3 => ?_) (fun h3 => ?_) <;> (try simp only [decide_eq_true_eq, decide_eq_false_iff_not, beq_iff_eq, bne_iff_ne, beq_eq_false_iff_ne, bne_eq_false_iff_eq, Bool.not_eq_true', Bool.not_eq_false', ne_eq, Bool.not_eq_true, Bool.not_eq_false] at h3)
      · refine it (fun h4 => ?_) (fun h4 => ?_) <;> (try simp only [decide_eq_true_eq, decide_eq_false_iff_not, beq_iff_eq, bne_iff_ne, beq_eq_false_iff_ne, bne_eq_false_iff_eq, Bool.not_eq_true', Bool.not_eq_false', ne_eq, Bool.not_eq_true, Bool.not_eq_false] at h4)
        · omega
        · exact fin _ (by rw [e45]; rfl)
      · exact fin _ (by rw [e45]; rfl)
  · rw [decide_eq_false (show ¬ (97 ≤ c ∧ c ≤ 122) by omega)] at fin
    refine it (fun h3 => ?_) (fun h3 => ?_) <;> (try simp only [decide_eq_true_eq, decide_eq_false_iff_not, beq_iff_eq, bne_iff_ne, beq_eq_false_iff_ne, bne_eq_false_iff_eq, Bool.not_eq_true', Bool.not_eq_false', ne_eq, Bool.not_eq_true, Bool.not_eq_false] at h3)
    · refine it (fun h4 => ?_) (fun h4 => ?_) <;> (try simp only [decide_eq_true_eq, decide_eq_false_iff_not, beq_iff_eq, bne_iff_ne, beq_eq_false_iff_ne, bne_eq_false_iff_eq, Bool.not_eq_true', Bool.not_eq_false', ne_eq, Bool.not_eq_true, Bool.not_eq_false] at h4)
      · exact fin _ (by rw [decide_eq_true (show 48 ≤ c ∧ c ≤ 57 by omega)]; rfl)
      · exact fin _ (by rw [e45, decide_eq_false (show ¬ (48 ≤ c ∧ c ≤ 57) by omega)]; rfl)
    · exact fin _ (by rw [e45, decide_eq_false (show ¬ (48 ≤ c ∧ c ≤ 57) by omega)]; rfl)
theorem S_rName (h : St w0 E w) {s : ByteArray} {k : Bool → PT} (hk : ∀ w', St w0 E w' → k (shortB s.data.toList 16) w') : L.call Pr n_damperref1_Name [.string s] (.one (.one .bool)) k w := by
  refine call_of (C_damperref1_Name _) ?_
  unfold F_damperref1_Name
  have hsz := size_list s
  have bt : ∀ n : Int, byteAt s n = ((s.data.toList.getD n.toNat 0).toNat : Int) := fun n => rfl
  generalize s.data.toList = l at hk hsz bt
  have no : ∀ {w}, St w0 E w → shortB l 16 = false → ∃ x, Value.bool false = RT.val (.one (.one .bool)) x ∧ k x w := fun h hs => ⟨false, rfl, by have := hk _ h; rw [hs] at this; exact this⟩
  refine it (fun c1 => ?_) (fun c1 => ?_) <;> (try simp only [decide_eq_true_eq, decide_eq_false_iff_not, beq_iff_eq, bne_iff_ne, beq_eq_false_iff_ne, bne_eq_false_iff_eq, Bool.not_eq_true', Bool.not_eq_false', ne_eq, Bool.not_eq_true, Bool.not_eq_false] at c1)
  · have : l = [] := List.eq_nil_of_length_eq_zero (by omega)
    exact no h (by rw [this]; rfl)
  refine it (fun c2 => ?_) (fun c2 => ?_) <;> (try simp only [decide_eq_true_eq, decide_eq_false_iff_not, beq_iff_eq, bne_iff_ne, beq_eq_false_iff_ne, bne_eq_false_iff_eq, Bool.not_eq_true', Bool.not_eq_false', ne_eq, Bool.not_eq_true, Bool.not_eq_false] at c2)
  · refine no h ?_
    unfold shortB
    rw [decide_eq_false (show ¬ (l.length : Int) ≤ 16 by omega), Bool.and_false]
  obtain ⟨b, r, rfl⟩ : ∃ b r, l = b :: r := by
    cases l with
    | nil => simp at hsz; omega
    | cons b r => exact ⟨b, r, rfl⟩
  have hb0 : byteAt s 0 = (b.toNat : Int) := by rw [bt]; rfl
  have hlast : (b :: r).getLast? = some ((b :: r).getD (s.size - 1) 0) := by
    rw [List.getLast?_eq_getElem?, hsz, List.getD_eq_getElem?_getD, List.getElem?_eq_getElem (by omega)]
    rfl
  refine gd (by omega) ?_
  rw [hb0]
  refine it (fun c3 => ?_) (fun c3 => ?_) <;> (try simp only [decide_eq_true_eq, decide_eq_false_iff_not, beq_iff_eq, bne_iff_ne, beq_eq_false_iff_ne, bne_eq_false_iff_eq, Bool.not_eq_true', Bool.not_eq_false', ne_eq, Bool.not_eq_true, Bool.not_eq_false] at c3)
  · refine no h ?_
    unfold shortB letterB
    simp only [List.head?_cons, Option.map_some, Option.getD_some]
    rw [decide_eq_false (show ¬ (97 ≤ b.toNat ∧ b.toNat ≤ 122) by omega)]; simp
  refine gd (by omega) ?_
  refine it (fun c4 => ?_) (fun c4 => ?_) <;> (try simp only [decide_eq_true_eq, decide_eq_false_iff_not, beq_iff_eq, bne_iff_ne, beq_eq_false_iff_ne, bne_eq_false_iff_eq, Bool.not_eq_true', Bool.not_eq_false', ne_eq, Bool.not_eq_true, Bool.not_eq_false] at c4)
  · refine no h ?_
    unfold shortB letterB
    simp only [List.head?_cons, Option.map_some, Option.getD_some]
    rw [decide_eq_false (show ¬ (97 ≤ b.toNat ∧ b.toNat ≤ 122) by omega)]; simp
  have hlet : letterB b = true := decide_eq_true (by omega)
  rw [wr (by omega) (by omega)]
  refine gd (by omega) ?_
  have hbl : byteAt s ((s.size : Int) - 1) = (((b :: r).getD (s.size - 1) 0).toNat : Int) := by rw [bt]; congr 3; omega
  rw [hbl]
  generalize (b :: r).getD (s.size - 1) 0 = z at hlast
  refine it (fun c5 => ?_) (fun c5 => ?_) <;> (try simp only [decide_eq_true_eq, decide_eq_false_iff_not, beq_iff_eq, bne_iff_ne, beq_eq_false_iff_ne, bne_eq_false_iff_eq, Bool.not_eq_true', Bool.not_eq_false', ne_eq, Bool.not_eq_true, Bool.not_eq_false] at c5)
  · refine no h ?_
    unfold shortB
    rw [hlast]
    simp only
    rw [decide_eq_false (show ¬ z.toNat ≠ 45 by omega)]; simp
  refine loop_of (fun q y w => ∃ i : Nat, y = ((i : Int), ()) ∧ q + i = s.size ∧ ((b :: r).take i).all signB = true ∧ St w0 E w) s.size ⟨0, rfl, rfl, rfl, h⟩ ?_
  clear h; (try clear w)
  rintro q y w ⟨i, rfl, hq, hall, h⟩ again hag
  dsimp only
  refine it (fun hb => ?_) (fun hb => ?_) <;> (try simp only [decide_eq_true_eq, decide_eq_false_iff_not, beq_iff_eq, bne_iff_ne, beq_eq_false_iff_ne, bne_eq_false_iff_eq, Bool.not_eq_true', Bool.not_eq_false', ne_eq, Bool.not_eq_true, Bool.not_eq_false] at hb)
  · have hi : i < (b :: r).length := by omega
    have hx : (b :: r)[i]? = some (b :: r)[i] := List.getElem?_eq_getElem hi
    have hbi : byteAt s (i : Int) = ((b :: r)[i].toNat : Int) := by rw [bt, Int.toNat_natCast, List.getD_eq_getElem?_getD, hx]; rfl
    have hmem := List.mem_of_getElem? hx
    refine gd (by omega) ?_
    rw [hbi]
    generalize (b :: r)[i] = u at hx hmem
    refine S_rsign ?_
    rw [signB_eq]
    refine it (fun hs => ?_) (fun hs => ?_)
    · refine no h ?_
      have hs : signB u = false := by simpa using hs
      unfold shortB
      have : (b :: r).all signB = false := by
        rw [List.all_eq_false]; exact ⟨u, hmem, by simp [hs]⟩
      rw [this]; rfl
    · have hs : signB u = true := by simpa using hs
      rw [wr (by omega) (by omega)]
      refine hag (q - 1) _ w (by omega) ⟨i + 1, by simp, by omega, ?_, h⟩
      rw [List.take_add_one, hx, List.all_append, hall]; simp [hs]
  · have e : (b :: r).take i = b :: r := List.take_of_length_le (by omega)
    rw [e] at hall
    refine ⟨true, rfl, ?_⟩
    have := hk _ h
    have ht : shortB (b :: r) 16 = true := by
      unfold shortB
      rw [hall, hlast]
      simp only [List.head?_cons, Option.map_some, Option.getD_some]
      rw [hlet, decide_eq_true (show z.toNat ≠ 45 by omega), decide_eq_true (show (((b :: r).length : Nat) : Int) ≤ 16 by omega)]; rfl
    rw [ht] at this; exact this
end Go.Proofs.YtkebppklbobjcaaGreatDoor
namespace Go.Proofs.YtkebppklbobjcaaGreatDoor
open Go.Dm
attribute [local irreducible] L.load L.store L.chk L.new L.nonnil L.guard L.ite L.draw L.idx L.sem L.semR L.semU L.chkSem L.next L.call L.callV L.join L.alts L.loop L.begin L.endRound L.range
variable {w0 w : World} {E : List Seg}
def revOk (r : ByteArray) : Prop := r = s_ ∨ ∃ c g, shortB c.data.toList 16 = true ∧ 1 ≤ g ∧ g < 100 ∧ r = revB c g
def tagBad (t : ByteArray) : Bool := !decide (t = s_) && !shortB t.data.toList 8
def tgE (t : Tgt) : Int := if tagBad t.2.1 = true then 1 else if 0 ≤ @id Int t.2.2.1 ∧ @id Int t.2.2.1 ≤ 100 then 0 else 2
theorem rev_ne (c : ByteArray) {g : Nat} (hg : g < 100) : revB c g ≠ s_ := fun e => by
  have := rev_size c hg
  rw [e] at this
  have h0 : s_.size = 0 := rfl
  omega
theorem S_target (h : St w0 E w) {t : Tgt} (hr : revOk t.1) {k : Int → PT} (hk : ∀ w', St w0 E w' → k (tgE t) w') : L.call Pr n_spec_target [.agg #[.string t.1, .string t.2.1, I t.2.2.1]] (.one (.one (.int .i64))) k w := by
  refine call_of (C_spec_target t) ?_
  unfold F_spec_target
  refine nw h ?_; clear h; (try clear w); intro b1 w h
  ((try dsimp only [setN, List.cons_append, List.nil_append] at h); repeat (first | refine nn ?_ | (refine dr h ?_; clear h; (try clear w); intro w h) | refine ldC h ?_ | refine laC h ?_ | refine ckC h ?_ | (refine stC h ?_; clear h; (try clear w); intro w h; (try dsimp only [putN, setN] at h)) | rw [add_add]))
  have fin : ∀ {w}, St w0 ([Cl b1 T_api_Target [.string t.1, .string t.2.1, I t.2.2.1]] :: E) w →
      (L.ite (tagBad t.2.1) (fun w' => ∃ y, Value.int .i64 1 = RT.val (.one (.one (.int .i64))) y ∧ k y w') <|
        L.load (.one (.int .i64)) ((⟨b1, 0, none⟩ : Addr).add 2) fun (x13 : Int) =>
        L.callV Pr (.func (.func n_spec_span_has) #[.agg #[.int .i64 0, .int .i64 100]] #[]) [.int .i64 x13] (.one (.one (.bool))) fun (x14 : Bool) =>
        L.ite (!x14) (fun w' => ∃ y, Value.int .i64 2 = RT.val (.one (.one (.int .i64))) y ∧ k y w') <|
        fun w' => ∃ y, Value.int .i64 0 = RT.val (.one (.one (.int .i64))) y ∧ k y w') w := by
    intro w h
    refine it (fun hb => ?_) (fun hb => ?_)
    · have := hk w (dl0_ h)
      unfold tgE at this
      rw [if_pos hb] at this
      exact ⟨1, rfl, this⟩
    · ((try dsimp only [setN, List.cons_append, List.nil_append] at h); repeat (first | refine nn ?_ | (refine dr h ?_; clear h; (try clear w); intro w h) | refine ldC h ?_ | refine laC h ?_ | refine ckC h ?_ | (refine stC h ?_; clear h; (try clear w); intro w h; (try dsimp only [putN, setN] at h)) | rw [add_add]))
      refine callV_of (fs := #[.agg #[.int .i64 0, .int .i64 100]]) (cs := #[]) E_spec_span_has (C_spec_span_has (0, 100, ()) t.2.2.1) ?_
      unfold F_spec_span_has
      refine nw h ?_; clear h; (try clear w); intro b2 w h
      ((try dsimp only [setN, List.cons_append, List.nil_append] at h); repeat (first | refine nn ?_ | (refine dr h ?_; clear h; (try clear w); intro w h) | refine ldC h ?_ | refine laC h ?_ | refine ckC h ?_ | (refine stC h ?_; clear h; (try clear w); intro w h; (try dsimp only [putN, setN] at h)) | rw [add_add]))
      have fin2 : ∀ {w}, ∀ b : Bool, (b = decide (0 ≤ @id Int t.2.2.1 ∧ @id Int t.2.2.1 ≤ 100)) → St w0 ([Cl b2 T_spec_span [I 0, I 100]] :: [Cl b1 T_api_Target [.string t.1, .string t.2.1, I t.2.2.1]] :: E) w → (∃ x, Value.bool b = RT.val (.one (.one .bool)) x ∧
          (L.ite (!x) (fun w' => ∃ y, Value.int .i64 2 = RT.val (.one (.one (.int .i64))) y ∧ k y w') <| fun w' => ∃ y, Value.int .i64 0 = RT.val (.one (.one (.int .i64))) y ∧ k y w') w) := by
        intro w b e h
        refine ⟨b, rfl, ?_⟩
        have := hk w (dl0_ (dl0_ h))
        unfold tgE at this
        rw [if_neg (by simp [hb])] at this
        refine it (fun hx => ?_) (fun hx => ?_)
        · have hx : b = false := by simpa using hx
          rw [if_neg (of_decide_eq_false (e.symm.trans hx))] at this
          exact ⟨2, rfl, this⟩
        · have hx : b = true := by simpa using hx
          rw [if_pos (of_decide_eq_true (e.symm.trans hx))] at this
          exact ⟨0, rfl, this⟩
      refine it (fun h0 => ?_) (fun h0 => ?_)
      · have h0 := of_decide_eq_true h0
        ((try dsimp only [setN, List.cons_append, List.nil_append] at h); repeat (first | refine nn ?_ | (refine dr h ?_; clear h; (try clear w); intro w h) | refine ldC h ?_ | refine laC h ?_ | refine ckC h ?_ | (refine stC h ?_; clear h; (try clear w); intro w h; (try dsimp only [putN, setN] at h)) | rw [add_add]))
        refine fin2 _ ?_ h
        exact decide_eq_decide.2 ⟨fun hh => ⟨h0, hh⟩, fun hh => hh.2⟩
      · have h0 := of_decide_eq_false h0
        exact fin2 _ (decide_eq_false fun hh => h0 hh.1).symm h
  have tag : ∀ {w} {k4 : Bool × Unit → PT}, (∀ w', St w0 ([Cl b1 T_api_Target [.string t.1, .string t.2.1, I t.2.2.1]] :: E) w' → k4 (tagBad t.2.1, ()) w') → St w0 ([Cl b1 T_api_Target [.string t.1, .string t.2.1, I t.2.2.1]] :: E) w →
      (L.load (.one (.str)) ((⟨b1, 0, none⟩ : Addr).add 1) fun (x7 : ByteArray) =>
        L.ite (!(x7.toList == s_.toList)) (
          L.load (.one (.str)) ((⟨b1, 0, none⟩ : Addr).add 1) fun (x8 : ByteArray) =>
          L.call Pr n_label_Tag [.string x8] (.one (.one (.bool))) fun (x9 : Bool) =>
          k4 (!x9, ())) <|
        k4 (false, ())) w := by
    intro w k4 hk4 h
    ((try dsimp only [setN, List.cons_append, List.nil_append] at h); repeat (first | refine nn ?_ | (refine dr h ?_; clear h; (try clear w); intro w h) | refine ldC h ?_ | refine laC h ?_ | refine ckC h ?_ | (refine stC h ?_; clear h; (try clear w); intro w h; (try dsimp only [putN, setN] at h)) | rw [add_add]))
    rw [str_eq]
    refine it (fun hb => ?_) (fun hb => ?_)
    · have hb : decide (t.2.1 = s_) = false := by simpa using hb
      ((try dsimp only [setN, List.cons_append, List.nil_append] at h); repeat (first | refine nn ?_ | (refine dr h ?_; clear h; (try clear w); intro w h) | refine ldC h ?_ | refine laC h ?_ | refine ckC h ?_ | (refine stC h ?_; clear h; (try clear w); intro w h; (try dsimp only [putN, setN] at h)) | rw [add_add]))
      refine S_Tag h und_str fun w h => ?_
      have := hk4 w h
      unfold tagBad at this
      rw [hb] at this
      exact this
    · have hb : decide (t.2.1 = s_) = true := by simpa using hb
      have := hk4 w h
      unfold tagBad at this
      rw [hb] at this
      exact this
  rcases hr with hr | ⟨c, g, hc, h1, hg, hr⟩
  · rw [hr] at h fin tag ⊢
    refine S_Split0 ?_
    refine join_of (fun z w => z = (tagBad t.2.1, ()) ∧ St w0 ([Cl b1 T_api_Target [.string s_, .string t.2.1, I t.2.2.1]] :: E) w) (fun k4 hk4 => ?_) (fun z w ⟨hz, h⟩ => by subst hz; exact fin h)
    ((try dsimp only [setN, List.cons_append, List.nil_append] at h); repeat (first | refine nn ?_ | (refine dr h ?_; clear h; (try clear w); intro w h) | refine ldC h ?_ | refine laC h ?_ | refine ckC h ?_ | (refine stC h ?_; clear h; (try clear w); intro w h; (try dsimp only [putN, setN] at h)) | rw [add_add]))
    refine itF (by simp) ?_
    exact tag (fun w h => hk4 _ w ⟨rfl, h⟩) h
  · rw [hr] at h fin tag ⊢
    refine S_Split h und_str hc h1 hg fun w h => ?_
    refine join_of (fun z w => z = (tagBad t.2.1, ()) ∧ St w0 ([Cl b1 T_api_Target [.string (revB c g), .string t.2.1, I t.2.2.1]] :: E) w) (fun k4 hk4 => ?_) (fun z w ⟨hz, h⟩ => by subst hz; exact fin h)
    ((try dsimp only [setN, List.cons_append, List.nil_append] at h); repeat (first | refine nn ?_ | (refine dr h ?_; clear h; (try clear w); intro w h) | refine ldC h ?_ | refine laC h ?_ | refine ckC h ?_ | (refine stC h ?_; clear h; (try clear w); intro w h; (try dsimp only [putN, setN] at h)) | rw [add_add]))
    refine itT (by rw [str_eq]; simp [rev_ne c hg]) (itF rfl ?_)
    exact tag (fun w h => hk4 _ w ⟨rfl, h⟩) h
end Go.Proofs.YtkebppklbobjcaaGreatDoor
namespace Go.Proofs.YtkebppklbobjcaaGreatDoor
open Go.Dm
attribute [local irreducible] L.load L.store L.chk L.new L.nonnil L.guard L.ite L.draw L.idx L.sem L.semR L.semU L.chkSem L.next L.call L.callV L.join L.alts L.loop L.begin L.endRound L.range
variable {w0 w : World} {E : List Seg}
abbrev tagIs (g : ByteArray) (x : Tgt) : Bool := decide (x.2.1 = g)
theorem S_Contains {b : Nat} {t : Tgt} (h : St w0 ([Cl b T_api_Target (eT t)] :: E) w) {v : Sl} {ts : List Tgt} (r : RdE w0 E eT v ts) (hn : ts.length < 1000000) {k : Bool → PT} (hk : ∀ w', St w0 ([Cl b T_api_Target (eT t)] :: E) w' → k (ts.any (tagIs t.2.1)) w') :
    L.call Pr n_slices_ContainsFunc_api_Target_api_Target [.slice v.a v.len v.cap, .func (.func n_spec_all_1) #[] #[.pointer (some ⟨b, 0, none⟩)]] (.one (.one .bool)) k w := by
  refine call_of (C_slices_ContainsFunc_api_Target_api_Target v ⟨.func n_spec_all_1, #[], #[.pointer (some ⟨b, 0, none⟩)]⟩) ?_
  unfold F_slices_ContainsFunc_api_Target_api_Target
  refine call_of (C_slices_IndexFunc_api_Target_api_Target v ⟨.func n_spec_all_1, #[], #[.pointer (some ⟨b, 0, none⟩)]⟩) ?_
  unfold F_slices_IndexFunc_api_Target_api_Target
  have hl := (r w (dl0_ h)).len
  refine loop_of (fun q y w => ∃ i : Nat, y = ((i : Int), ()) ∧ q + i = ts.length ∧ (ts.take i).any (tagIs t.2.1) = false ∧ St w0 ([Cl b T_api_Target (eT t)] :: E) w) ts.length ⟨0, rfl, rfl, rfl, h⟩ ?_
  clear h; (try clear w)
  rintro q y w ⟨i, rfl, hq, hno, h⟩ again hag
  dsimp only
  refine it (fun hb => ?_) (fun hb => ?_) <;> (try simp only [decide_eq_true_eq, decide_eq_false_iff_not, beq_iff_eq, bne_iff_ne, beq_eq_false_iff_ne, bne_eq_false_iff_eq, Bool.not_eq_true', Bool.not_eq_false', ne_eq, Bool.not_eq_true, Bool.not_eq_false] at hb)
  · have hi : i < ts.length := by omega
    have hx : ts[i]? = some ts[i] := List.getElem?_eq_getElem hi
    generalize ts[i] = x at hx
    have rr := r w (dl0_ h)
    refine rr.ix encT (by omega) (by simpa using hi) fun a ha => ?_
    rw [Int.toNat_natCast] at ha
    refine rr.lda encT ha hx rfl ?_
    refine callV_of (fs := #[]) (cs := #[.pointer (some ⟨b, 0, none⟩)]) E_spec_all_1 (C_spec_all_1 x ⟨b, 0, none⟩) ?_
    unfold F_spec_all_1
    have h : St w0 ([Cl b T_api_Target [.string t.1, .string t.2.1, I t.2.2.1]] :: E) w := h
    refine nw h ?_; clear h; (try clear w); intro b1 w h
    ((try dsimp only [setN, List.cons_append, List.nil_append] at h); repeat (first | refine nn ?_ | (refine dr h ?_; clear h; (try clear w); intro w h) | refine ldC h ?_ | refine laC h ?_ | refine ckC h ?_ | (refine stC h ?_; clear h; (try clear w); intro w h; (try dsimp only [putN, setN] at h)) | rw [add_add]))
    refine ⟨_, rfl, ?_⟩
    have h : St w0 ([Cl b T_api_Target (eT t)] :: E) w := dl0_ h
    rw [str_eq]
    refine it (fun hc => ?_) (fun hc => ?_)
    · refine ⟨_, rfl, _, rfl, ?_⟩
      have e : ts.any (tagIs t.2.1) = true := List.any_eq_true.2 ⟨x, List.mem_of_getElem? hx, hc⟩
      have := hk w h
      rw [e] at this
      rw [decide_eq_true (show (i : Int) ≥ 0 by omega)]
      exact this
    · rw [wr (by omega) (by omega)]
      refine hag (q - 1) _ w (by omega) ⟨i + 1, by simp, by omega, ?_, h⟩
      rw [List.take_add_one, hx, List.any_append, hno]
      simpa using hc
  · have e : ts.take i = ts := List.take_of_length_le (by omega)
    rw [e] at hno
    refine ⟨_, rfl, _, rfl, ?_⟩
    have := hk w h
    rw [hno] at this
    exact this
def twiceAt (ts : List Tgt) (i : Nat) : Bool := match ts[i]? with
  | some t => !decide (t.2.1 = s_) && (ts.take i).any (tagIs t.2.1)
  | none => false
def pct (t : Tgt) : Int := t.2.2.1
def allE (ts : List Tgt) : Int := if (List.range ts.length).any (twiceAt ts) = true then 5 else if (ts.map pct).sum = 100 then 0 else 4
theorem sum_le {l : List Tgt} (h : ∀ t ∈ l, 0 ≤ pct t ∧ pct t ≤ 100) : 0 ≤ (l.map pct).sum ∧ (l.map pct).sum ≤ 100 * l.length := by
  induction l with
  | nil => simp
  | cons t l ih =>
    have h1 := h t (by simp)
    have h2 := ih fun x hx => h x (by simp [hx])
    simp only [List.map_cons, List.sum_cons, List.length_cons]
    omega
theorem S_spAll (h : St w0 E w) {v : Sl} {ts : List Tgt} (r : RdE w0 E eT v ts) (hvc : v.len ≤ v.cap) (hn : ts.length ≤ 1000) (hp : ∀ t ∈ ts, 0 ≤ pct t ∧ pct t ≤ 100) {k : Int → PT} (hk : ∀ w', St w0 E w' → k (allE ts) w') :
    L.call Pr n_spec_all [.slice v.a v.len v.cap] (.one (.one (.int .i64))) k w := by
  refine call_of (C_spec_all v) ?_
  unfold F_spec_all
  have hl := (r w h).len
  refine loop_of (fun q y w => ∃ i : Nat, y = (((ts.take i).map pct).sum, (i : Int), ()) ∧ q + i = ts.length ∧ (List.range i).any (twiceAt ts) = false ∧ St w0 E w) ts.length ⟨0, rfl, rfl, rfl, h⟩ ?_
  clear h; (try clear w)
  rintro q y w ⟨i, rfl, hq, hno, h⟩ again hag
  dsimp only
  refine it (fun hb => ?_) (fun hb => ?_) <;> (try simp only [decide_eq_true_eq, decide_eq_false_iff_not, beq_iff_eq, bne_iff_ne, beq_eq_false_iff_ne, bne_eq_false_iff_eq, Bool.not_eq_true', Bool.not_eq_false', ne_eq, Bool.not_eq_true, Bool.not_eq_false] at hb)
  · have hi : i < ts.length := by omega
    have hx : ts[i]? = some ts[i] := List.getElem?_eq_getElem hi
    generalize ts[i] = t at hx
    have ht := hp t (List.mem_of_getElem? hx)
    have hs := sum_le (l := ts.take i) fun x hx => hp x (List.mem_of_mem_take hx)
    rw [List.length_take] at hs
    have es : ((ts.take (i + 1)).map pct).sum = ((ts.take i).map pct).sum + pct t := by rw [List.take_add_one, hx]; simp
    have tw : twiceAt ts i = (!decide (t.2.1 = s_) && (ts.take i).any (tagIs t.2.1)) := by unfold twiceAt; rw [hx]
    have next : ∀ {w}, twiceAt ts i = false → St w0 E w → again (IntKind.wrap .i64 (((ts.take i).map pct).sum + pct t), IntKind.wrap .i64 ((i : Int) + 1), ()) w := by
      intro w hf h
      rw [wr (by omega) (by omega), wr (by omega) (by omega)]
      refine hag (q - 1) _ w (by omega) ⟨i + 1, by rw [es]; simp, by omega, ?_, h⟩
      rw [List.range_succ, List.any_append, hno]; simp [hf]
    refine jd ?_
    have rr := r w h
    refine rr.ix encT (by omega) (by simpa using hi) fun a ha => ?_
    rw [Int.toNat_natCast] at ha
    refine rr.lda encT ha hx rfl ?_
    refine nw h ?_; clear h; (try clear w); intro b7 w h
    ((try dsimp only [setN, List.cons_append, List.nil_append] at h); repeat (first | refine nn ?_ | (refine dr h ?_; clear h; (try clear w); intro w h) | refine ldC h ?_ | refine laC h ?_ | refine ckC h ?_ | (refine stC h ?_; clear h; (try clear w); intro w h; (try dsimp only [putN, setN] at h)) | rw [add_add]))
    rw [str_eq]
    refine it (fun hc => ?_) (fun hc => ?_)
    · refine gd (by omega) ?_
      have hc : decide (t.2.1 = s_) = false := by simpa using hc
      rw [hc] at tw
      have h : St w0 ([Cl b7 T_api_Target (eT t)] :: E) w := h
      have r2 : RdE w0 E eT ⟨if Int.toNat ((v.cap : Nat) : Int) = Int.toNat (0 : Int) then v.a else Option.map (fun a : Addr => a.add (Int.toNat (0 : Int) * 3)) v.a, Int.toNat (i : Int) - Int.toNat (0 : Int), Int.toNat ((v.cap : Nat) : Int) - Int.toNat (0 : Int)⟩ (ts.take i) := by
        intro w h
        have := (r w h).cut encT 0 i (by omega) (by omega) hvc (v.cap - 0)
        simpa using this
      refine S_Contains h r2 (by rw [List.length_take]; omega) fun w h => ?_
      refine it (fun hd => ?_) (fun hd => ?_)
      · have e : (List.range ts.length).any (twiceAt ts) = true := List.any_eq_true.2 ⟨i, List.mem_range.2 hi, by rw [tw, hd]; rfl⟩
        have := hk w (dl0_ h)
        unfold allE at this
        rw [if_pos e] at this
        exact ⟨_, rfl, this⟩
      · have hd : (ts.take i).any (tagIs t.2.1) = false := by simpa using hd
        exact next (by rw [tw, hd]; rfl) (dl0_ h)
    · have hc : decide (t.2.1 = s_) = true := by simpa using hc
      exact next (by rw [tw, hc]; rfl) (dl0_ h)
  · have e : ts.take i = ts := List.take_of_length_le (by omega)
    have ei : i = ts.length := by omega
    rw [e]
    rw [ei] at hno
    have := hk w h
    unfold allE at this
    rw [if_neg (by simp [hno])] at this
    refine it (fun hs => ?_) (fun hs => ?_) <;> (try simp only [decide_eq_true_eq, decide_eq_false_iff_not, beq_iff_eq, bne_iff_ne, beq_eq_false_iff_ne, bne_eq_false_iff_eq, Bool.not_eq_true', Bool.not_eq_false', ne_eq, Bool.not_eq_true, Bool.not_eq_false] at hs)
    · rw [if_neg hs] at this; exact ⟨_, rfl, this⟩
    · rw [if_pos hs] at this; exact ⟨_, rfl, this⟩
end Go.Proofs.YtkebppklbobjcaaGreatDoor
namespace Go.Proofs.YtkebppklbobjcaaGreatDoor
open Go.Dm
attribute [local irreducible] L.load L.store L.chk L.new L.nonnil L.guard L.ite L.draw L.idx L.sem L.semR L.semU L.chkSem L.next L.call L.callV L.join L.alts L.loop L.begin L.endRound L.range
variable {w0 w : World} {E : List Seg}
def specE (a : ARt) : Int :=
  if shortB a.name.data.toList 16 = true ∧ shortB a.cfg.data.toList 16 = true then
    if 0 ≤ a.roll ∧ a.roll ≤ 60 then
      if 1 ≤ a.ts.length ∧ a.ts.length ≤ 6 then
        match a.ts.find? fun t => decide (tgE t ≠ 0) with
        | some t => tgE t
        | none => allE a.ts
      else 3
    else 2
  else 1
theorem tg_pct {t : Tgt} (h : tgE t = 0) : 0 ≤ pct t ∧ pct t ≤ 100 := by
  unfold tgE at h
  split at h
  · cases h
  · split at h
    · rename_i h2; exact h2
    · cases h
theorem S_specR (h : St w0 E w) {a : ARt} {v : Sl} (r : RdE w0 E eT v a.ts) (hvc : v.len ≤ v.cap) (hr : ∀ t ∈ a.ts, revOk t.1) {k : Int → PT} (hk : ∀ w', St w0 E w' → k (specE a) w') :
    L.call Pr n_spec_Route [.agg #[.string a.name, .string a.cfg, .slice v.a v.len v.cap, I a.roll]] (.one (.one (.int .i64))) k w := by
  refine call_of (C_spec_Route (a.name, a.cfg, v, a.roll, ())) ?_
  unfold F_spec_Route
  have hl := (r w h).len
  refine nw h ?_; clear h; (try clear w); intro b1 w h
  unfold specE at hk
  refine join_of (fun z w => z = (!(shortB a.name.data.toList 16 && shortB a.cfg.data.toList 16), ()) ∧ St w0 ([Cl b1 T_api_Route [.string a.name, .string a.cfg, .slice v.a v.len v.cap, I a.roll]] :: E) w) (fun k2 hk2 => ?_) (fun z w ⟨hz, h⟩ => ?_)
  · ((try dsimp only [setN, List.cons_append, List.nil_append] at h); repeat (first | refine nn ?_ | (refine dr h ?_; clear h; (try clear w); intro w h) | refine ldC h ?_ | refine laC h ?_ | refine ckC h ?_ | (refine stC h ?_; clear h; (try clear w); intro w h; (try dsimp only [putN, setN] at h)) | rw [add_add]))
    refine S_Name h und_str fun w h => ?_
    refine it (fun hc => ?_) (fun hc => ?_)
    · have hc : shortB a.name.data.toList 16 = false := by simpa using hc
      rw [hc] at hk2 ⊢
      exact hk2 _ w ⟨rfl, h⟩
    · have hc : shortB a.name.data.toList 16 = true := by simpa using hc
      rw [hc] at hk2
      ((try dsimp only [setN, List.cons_append, List.nil_append] at h); repeat (first | refine nn ?_ | (refine dr h ?_; clear h; (try clear w); intro w h) | refine ldC h ?_ | refine laC h ?_ | refine ckC h ?_ | (refine stC h ?_; clear h; (try clear w); intro w h; (try dsimp only [putN, setN] at h)) | rw [add_add]))
      refine S_Name h und_str fun w h => ?_
      exact hk2 _ w ⟨by simp, h⟩
  · subst hz
    dsimp only
    have out : ∀ {w} {x : Int}, (∀ w', St w0 E w' → k x w') → St w0 ([Cl b1 T_api_Route [.string a.name, .string a.cfg, .slice v.a v.len v.cap, I a.roll]] :: E) w → ∃ y, I x = RT.val (.one (.one (.int .i64))) y ∧ k y w := fun hx h => ⟨_, rfl, hx _ (dl0_ h)⟩
    refine it (fun hc => ?_) (fun hc => ?_)
    · have hc : (shortB a.name.data.toList 16 && shortB a.cfg.data.toList 16) = false := (Bool.not_eq_true' _).mp hc
      rw [if_neg (fun hh => by rw [hh.1, hh.2] at hc; cases hc)] at hk
      exact out hk h
    rw [if_pos (by simpa using hc)] at hk
    ((try dsimp only [setN, List.cons_append, List.nil_append] at h); repeat (first | refine nn ?_ | (refine dr h ?_; clear h; (try clear w); intro w h) | refine ldC h ?_ | refine laC h ?_ | refine ckC h ?_ | (refine stC h ?_; clear h; (try clear w); intro w h; (try dsimp only [putN, setN] at h)) | rw [add_add]))
    refine S_spanHas h fun w h => ?_
    refine it (fun hc => ?_) (fun hc => ?_)
    · have hc := of_decide_eq_false ((Bool.not_eq_true' _).mp hc)
      rw [if_neg hc] at hk
      exact out hk h
    rw [if_pos (by simpa using hc)] at hk
    ((try dsimp only [setN, List.cons_append, List.nil_append] at h); repeat (first | refine nn ?_ | (refine dr h ?_; clear h; (try clear w); intro w h) | refine ldC h ?_ | refine laC h ?_ | refine ckC h ?_ | (refine stC h ?_; clear h; (try clear w); intro w h; (try dsimp only [putN, setN] at h)) | rw [add_add]))
    refine S_spanHas h fun w h => ?_
    refine it (fun hc => ?_) (fun hc => ?_)
    · have hc := of_decide_eq_false (show decide (1 ≤ ((v.len : Nat) : Int) ∧ ((v.len : Nat) : Int) ≤ 6) = false from (Bool.not_eq_true' _).mp hc)
      rw [if_neg (by omega)] at hk
      exact out hk h
    have hc := of_decide_eq_true (show decide (1 ≤ ((v.len : Nat) : Int) ∧ ((v.len : Nat) : Int) ≤ 6) = true by simpa using hc)
    rw [if_pos (by omega)] at hk
    ((try dsimp only [setN, List.cons_append, List.nil_append] at h); repeat (first | refine nn ?_ | (refine dr h ?_; clear h; (try clear w); intro w h) | refine ldC h ?_ | refine laC h ?_ | refine ckC h ?_ | (refine stC h ?_; clear h; (try clear w); intro w h; (try dsimp only [putN, setN] at h)) | rw [add_add]))
    refine loop_of (fun q y w => ∃ i : Nat, y = ((i : Int), ()) ∧ q + i = a.ts.length ∧ (a.ts.take i).find? (fun t => decide (tgE t ≠ 0)) = none ∧ St w0 ([Cl b1 T_api_Route [.string a.name, .string a.cfg, .slice v.a v.len v.cap, I a.roll]] :: E) w) a.ts.length ⟨0, rfl, rfl, rfl, h⟩ ?_
    clear h; (try clear w)
    rintro q y w ⟨i, rfl, hq, hno, h⟩ again hag
    dsimp only
    refine it (fun hb => ?_) (fun hb => ?_) <;> (try simp only [decide_eq_true_eq, decide_eq_false_iff_not, beq_iff_eq, bne_iff_ne, beq_eq_false_iff_ne, bne_eq_false_iff_eq, Bool.not_eq_true', Bool.not_eq_false', ne_eq, Bool.not_eq_true, Bool.not_eq_false] at hb)
    · have hi : i < a.ts.length := by omega
      have hx : a.ts[i]? = some a.ts[i] := List.getElem?_eq_getElem hi
      have hdr : a.ts = a.ts.take i ++ a.ts[i] :: a.ts.drop (i + 1) := by rw [← List.drop_eq_getElem_cons hi, List.take_append_drop]
      generalize a.ts[i] = t at hx hdr
      have rr := r w (dl0_ h)
      refine rr.ix encT (by omega) (by simpa using hi) fun ad ha => ?_
      rw [Int.toNat_natCast] at ha
      refine rr.lda encT ha hx rfl ?_
      refine nw h ?_; clear h; (try clear w); intro b17 w h
      ((try dsimp only [setN, List.cons_append, List.nil_append] at h); repeat (first | refine nn ?_ | (refine dr h ?_; clear h; (try clear w); intro w h) | refine ldC h ?_ | refine laC h ?_ | refine ckC h ?_ | (refine stC h ?_; clear h; (try clear w); intro w h; (try dsimp only [putN, setN] at h)) | rw [add_add]))
      refine S_target (t := t) h (hr t (List.mem_of_getElem? hx)) fun w h => ?_
      have h := dl0_ h
      refine it (fun hc => ?_) (fun hc => ?_)
      · have hc : tgE t ≠ 0 := by simpa using hc
        have e : a.ts.find? (fun t => decide (tgE t ≠ 0)) = some t := by
          rw [hdr, List.find?_append, hno]; simp [hc]
        rw [e] at hk
        exact out hk h
      · have hc : tgE t = 0 := by simpa using hc
        rw [wr (by omega) (by omega)]
        refine hag (q - 1) _ w (by omega) ⟨i + 1, by simp, by omega, ?_, h⟩
        rw [List.take_add_one, hx, List.find?_append, hno]; simp [hc]
    · have e : a.ts.take i = a.ts := List.take_of_length_le (by omega)
      rw [e] at hno
      rw [hno] at hk
      have hall : ∀ t ∈ a.ts, 0 ≤ pct t ∧ pct t ≤ 100 := fun t ht => tg_pct (by simpa using List.find?_eq_none.1 hno t ht)
      ((try dsimp only [setN, List.cons_append, List.nil_append] at h); repeat (first | refine nn ?_ | (refine dr h ?_; clear h; (try clear w); intro w h) | refine ldC h ?_ | refine laC h ?_ | refine ckC h ?_ | (refine stC h ?_; clear h; (try clear w); intro w h; (try dsimp only [putN, setN] at h)) | rw [add_add]))
      refine S_spAll h (fun w h => r w (dl0_ h)) hvc (by omega) hall fun w h => ?_
      exact out hk h
end Go.Proofs.YtkebppklbobjcaaGreatDoor
namespace Go.Proofs.YtkebppklbobjcaaGreatDoor
open Go.Dm
attribute [local irreducible] L.load L.store L.chk L.new L.nonnil L.guard L.ite L.draw L.idx L.sem L.semR L.semU L.chkSem L.next L.call L.callV L.join L.alts L.loop L.begin L.endRound L.range
variable {w0 w : World} {E : List Seg}
theorem S_shNew (h : St w0 E w) {k : Option Addr → PT} (hk : ∀ b s w', ShS b ⟨[], [], 0⟩ s → St w0 (s :: E) w' → k (some ⟨b, 0, none⟩) w') : L.call Pr n_shelf_New [] (.one (.one .ptr)) k w := by
  refine call_of C_shelf_New ?_
  unfold F_shelf_New
  refine S_madeC h fun bc sc w hC h => ?_
  refine S_madeR h fun br sr w hR h => ?_
  refine nw h ?_; clear h; (try clear w); intro b w h
  refine ⟨_, rfl, hk b _ w ⟨⟨by simp, by simp, fun x => by simp [tget, mget, noThg, Thg.gen], by simp, by simp⟩, bc, br, sc, sr, hC, hR, rfl⟩ ?_⟩
  have h := fr2_ (fr2_ (fr1_ h))
  exact h.glue3
abbrev eCfg : E1 := .agg [.str, .int .i64, .int .i64, .int .i64, .int .i64, .int .i64]
def noCfg : Cfg := (s_, 0, 0, 0, 0, 0, ())
def shCfg (a : AShelf) (n : ByteArray) : Cfg × Int × Int × Bool × Unit := if (tget a.m n).is = true then (cfgOf (tget a.m n), (tget a.m n).ver, (tget a.m n).gen, true, ()) else (noCfg, 0, 0, false, ())
theorem S_shConfig (h : St w0 E w) (i : Nat) {b : Nat} {a : AShelf} {s : Seg} (hi : nth E i = some s) (hs : ShS b a s) {n : ByteArray} {k : eCfg.T × Int × Int × Bool × Unit → PT}
    (hk : ∀ w', St w0 E w' → k (shCfg a n) w') :
    L.call Pr n_shelf_Shelf_Config [.pointer (some ⟨b, 0, none⟩), .string n] (.tup [eCfg, .one (.int .i64), .one (.int .i64), .one .bool]) k w := by
  obtain ⟨ok, bc, br, sc, sr, hC, hR, rfl⟩ := hs
  refine call_of (C_shelf_Shelf_Config _ _) ?_
  unfold F_shelf_Shelf_Config
  unfold shCfg at hk
  have h := (h.front i hi).split3
  refine nw h ?_; clear h; (try clear w); intro b1 w h
  ((try dsimp only [setN, List.cons_append, List.nil_append] at h); repeat (first | refine nn ?_ | (refine dr h ?_; clear h; (try clear w); intro w h) | refine ldC h ?_ | refine laC h ?_ | refine ckC h ?_ | (refine stC h ?_; clear h; (try clear w); intro w h; (try dsimp only [putN, setN] at h)) | rw [add_add]))
  refine S_getC h 2 rfl hC fun w h => ?_
  generalize tget a.m n = t at hk
  refine nw h ?_; clear h; (try clear w); intro b5 w h
  ((try dsimp only [setN, List.cons_append, List.nil_append] at h); repeat (first | refine nn ?_ | (refine dr h ?_; clear h; (try clear w); intro w h) | refine ldC h ?_ | refine laC h ?_ | refine ckC h ?_ | (refine stC h ?_; clear h; (try clear w); intro w h; (try dsimp only [putN, setN] at h)) | rw [add_add]))
  refine it (fun hc => ?_) (fun hc => ?_) <;> (try simp only [decide_eq_true_eq, decide_eq_false_iff_not, beq_iff_eq, bne_iff_ne, beq_eq_false_iff_ne, bne_eq_false_iff_eq, Bool.not_eq_true', Bool.not_eq_false', ne_eq, Bool.not_eq_true, Bool.not_eq_false] at hc)
  · ((try dsimp only [setN, List.cons_append, List.nil_append] at h); repeat (first | refine nn ?_ | (refine dr h ?_; clear h; (try clear w); intro w h) | refine ldC h ?_ | refine laC h ?_ | refine ckC h ?_ | (refine stC h ?_; clear h; (try clear w); intro w h; (try dsimp only [putN, setN] at h)) | rw [add_add]))
    have hc : ¬ t.is = true := by simp [Thg.is, hc]
    rw [if_neg hc] at hk
    exact ⟨(noCfg, 0, 0, false, ()), rfl, hk w (St.again i hi (dl0_ (dl0_ h)).glue3)⟩
  · have hc : t.is = true := by simpa using hc
    rw [if_pos hc] at hk
    ((try dsimp only [setN, List.cons_append, List.nil_append] at h); repeat (first | refine nn ?_ | (refine dr h ?_; clear h; (try clear w); intro w h) | refine ldC h ?_ | refine laC h ?_ | refine ckC h ?_ | (refine stC h ?_; clear h; (try clear w); intro w h; (try dsimp only [putN, setN] at h)) | rw [add_add]))
    exact ⟨(cfgOf t, t.ver, t.gen, true, ()), rfl, hk w (St.again i hi (dl0_ (dl0_ h)).glue3)⟩
end Go.Proofs.YtkebppklbobjcaaGreatDoor
namespace Go.Proofs.YtkebppklbobjcaaGreatDoor
open Go.Dm
attribute [local irreducible] L.load L.store L.chk L.new L.nonnil L.guard L.ite L.draw L.idx L.sem L.semR L.semU L.chkSem L.next L.call L.callV L.join L.alts L.loop L.begin L.endRound L.range
variable {w0 w : World} {E : List Seg}
abbrev Shr := HT [.str, .int .i64]
def eSh (t : Shr) : List Value := [.string t.1, I t.2.1]
abbrev Tgo := HT [.str, .str]
def eTo (t : Tgo) : List Value := [.string t.1, .string t.2.1]
structure ATab where
  sh : List Shr
  tg : List Tgo
structure TabR (w0 : World) (E : List Seg) (p : HT [.slice, .slice]) (t : ATab) : Prop where
  sh : RdE w0 E eSh p.1 t.sh
  tg : RdE w0 E eTo p.2.1 t.tg
  nsh : p.1.a = none → t.sh = []
  ntg : p.2.1.a = none → t.tg = []
  fsh : t.sh.length < 100000
  ftg : t.tg.length < 100000
theorem TabR.there {p : HT [.slice, .slice]} {t : ATab} {s : Seg} (r : TabR w0 E p t) : TabR w0 (s :: E) p t := ⟨fun w h => r.sh w (dl0_ h), fun w h => r.tg w (dl0_ h), r.nsh, r.ntg, r.fsh, r.ftg⟩
end Go.Proofs.YtkebppklbobjcaaGreatDoor
namespace Go.Proofs.YtkebppklbobjcaaGreatDoor
open Go.Dm
attribute [local irreducible] L.load L.store L.chk L.new L.nonnil L.guard L.ite L.draw L.idx L.sem L.semR L.semU L.chkSem L.next L.call L.callV L.join L.alts L.loop L.begin L.endRound L.range
variable {w0 w : World} {E : List Seg}
def shT (s : Shr) : ByteArray := (s.1 ++ s___b5df) ++ decD (@id Int s.2.1).toNat
def toT (s : Tgo) : ByteArray := (s.1 ++ s___b5e2) ++ s.2.1
def tabParts (t : ATab) : List ByteArray := t.sh.map shT ++ t.tg.map toT
def tabText (t : ATab) : ByteArray := joinB (tabParts t)
end Go.Proofs.YtkebppklbobjcaaGreatDoor

namespace Go.Proofs
open Go.Shelf
end Go.Proofs
namespace Go.Proofs.YtkebppklbobjcaaGreatDoor
open Go.Dm
attribute [local irreducible] L.load L.store L.chk L.new L.nonnil L.guard L.ite L.draw L.idx L.sem L.semR L.semU L.chkSem L.next L.call L.callV L.join L.alts L.loop L.begin L.endRound L.range
variable {w0 w : World} {E : List Seg}
abbrev Wy := HT [.slice, .slice, .int .i64, .int .i64, .slice, .slice]
abbrev eWy : E1 := .agg [.slice, .slice, .int .i64, .int .i64, .slice, .slice]
def vWy (t : Wy) : Value := eWy.val t
structure AWay where
  fr : List Shr
  to : List Shr
  since : Int
  whole : Int
  ns : List Shr
  ng : List Tgo
abbrev WBd (l : List Shr) : Prop := ∀ s ∈ l, 0 ≤ @id Int s.2.1 ∧ @id Int s.2.1 ≤ 1000
structure AWay.Ok (a : AWay) : Prop where
  fr : WBd a.fr
  to : WBd a.to
  ns : WBd a.ns
  lf : a.fr.length < 100000
  lt : a.to.length < 100000
  ln : a.ns.length < 100000
  lg : a.ng.length < 100000
structure WyE where
  k : ByteArray
  t : Wy
  a : AWay
def WyE.ok (P : List Seg) (x : WyE) : Prop :=
  (∃ s ∈ P, Rw eSh T_api_Share 2 x.t.1 x.a.fr s) ∧ (∃ s ∈ P, Rw eSh T_api_Share 2 x.t.2.1 x.a.to s) ∧ x.t.2.2.1 = x.a.since ∧ x.t.2.2.2.1 = x.a.whole ∧ (∃ s ∈ P, Rw eSh T_api_Share 2 x.t.2.2.2.2.1 x.a.ns s) ∧ (∃ s ∈ P, Rw eTo T_api_TagTo 2 x.t.2.2.2.2.2.1 x.a.ng s)
abbrev WyE.kt (x : WyE) : ByteArray × Wy := (x.k, x.t)
abbrev WyE.ka (x : WyE) : ByteArray × AWay := (x.k, x.a)
theorem WyE.ok.more {P P' : List Seg} {x : WyE} (h : x.ok P) (hp : ∀ s ∈ P, s ∈ P') : x.ok P' := by
  obtain ⟨⟨s1, h1, r1⟩, ⟨s2, h2, r2⟩, e1, e2, ⟨s3, h3, r3⟩, ⟨s4, h4, r4⟩⟩ := h
  exact ⟨⟨s1, hp _ h1, r1⟩, ⟨s2, hp _ h2, r2⟩, e1, e2, ⟨s3, hp _ h3, r3⟩, ⟨s4, hp _ h4, r4⟩⟩
abbrev ARoll := List (ByteArray × AWay)
def RolS (b : Nat) (m : ARoll) (s : Seg) : Prop := ∃ r sm, ∃ (P : List Seg) (Q : List WyE), MpS Value.string vWy r (Q.map WyE.kt) sm ∧ (∀ x ∈ Q, x.ok P) ∧ m = Q.map WyE.ka ∧ s = [Cl b T_lead_Roller [.map (some r)]] ++ (sm ++ P.flatten)
theorem S_roNew (h : St w0 E w) {k : Option Addr → PT} (hk : ∀ b s w', RolS b [] s → St w0 (s :: E) w' → k (some ⟨b, 0, none⟩) w') : L.call Pr n_lead_New [] (.one (.one .ptr)) k w := by
  refine call_of C_lead_New ?_
  unfold F_lead_New
  refine MpS.new h Value.string vWy fun r s w hm h => ?_
  refine nw h ?_; clear h; (try clear w); intro b w h
  exact ⟨_, rfl, hk b _ w ⟨r, s, [], [], hm, by simp, rfl, by simp⟩ h.glue⟩
end Go.Proofs.YtkebppklbobjcaaGreatDoor
namespace Go.Proofs.YtkebppklbobjcaaGreatDoor
open Go.Dm
attribute [local irreducible] L.load L.store L.chk L.new L.nonnil L.guard L.ite L.draw L.idx L.sem L.semR L.semU L.chkSem L.next L.call L.callV L.join L.alts L.loop L.begin L.endRound L.range
variable {w0 w : World} {E : List Seg}
instance : DecidableEq Shr := inferInstanceAs (DecidableEq (ByteArray × Int × Unit))
instance : DecidableEq Tgo := inferInstanceAs (DecidableEq (ByteArray × ByteArray × Unit))
end Go.Proofs.YtkebppklbobjcaaGreatDoor
namespace Go.Proofs.YtkebppklbobjcaaGreatDoor
open Go.Dm
attribute [local irreducible] L.load L.store L.chk L.new L.nonnil L.guard L.ite L.draw L.idx L.sem L.semR L.semU L.chkSem L.next L.call L.callV L.join L.alts L.loop L.begin L.endRound L.range
variable {w0 w : World} {E : List Seg}
structure WyR (P : List Seg) (t : Wy) (a : AWay) : Prop where
  fr : ∃ s ∈ P, Rw eSh T_api_Share 2 t.1 a.fr s
  to : ∃ s ∈ P, Rw eSh T_api_Share 2 t.2.1 a.to s
  since : t.2.2.1 = a.since
  whole : t.2.2.2.1 = a.whole
end Go.Proofs.YtkebppklbobjcaaGreatDoor
namespace Go.Proofs.YtkebppklbobjcaaGreatDoor
open Go.Dm
attribute [local irreducible] L.load L.store L.chk L.new L.nonnil L.guard L.ite L.draw L.idx L.sem L.semR L.semU L.chkSem L.next L.call L.callV L.join L.alts L.loop L.begin L.endRound L.range
variable {w0 w : World} {E : List Seg}
theorem zstr (w : World) : (zeroValue T_string).run Pr w = .ok ((E1.one .str).val s_) w := by
  have h : (Pr.info? T_string).map (·.zero) = some (some (.string s_)) := by kernel_rfl
  cases hi : Pr.info? T_string with
  | none => rw [hi] at h; cases h
  | some i => rw [hi] at h; simp only [Option.map_some, Option.some.injEq] at h; exact zv hi h w
def ordI (m : List (ByteArray × Int)) : List (HT [.str, (.int .i64)]) := (ssort (m.map (·.1))).map fun k => (k, (mget m k).getD (0 : Int), ())
def ordS (m : List (ByteArray × ByteArray)) : List (HT [.str, .str]) := (ssort (m.map (·.1))).map fun k => (k, (mget m k).getD s_, ())
end Go.Proofs.YtkebppklbobjcaaGreatDoor
namespace Go.Proofs.YtkebppklbobjcaaGreatDoor
open Go.Dm
attribute [local irreducible] L.load L.store L.chk L.new L.nonnil L.guard L.ite L.draw L.idx L.sem L.semR L.semU L.chkSem L.next L.call L.callV L.join L.alts L.loop L.begin L.endRound L.range
variable {w0 w : World} {E : List Seg}
def tgtOf (a : ABook) (cfg : ByteArray) (t : Tgt) : ByteArray × Int :=
  if t.1 = s_ then (if bkReady a cfg = s_ then (s_, 9) else (bkReady a cfg, 0)) else if bkHas a t.1 = true then (if bkProved a t.1 = true then (t.1, 0) else (s_, 9)) else (s_, 6)
abbrev rtV (r : ARt) (v : Sl) : Value := .agg #[.string r.name, .string r.cfg, .slice v.a v.len v.cap, I r.roll]
abbrev MSI := List (ByteArray × Int)
abbrev MSS := List (ByteArray × ByteArray)
def resGo (a : ABook) (cfg : ByteArray) : List Tgt → MSI → MSS → Int × MSI × MSS
  | [], ws, ts => (0, ws, ts)
  | t :: l, ws, ts => if (tgtOf a cfg t).2 = 0 then resGo a cfg l (mset ws (tgtOf a cfg t).1 ((mget ws (tgtOf a cfg t).1).getD 0 + pct t)) (if t.2.1 = s_ then ts else mset ts t.2.1 (tgtOf a cfg t).1) else ((tgtOf a cfg t).2, ws, ts)
abbrev posW (x : Shr) : Bool := decide (@id Int x.2.1 > 0)
def resolve (a : ABook) (r : ARt) : ATab × Int :=
  if (resGo a r.cfg r.ts [] []).1 = 0 then (⟨(ordI (resGo a r.cfg r.ts [] []).2.1).filter posW, ordS (resGo a r.cfg r.ts [] []).2.2⟩, 0) else (⟨[], []⟩, (resGo a r.cfg r.ts [] []).1)
end Go.Proofs.YtkebppklbobjcaaGreatDoor
namespace Go.Proofs.YtkebppklbobjcaaGreatDoor
open Go.Dm
attribute [local irreducible] L.load L.store L.chk L.new L.nonnil L.guard L.ite L.draw L.idx L.sem L.semR L.semU L.chkSem L.next L.call L.callV L.join L.alts L.loop L.begin L.endRound L.range
variable {w0 w : World} {E : List Seg}
structure AEv where
  kind : Int
  name : ByteArray
  tag : ByteArray
  n : Int
  draw : Int
  c : Cfg
  r : ARt
  v : Sl
abbrev EvT := HT [.int .i64, .str, .str, .int .i64, .int .i64, .str, .int .i64, .int .i64, .int .i64, .int .i64, .int .i64, .str, .str, .slice, .int .i64]
abbrev AEv.t (e : AEv) : EvT := (e.kind, e.name, e.tag, e.n, e.draw, e.c.1, e.c.2.1, e.c.2.2.1, e.c.2.2.2.1, e.c.2.2.2.2.1, e.c.2.2.2.2.2.1, e.r.name, e.r.cfg, e.v, e.r.roll, ())
abbrev evV (e : AEv) : Value := .agg #[I e.kind, .string e.name, .string e.tag, I e.n, I e.draw, .string e.c.1, I e.c.2.1, I e.c.2.2.1, I e.c.2.2.2.1, I e.c.2.2.2.2.1, I e.c.2.2.2.2.2.1, .string e.r.name, .string e.r.cfg, .slice e.v.a e.v.len e.v.cap, I e.r.roll]
abbrev Has := HT [.bool, .bool, .bool, .bool, .bool, .bool]
def shp (k : Int) : Has × Bool :=
  if k = 1 then ((true, false, false, false, true, false, ()), true) else if k = 2 then ((true, false, false, false, false, true, ()), true) else if k = 3 then ((true, true, false, true, false, false, ()), true)
  else if k = 4 then ((true, true, true, true, false, false, ()), true) else if k = 5 ∨ k = 6 ∨ k = 7 ∨ k = 8 then ((true, false, false, false, false, false, ()), true) else if k = 9 then ((false, false, false, false, false, false, ()), true)
  else if k = 10 ∨ k = 11 ∨ k = 12 ∨ k = 13 then ((false, true, false, false, false, false, ()), true) else ((false, false, false, false, false, false, ()), false)
theorem S_shape (h : St w0 E w) {x : Int} {k : Has × Bool × Unit → PT} (hk : ∀ w', St w0 E w' → k ((shp x).1, (shp x).2, ()) w') : L.call Pr n_event_shape [I x] (.tup [.agg [.bool, .bool, .bool, .bool, .bool, .bool], .one .bool]) k w := by
  refine call_of (C_event_shape x) ?_
  unfold F_event_shape
  unfold shp at hk
  refine nw h ?_; clear h; (try clear w); intro b1 w h
  ((try dsimp only [setN, List.cons_append, List.nil_append] at h); repeat' (first | refine nn ?_ | (refine dr h ?_; clear h; (try clear w); intro w h) | refine ldC h ?_ | refine laC h ?_ | refine ckC h ?_ | (refine stC h ?_; clear h; (try clear w); intro w h; (try dsimp only [putN, setN] at h)) | rw [add_add] | refine jd ?_ | (refine it (fun hc => ?_) (fun hc => ?_) <;> (try simp only [decide_eq_true_eq, decide_eq_false_iff_not, beq_iff_eq, bne_iff_ne, beq_eq_false_iff_ne, bne_eq_false_iff_eq, Bool.not_eq_true', Bool.not_eq_false', ne_eq, Bool.not_eq_true, Bool.not_eq_false] at hc))))
  all_goals exact ⟨(_, _, ()), rfl, eqk (hk w (dl0_ h)) (by clear h hk; simp_all)⟩
theorem S_noneI {t : Bool} {x : Int} {k : Bool → PT} (hk : k (t || decide (x = 0)) w) : L.call Pr n_event_none_int [.bool t, I x] (.one (.one .bool)) k w := by
  refine call_of (C_event_none_int t x) ?_
  unfold F_event_none_int
  cases t with
  | true => exact itT rfl ⟨true, rfl, hk⟩
  | false => exact itF rfl ⟨_, rfl, eqk hk (by rw [Bool.false_or, Bool.eq_iff_iff]; simp)⟩
theorem S_noneS {t : Bool} {x : ByteArray} {k : Bool → PT} (hk : k (t || decide (x = s_)) w) : L.call Pr n_event_none_string [.bool t, .string x] (.one (.one .bool)) k w := by
  refine call_of (C_event_none_string t x) ?_
  unfold F_event_none_string
  cases t with
  | true => exact itT rfl ⟨true, rfl, hk⟩
  | false => exact itF rfl ⟨_, rfl, eqk hk (by rw [str_eq, Bool.false_or])⟩
theorem S_noneC (h : St w0 E w) {t : Bool} {c : Cfg} {k : Bool → PT} (hk : ∀ w', St w0 E w' → k (t || sameC c noCfg) w') : L.call Pr n_event_none_api_Config [.bool t, .agg (Cfg.cells c).toArray] (.one (.one .bool)) k w := by
  refine call_of (C_event_none_api_Config t c) ?_
  unfold F_event_none_api_Config
  refine nw h ?_; clear h; (try clear w); intro b1 w h
  refine nw h ?_; clear h; (try clear w); intro b2 w h
  cases t with
  | true => exact itT rfl ⟨true, rfl, hk w (dl0_ (dl0_ h))⟩
  | false =>
    refine itF rfl ?_
    ((try dsimp only [setN, List.cons_append, List.nil_append] at h); repeat (first | refine nn ?_ | (refine dr h ?_; clear h; (try clear w); intro w h) | refine ldC h ?_ | refine laC h ?_ | refine ckC h ?_ | (refine stC h ?_; clear h; (try clear w); intro w h; (try dsimp only [putN, setN] at h)) | rw [add_add]))
    unfold L.chkSem
    refine ⟨eq_cfg c noCfg w, _, rfl, ?_⟩
    exact hk w (dl0_ (dl0_ h))
def bareE (r : ARt) (n : Nat) : Bool := decide (r.name = s_) && (decide (r.cfg = s_) && (decide (r.roll = 0) && decide (n = 0)))
theorem S_bare (h : St w0 E w) {r : ARt} {v : Sl} {k : Bool → PT} (hk : ∀ w', St w0 E w' → k (bareE r v.len) w') : L.call Pr n_event_bare [rtV r v] (.one (.one .bool)) k w := by
  refine call_of (C_event_bare (r.name, r.cfg, v, r.roll, ())) ?_
  unfold F_event_bare
  refine nw h ?_; clear h; (try clear w); intro b1 w h
  ((try dsimp only [setN, List.cons_append, List.nil_append] at h); repeat (first | refine nn ?_ | (refine dr h ?_; clear h; (try clear w); intro w h) | refine ldC h ?_ | refine laC h ?_ | refine ckC h ?_ | (refine stC h ?_; clear h; (try clear w); intro w h; (try dsimp only [putN, setN] at h)) | rw [add_add]))
  rw [str_eq]
  unfold bareE at hk
  cases h1 : decide (r.name = s_) with
  | false => exact itF rfl ⟨false, rfl, by rw [h1] at hk; exact hk w (dl0_ h)⟩
  | true =>
    refine itT rfl ?_
    ((try dsimp only [setN, List.cons_append, List.nil_append] at h); repeat (first | refine nn ?_ | (refine dr h ?_; clear h; (try clear w); intro w h) | refine ldC h ?_ | refine laC h ?_ | refine ckC h ?_ | (refine stC h ?_; clear h; (try clear w); intro w h; (try dsimp only [putN, setN] at h)) | rw [add_add]))
    rw [str_eq]
    cases h2 : decide (r.cfg = s_) with
    | false => exact itF rfl ⟨false, rfl, by rw [h1, h2] at hk; exact hk w (dl0_ h)⟩
    | true =>
      refine itT rfl ?_
      ((try dsimp only [setN, List.cons_append, List.nil_append] at h); repeat (first | refine nn ?_ | (refine dr h ?_; clear h; (try clear w); intro w h) | refine ldC h ?_ | refine laC h ?_ | refine ckC h ?_ | (refine stC h ?_; clear h; (try clear w); intro w h; (try dsimp only [putN, setN] at h)) | rw [add_add]))
      refine it (fun h3 => ?_) (fun h3 => ?_)
      · ((try dsimp only [setN, List.cons_append, List.nil_append] at h); repeat (first | refine nn ?_ | (refine dr h ?_; clear h; (try clear w); intro w h) | refine ldC h ?_ | refine laC h ?_ | refine ckC h ?_ | (refine stC h ?_; clear h; (try clear w); intro w h; (try dsimp only [putN, setN] at h)) | rw [add_add]))
        have h3 : decide (r.roll = 0) = true := by simpa using h3
        rw [h1, h2, h3] at hk
        refine ⟨_, rfl, eqk (hk w (dl0_ h)) ?_⟩
        rw [Bool.eq_iff_iff]; simp
      · have h3 : decide (r.roll = 0) = false := by simpa using h3
        rw [h1, h2, h3] at hk
        exact ⟨false, rfl, hk w (dl0_ h)⟩
def wiB (n a b : Int) : Bool := decide (a ≤ n) && decide (n ≤ b)
theorem S_evWithin {n a b : Int} {k : Bool → PT} (hk : k (wiB n a b) w) : L.call Pr n_event_within [I n, I a, I b] (.one (.one .bool)) k w := by
  refine call_of (C_event_within n a b) ?_
  unfold F_event_within
  unfold wiB at hk
  refine it (fun h1 => ?_) (fun h1 => ?_)
  · have h1 : decide (a ≤ n) = true := h1
    rw [h1] at hk
    exact ⟨_, rfl, hk⟩
  · have h1 : decide (a ≤ n) = false := h1
    rw [h1] at hk
    exact ⟨_, rfl, hk⟩
def numE (e : AEv) : Bool := if e.kind = 1 ∨ e.kind = 2 then wiB e.n 0 2147483647 else if e.kind = 3 then wiB e.n 1 2 else wiB e.n 1 2147483647
theorem S_evNumber (h : St w0 E w) {e : AEv} {k : Bool → PT} (hk : ∀ w', St w0 E w' → k (numE e) w') : L.call Pr n_event_number [evV e] (.one (.one .bool)) k w := by
  refine call_of (C_event_number e.t) ?_
  unfold F_event_number
  unfold numE at hk
  refine nw h ?_; clear h; (try clear w); intro b1 w h
  ((try dsimp only [setN, List.cons_append, List.nil_append] at h); repeat (first | refine nn ?_ | (refine dr h ?_; clear h; (try clear w); intro w h) | refine ldC h ?_ | refine laC h ?_ | refine ckC h ?_ | (refine stC h ?_; clear h; (try clear w); intro w h; (try dsimp only [putN, setN] at h)) | rw [add_add]))
  refine jd ?_
  refine it (fun h1 => ?_) (fun h1 => ?_)
  · have h1' : e.kind = 1 := by simpa using h1
    refine itT h1 ?_
    ((try dsimp only [setN, List.cons_append, List.nil_append] at h); repeat (first | refine nn ?_ | (refine dr h ?_; clear h; (try clear w); intro w h) | refine ldC h ?_ | refine laC h ?_ | refine ckC h ?_ | (refine stC h ?_; clear h; (try clear w); intro w h; (try dsimp only [putN, setN] at h)) | rw [add_add]))
    refine S_evWithin ⟨_, rfl, ?_⟩
    rw [if_pos (.inl h1')] at hk
    exact hk w (dl0_ h)
  · have h1' : ¬ e.kind = 1 := by simpa using h1
    refine it (fun h2 => ?_) (fun h2 => ?_)
    · have h2' : e.kind = 2 := by simpa using h2
      ((try dsimp only [setN, List.cons_append, List.nil_append] at h); repeat (first | refine nn ?_ | (refine dr h ?_; clear h; (try clear w); intro w h) | refine ldC h ?_ | refine laC h ?_ | refine ckC h ?_ | (refine stC h ?_; clear h; (try clear w); intro w h; (try dsimp only [putN, setN] at h)) | rw [add_add]))
      refine S_evWithin ⟨_, rfl, ?_⟩
      rw [if_pos (.inr h2')] at hk
      exact hk w (dl0_ h)
    · have h2' : ¬ e.kind = 2 := by simpa using h2
      rw [if_neg (fun hh => hh.elim h1' h2')] at hk
      refine it (fun h3 => ?_) (fun h3 => ?_)
      · have h3' : e.kind = 3 := by simpa using h3
        rw [if_pos h3'] at hk
        ((try dsimp only [setN, List.cons_append, List.nil_append] at h); repeat (first | refine nn ?_ | (refine dr h ?_; clear h; (try clear w); intro w h) | refine ldC h ?_ | refine laC h ?_ | refine ckC h ?_ | (refine stC h ?_; clear h; (try clear w); intro w h; (try dsimp only [putN, setN] at h)) | rw [add_add]))
        exact S_evWithin ⟨_, rfl, hk w (dl0_ h)⟩
      · have h3' : ¬ e.kind = 3 := by simpa using h3
        rw [if_neg h3'] at hk
        ((try dsimp only [setN, List.cons_append, List.nil_append] at h); repeat (first | refine nn ?_ | (refine dr h ?_; clear h; (try clear w); intro w h) | refine ldC h ?_ | refine laC h ?_ | refine ckC h ?_ | (refine stC h ?_; clear h; (try clear w); intro w h; (try dsimp only [putN, setN] at h)) | rw [add_add]))
        exact S_evWithin ⟨_, rfl, hk w (dl0_ h)⟩
def RevN (n : ByteArray) : Prop := ∃ c g, shortB c.data.toList 16 = true ∧ 1 ≤ g ∧ g < 100 ∧ n = revB c g
def namedE (e : AEv) : Bool := if e.kind = 12 ∨ e.kind = 13 then true else shortB e.name.data.toList 16
theorem S_evNamed (h : St w0 E w) {e : AEv} (hr : e.kind = 12 ∨ e.kind = 13 → RevN e.name) {k : Bool → PT} (hk : ∀ w', St w0 E w' → k (namedE e) w') : L.call Pr n_event_named [evV e] (.one (.one .bool)) k w := by
  refine call_of (C_event_named e.t) ?_
  unfold F_event_named
  unfold namedE at hk
  refine nw h ?_; clear h; (try clear w); intro b1 w h
  ((try dsimp only [setN, List.cons_append, List.nil_append] at h); repeat (first | refine nn ?_ | (refine dr h ?_; clear h; (try clear w); intro w h) | refine ldC h ?_ | refine laC h ?_ | refine ckC h ?_ | (refine stC h ?_; clear h; (try clear w); intro w h; (try dsimp only [putN, setN] at h)) | rw [add_add]))
  refine it (fun h1 => ?_) (fun h1 => ?_)
  · have h1' : e.kind = 12 := by simpa using h1
    obtain ⟨c, g, hc, g1, g2, en⟩ := hr (.inl h1')
    rw [if_pos (.inl h1')] at hk
    ((try dsimp only [setN, List.cons_append, List.nil_append] at h); repeat (first | refine nn ?_ | (refine dr h ?_; clear h; (try clear w); intro w h) | refine ldC h ?_ | refine laC h ?_ | refine ckC h ?_ | (refine stC h ?_; clear h; (try clear w); intro w h; (try dsimp only [putN, setN] at h)) | rw [add_add]))
    rw [en]
    exact S_Split h und_str hc g1 g2 fun w h => ⟨_, rfl, hk w (dl0_ h)⟩
  · have h1' : ¬ e.kind = 12 := by simpa using h1
    ((try dsimp only [setN, List.cons_append, List.nil_append] at h); repeat (first | refine nn ?_ | (refine dr h ?_; clear h; (try clear w); intro w h) | refine ldC h ?_ | refine laC h ?_ | refine ckC h ?_ | (refine stC h ?_; clear h; (try clear w); intro w h; (try dsimp only [putN, setN] at h)) | rw [add_add]))
    refine it (fun h2 => ?_) (fun h2 => ?_)
    · have h2' : e.kind = 13 := by simpa using h2
      obtain ⟨c, g, hc, g1, g2, en⟩ := hr (.inr h2')
      rw [if_pos (.inr h2')] at hk
      ((try dsimp only [setN, List.cons_append, List.nil_append] at h); repeat (first | refine nn ?_ | (refine dr h ?_; clear h; (try clear w); intro w h) | refine ldC h ?_ | refine laC h ?_ | refine ckC h ?_ | (refine stC h ?_; clear h; (try clear w); intro w h; (try dsimp only [putN, setN] at h)) | rw [add_add]))
      rw [en]
      exact S_Split h und_str hc g1 g2 fun w h => ⟨_, rfl, hk w (dl0_ h)⟩
    · have h2' : ¬ e.kind = 13 := by simpa using h2
      rw [if_neg (fun hh => hh.elim h1' h2')] at hk
      ((try dsimp only [setN, List.cons_append, List.nil_append] at h); repeat (first | refine nn ?_ | (refine dr h ?_; clear h; (try clear w); intro w h) | refine ldC h ?_ | refine laC h ?_ | refine ckC h ?_ | (refine stC h ?_; clear h; (try clear w); intro w h; (try dsimp only [putN, setN] at h)) | rw [add_add]))
      exact S_Name h und_str fun w h => ⟨_, rfl, hk w (dl0_ h)⟩
end Go.Proofs.YtkebppklbobjcaaGreatDoor
namespace Go.Proofs.YtkebppklbobjcaaGreatDoor
open Go.Dm
attribute [local irreducible] L.load L.store L.chk L.new L.nonnil L.guard L.ite L.draw L.idx L.sem L.semR L.semU L.chkSem L.next L.call L.callV L.join L.alts L.loop L.begin L.endRound L.range
variable {w0 w : World} {E : List Seg}
def noneE (s : Has) (e : AEv) : Bool :=
  (s.1 || decide (e.n = 0)) && ((s.2.1 || decide (e.name = s_)) && ((s.2.2.1 || decide (e.tag = s_)) && ((s.2.2.2.1 || decide (e.draw = 0)) && ((s.2.2.2.2.1 || sameC e.c noCfg) && (s.2.2.2.2.2.1 || bareE e.r e.v.len)))))
def chkS (s : Has) (e : AEv) : Int :=
  if noneE s e = false then 2 else if s.1 = true ∧ numE e = false then 2 else if s.2.1 = true ∧ namedE e = false then 1
  else if s.2.2.1 = true ∧ e.tag ≠ s_ ∧ shortB e.tag.data.toList 8 = false then 1 else if s.2.2.2.1 = true ∧ wiB e.draw 0 2147483647 = false then 2
  else if s.2.2.2.2.1 = true then specC e.c else if s.2.2.2.2.2.1 = true then specE e.r else 0
def chkEv (e : AEv) : Int := if (shp e.kind).2 = false then 12 else chkS (shp e.kind).1 e
theorem shp_cases (k : Int) : (shp k).1 = (true, false, false, false, true, false, ()) ∨ (shp k).1 = (true, false, false, false, false, true, ()) ∨ (shp k).1 = (true, true, false, true, false, false, ()) ∨ (shp k).1 = (true, true, true, true, false, false, ()) ∨
    (shp k).1 = (true, false, false, false, false, false, ()) ∨ (shp k).1 = (false, false, false, false, false, false, ()) ∨ (shp k).1 = (false, true, false, false, false, false, ()) := by
  unfold shp
  repeat' split
  all_goals simp
theorem S_evCheck (h : St w0 E w) {e : AEv} (hn : e.kind = 12 ∨ e.kind = 13 → RevN e.name) (rd : RdE w0 E eT e.v e.r.ts) (hvc : e.v.len ≤ e.v.cap) (hrv : ∀ t ∈ e.r.ts, revOk t.1) {k : Int → PT} (hk : ∀ w', St w0 E w' → k (chkEv e) w') :
    L.call Pr n_event_Check [evV e] (.one (.one (.int .i64))) k w := by
  refine call_of (C_event_Check e.t) ?_
  unfold F_event_Check
  unfold chkEv at hk
  refine nw h ?_; clear h; (try clear w); intro b1 w h
  ((try dsimp only [setN, List.cons_append, List.nil_append] at h); repeat (first | refine nn ?_ | (refine dr h ?_; clear h; (try clear w); intro w h) | refine ldC h ?_ | refine laC h ?_ | refine ckC h ?_ | (refine stC h ?_; clear h; (try clear w); intro w h; (try dsimp only [putN, setN] at h)) | rw [add_add]))
  refine S_shape h fun w h => ?_
  have hs := shp_cases e.kind
  generalize (shp e.kind).1 = s at *
  generalize (shp e.kind).2 = t at *
  refine nw h ?_; clear h; (try clear w); intro b4 w h
  ((try dsimp only [setN, List.cons_append, List.nil_append] at h); repeat (first | refine nn ?_ | (refine dr h ?_; clear h; (try clear w); intro w h) | refine ldC h ?_ | refine laC h ?_ | refine ckC h ?_ | (refine stC h ?_; clear h; (try clear w); intro w h; (try dsimp only [putN, setN] at h)) | rw [add_add]))
  cases t with
  | false => exact itT rfl ⟨12, rfl, by rw [if_pos rfl] at hk; exact hk w (dl0_ (dl0_ h))⟩
  | true =>
    refine itF rfl ?_
    rw [if_neg (by decide)] at hk
    unfold chkS at hk
    have rd' : ∀ {s1 s2 : Seg} {w}, St w0 (s1 :: s2 :: E) w → Rd w eT e.v e.r.ts := fun h => rd _ (dl0_ (dl0_ h))
    rcases hs with rfl | rfl | rfl | rfl | rfl | rfl | rfl
    all_goals repeat' (first | refine nn ?_ | (refine dr h ?_; clear h; (try clear w); intro w h) | refine ldC h ?_ | refine laC h ?_ | refine ckC h ?_ | (refine stC h ?_; clear h; (try clear w); intro w h; (try dsimp only [putN, setN] at h)) | rw [add_add] | refine jd ?_ | refine itT rfl ?_ | refine itF rfl ?_ | refine S_noneI ?_ | refine S_noneS ?_ | (refine S_noneC (c := e.c) h fun w h => ?_) | (refine S_bare (r := e.r) (v := e.v) h fun w h => ?_) | (refine S_evNumber (e := e) h fun w h => ?_) | (refine S_evNamed (e := e) h hn fun w h => ?_) | (refine S_Tag h und_str fun w h => ?_) | refine S_evWithin ?_ | (refine S_specC (c := e.c) h fun w h => ?_) | (refine S_specR (a := e.r) (v := e.v) h (fun w h => rd' h) hvc hrv fun w h => ?_) | (refine it (fun hc => ?_) (fun hc => ?_)))
    all_goals exact ⟨_, rfl, eqk (hk w (dl0_ (dl0_ h))) (by clear hk h rd rd' hrv hn hvc; (try simp only [str_eq] at *); simp_all [noneE])⟩
end Go.Proofs.YtkebppklbobjcaaGreatDoor

namespace Go.Proofs
open Go.Shelf
def Tryz.lays189_ren : Go.Shelf.Ren := ⟨fun | 189 => 196 | 125 => 232 | 257 => 231 | 128 => 268 | 129 => 252 | 294 => 259 | 295 => 260 | 296 => 261 | 297 => 262 | 298 => 263 | 299 => 264 | 216 => 265 | 300 => 266 | 301 => 267 | 328 => 286 | 329 => 287 | 330 => 288 | 331 => 289 | 332 => 290 | 215 => 291 | 343 => 299 | n => n, fun | 28 => 43 | 3 => 3 | 46 => 362 | 0 => 0 | 51 => 372 | 53 => 344 | 4 => 4 | 183 => 389 | 182 => 388 | 131 => 240 | 5 => 5 | 9 => 9 | 218 => 408 | 222 => 412 | 228 => 422 | 229 => 177 | n => n, fun | n => n⟩
theorem Tryz.lays189 : Go.Proofs.Lays.n189 Tryz.prog Tryz.lays189_ren := {
  mixed := by kernel_rfl
  f125 := Tryz.func232.trans (congrArg some (by kernel_rfl))
  f128 := Tryz.func268.trans (congrArg some (by kernel_rfl))
  f129 := Tryz.func252.trans (congrArg some (by kernel_rfl))
  f189 := Tryz.func196.trans (congrArg some (by kernel_rfl))
  f215 := Tryz.func291.trans (congrArg some (by kernel_rfl))
  f216 := Tryz.func265.trans (congrArg some (by kernel_rfl))
  f257 := Tryz.func231.trans (congrArg some (by kernel_rfl))
  f294 := Tryz.func259.trans (congrArg some (by kernel_rfl))
  f295 := Tryz.func260.trans (congrArg some (by kernel_rfl))
  f296 := Tryz.func261.trans (congrArg some (by kernel_rfl))
  f297 := Tryz.func262.trans (congrArg some (by kernel_rfl))
  f298 := Tryz.func263.trans (congrArg some (by kernel_rfl))
  f299 := Tryz.func264.trans (congrArg some (by kernel_rfl))
  f300 := Tryz.func266.trans (congrArg some (by kernel_rfl))
  f301 := Tryz.func267.trans (congrArg some (by kernel_rfl))
  f328 := Tryz.func286.trans (congrArg some (by kernel_rfl))
  f329 := Tryz.func287.trans (congrArg some (by kernel_rfl))
  f330 := Tryz.func288.trans (congrArg some (by kernel_rfl))
  f331 := Tryz.func289.trans (congrArg some (by kernel_rfl))
  f332 := Tryz.func290.trans (congrArg some (by kernel_rfl))
  f343 := Tryz.func299.trans (congrArg some (by kernel_rfl))
  t0 := Tryz.underlying0
  a0 := Tryz.isAgg0
  z0 := Tryz.sizeOf0
  v0 := Tryz.zeroValue0
  t3 := Tryz.underlying3
  a3 := Tryz.isAgg3
  z3 := Tryz.sizeOf3
  v3 := Tryz.zeroValue3
  t4 := Tryz.underlying4
  a4 := Tryz.isAgg4
  z4 := Tryz.sizeOf4
  v4 := Tryz.zeroValue4
  t5 := Tryz.underlying5
  a5 := Tryz.isAgg5
  z5 := Tryz.sizeOf5
  v5 := Tryz.zeroValue5
  t9 := Tryz.underlying9
  a9 := Tryz.isAgg9
  z9 := Tryz.sizeOf9
  v9 := Tryz.zeroValue9
  t28 := Tryz.underlying43
  a28 := Tryz.isAgg43
  z28 := Tryz.sizeOf43
  v28 := Tryz.zeroValue43
  t46 := Tryz.underlying362
  a46 := Tryz.isAgg362
  z46 := Tryz.sizeOf362
  v46 := Tryz.zeroValue362
  t51 := Tryz.underlying372
  a51 := Tryz.isAgg372
  z51 := Tryz.sizeOf372
  v51 := Tryz.zeroValue372
  t53 := Tryz.underlying344
  a53 := Tryz.isAgg344
  z53 := Tryz.sizeOf344
  v53 := Tryz.zeroValue344
  t131 := Tryz.underlying240
  a131 := Tryz.isAgg240
  z131 := Tryz.sizeOf240
  v131 := Tryz.zeroValue240
  t182 := Tryz.underlying388
  a182 := Tryz.isAgg388
  z182 := Tryz.sizeOf388
  v182 := Tryz.zeroValue388
  t183 := Tryz.underlying389
  a183 := Tryz.isAgg389
  z183 := Tryz.sizeOf389
  v183 := Tryz.zeroValue389
  t218 := Tryz.underlying408
  a218 := Tryz.isAgg408
  z218 := Tryz.sizeOf408
  v218 := Tryz.zeroValue408
  t222 := Tryz.underlying412
  a222 := Tryz.isAgg412
  z222 := Tryz.sizeOf412
  v222 := Tryz.zeroValue412
  t228 := Tryz.underlying422
  a228 := Tryz.isAgg422
  z228 := Tryz.sizeOf422
  v228 := Tryz.zeroValue422
  t229 := Tryz.underlying177
  a229 := Tryz.isAgg177
  z229 := Tryz.sizeOf177
  v229 := Tryz.zeroValue177 }
open Go.Sort Go.RowKit in
theorem Tryz.slices_Sort_int (blk off cap : Nat) (zs : List Int) (w : World) (hH : Holds (Value.int .i64) w blk off zs.toArray) (hblk : blk < w.heap.size) (hsz : zs.length < 4611686018427387904) :
    Calls Tryz.prog 196 #[.slice (some ⟨blk, off, none⟩) zs.length cap] w fun e w' =>
      e = .returned (.tuple #[]) ∧ ∃ n os, w' = grow (putRow (Value.int .i64) (Sort.ahead w n) blk off (zs.mergeSort fun x y => decide (x ≤ y)).toArray) os := Any.slices_Sort_int Tryz.lays189 blk off cap zs w hH hblk hsz
end Go.Proofs
namespace Go.Proofs.YtkebppklbobjcaaGreatDoor
open Go.Dm
attribute [local irreducible] L.load L.store L.chk L.new L.nonnil L.guard L.ite L.draw L.idx L.sem L.semR L.semU L.chkSem L.next L.call L.callV L.join L.alts L.loop L.begin L.endRound L.range
variable {w0 w : World} {E : List Seg}
def isort (l : List Int) : List Int := l.mergeSort fun x y => decide (x ≤ y)
theorem isort_perm (l : List Int) : (isort l).Perm l := List.mergeSort_perm ..
theorem isort_pw (l : List Int) : (isort l).Pairwise (· ≤ ·) := by
  have := List.pairwise_mergeSort (le := fun x y : Int => decide (x ≤ y)) (fun a b c h1 h2 => by simp only [decide_eq_true_eq] at *; omega) (fun a b => by simp only [Bool.or_eq_true, decide_eq_true_eq]; omega) l
  exact this.imp fun h => by simpa using h
theorem isort_eq {l m : List Int} (h : l.Perm m) : isort l = isort m :=
  List.Perm.eq_of_pairwise (fun a b _ _ h1 h2 => by omega) (isort_pw l) (isort_pw m) (((isort_perm l).trans h).trans (isort_perm m).symm)
theorem isort_of {l m : List Int} (h : l.Perm m) (hm : m.Pairwise (· ≤ ·)) : isort l = m :=
  List.Perm.eq_of_pairwise (fun a b _ _ h1 h2 => by omega) (isort_pw l) hm ((isort_perm l).trans h)
theorem isort_len (l : List Int) : (isort l).length = l.length := (isort_perm l).length_eq
theorem S_SortI (h : St w0 E w) (i : Nat) {s : Seg} (hi : nth E i = some s) {v : Sl} {l : List Int} (hr : Rw eI T_int 1 v l s) (hn : l.length < 1000000000) {k : Unit → PT} (hk : ∀ s' w', Rw eI T_int 1 v (isort l) s' → St w0 (setN E i s') w' → k () w') :
    L.call Pr n_slices_Sort_int_int [.slice v.a v.len v.cap] (.tup []) k w :=
  sort_of (encv := Value.int .i64) (fun _ => rfl) encI (isort l) (isort_len l) (fun g off cap w h1 h2 => Tryz.slices_Sort_int g off cap l w h1 h2 (by omega)) (fun p cap w => Any.slices_Sort_int_none Tryz.lays189 p cap w) h i hi hr hk
end Go.Proofs.YtkebppklbobjcaaGreatDoor
namespace Go.Proofs.YtkebppklbobjcaaGreatDoor
open Go.Dm
attribute [local irreducible] L.load L.store L.chk L.new L.nonnil L.guard L.ite L.draw L.idx L.sem L.semR L.semU L.chkSem L.next L.call L.callV L.join L.alts L.loop L.begin L.endRound L.range
variable {w0 w : World} {E : List Seg}
def unI : Value → Int
  | .int _ n => n
  | _ => 0
abbrev KI : Int → Value := Value.int .i64
def vOne (x : ByteArray × Option Addr) : Value := .agg #[.string x.1, .pointer x.2]
theorem und_int : Pr.underlying T_int = some (.int .i64) := by kernel_rfl
theorem mkI : MK Pr T_int KI := mk_int und_int
end Go.Proofs.YtkebppklbobjcaaGreatDoor
namespace Go.Proofs.YtkebppklbobjcaaGreatDoor
open Go.Dm
attribute [local irreducible] L.load L.store L.chk L.new L.nonnil L.guard L.ite L.draw L.idx L.sem L.semR L.semU L.chkSem L.next L.call L.callV L.join L.alts L.loop L.begin L.endRound L.range
variable {w0 w : World} {E : List Seg}
structure APod where
  st : Int
  conc : Int
  reqs : List Int
def insI (x : Int) : List Int → List Int
  | [] => [x]
  | y :: l => if y < x then y :: insI x l else x :: y :: l
structure APod.Ok (p : APod) : Prop where
  pw : p.reqs.Pairwise (· < ·)
  dr : p.st = 3 → p.reqs ≠ []
  dead : p.st = 4 → p.reqs = []
  few : p.reqs.length < 100000000
def podKill (p : APod) : APod × List Int × Int := if p.st = 4 then (p, [], 9) else ({ p with st := 4, reqs := [] }, p.reqs, 0)
def podTake (p : APod) (id : Int) : APod × Int :=
  if p.st ≠ 2 then (p, 9) else if id ∈ p.reqs then (p, 5) else if (p.reqs.length : Int) ≥ p.conc then (p, 8) else ({ p with reqs := insI id p.reqs }, 0)
theorem insI_perm (x : Int) (l : List Int) : (insI x l).Perm (x :: l) := by
  induction l with
  | nil => exact .refl _
  | cons y l ih =>
    simp only [insI]
    split
    · exact (ih.cons y).trans (.swap ..)
    · exact .refl _
def BagIs (m : List (Int × Bool)) (reqs : List Int) : Prop := (∀ p ∈ m, p.2 = true) ∧ (m.map (·.1)).Perm reqs
theorem BagIs.get {m : List (Int × Bool)} {reqs : List Int} (h : BagIs m reqs) (id : Int) : ((mget m id).map fun x => x).getD false = decide (id ∈ reqs) := by
  cases hg : mget m id with
  | none =>
    have := mget_none.1 hg
    rw [h.2.mem_iff] at this
    simp [this]
  | some b =>
    have hm := mget_mem hg
    have hb := h.1 _ hm
    simp only at hb
    subst hb
    have : id ∈ reqs := h.2.mem_iff.1 (List.mem_map_of_mem (f := (·.1)) hm)
    simp [this]
theorem BagIs.len {m : List (Int × Bool)} {reqs : List Int} (h : BagIs m reqs) : m.length = reqs.length := by
  have := h.2.length_eq
  simpa using this
theorem BagIs.put {m : List (Int × Bool)} {reqs : List Int} (h : BagIs m reqs) {id : Int} (hn : id ∉ reqs) : BagIs (mset m id true) (insI id reqs) := by
  have hg : mget m id = none := mget_none.2 (fun hm => hn (h.2.mem_iff.1 hm))
  rw [mset_none hg]
  refine ⟨fun p hp => ?_, ?_⟩
  · rcases List.mem_append.1 hp with hp | hp
    · exact h.1 p hp
    · simp at hp; subst hp; rfl
  · rw [List.map_append]
    refine List.Perm.trans ?_ (insI_perm id reqs).symm
    exact List.perm_append_comm.trans (h.2.cons id)
theorem mdel_perm : ∀ {m : List (Int × Bool)} {k : Int}, ((mdel m k).map (·.1)).Perm ((m.map (·.1)).erase k)
  | [], k => by simp [mdel]
  | p :: m, k => by
    simp only [mdel]
    by_cases e : p.1 = k
    · rw [if_pos e]; subst e; simp
    · rw [if_neg e, List.map_cons, List.map_cons, List.erase_cons_tail (by simpa using e)]
      exact (mdel_perm (m := m) (k := k)).cons _
theorem mdel_mem {κ υ : Type} [DecidableEq κ] : ∀ {m : List (κ × υ)} {k : κ} {p : κ × υ}, p ∈ mdel m k → p ∈ m
  | q :: m, k, p, h => by
    simp only [mdel] at h
    split at h
    · exact List.mem_cons_of_mem _ h
    · rcases List.mem_cons.1 h with rfl | h
      · exact List.mem_cons_self ..
      · exact List.mem_cons_of_mem _ (mdel_mem h)
theorem BagIs.take {m : List (Int × Bool)} {reqs : List Int} (h : BagIs m reqs) (id : Int) : BagIs (mdel m id) (reqs.erase id) :=
  ⟨fun p hp => h.1 p (mdel_mem hp), mdel_perm.trans (h.2.erase id)⟩
def PodS (b : Nat) (p : APod) (s : Seg) : Prop := p.Ok ∧ ∃ r m sm, MpS KI Value.bool r m sm ∧ BagIs m p.reqs ∧ s = [Cl b T_pod_Pod [I p.st, .map (some r), I p.conc]] ++ sm
end Go.Proofs.YtkebppklbobjcaaGreatDoor
namespace Go.Proofs.YtkebppklbobjcaaGreatDoor
open Go.Dm
attribute [local irreducible] L.load L.store L.chk L.new L.nonnil L.guard L.ite L.draw L.idx L.sem L.semR L.semU L.chkSem L.next L.call L.callV L.join L.alts L.loop L.begin L.endRound L.range
variable {w0 w : World} {E : List Seg}
theorem S_cloneI (h : St w0 E w) {v : Sl} {l : List Int} (r : Rd w eI v l) (hn : l.length < 1000000000000) (h64 : v.a = none → l = []) {k : Sl → PT}
    (hk : ∀ (v' : Sl) s' w', Rw eI T_int 1 v' l s' → (v'.a = none ↔ v.a = none) → St w0 (s' :: E) w' → k v' w') : L.call Pr n_slices_Clone_int_int [SlV v] (.one (.one .slice)) k w := by
  refine call_of (C_slices_Clone_int_int _) ?_
  unfold F_slices_Clone_int_int
  exact clone_of (K := fun v w' => ∃ x, v = RT.val (.one (.one .slice)) x ∧ k x w') encI elI h r (by omega) hn h64 fun v' s' w' h1 h2 h3 => ⟨v', rfl, hk v' s' w' h1 h2 h3⟩
theorem Rw.nil_of {α : Type} {enc : α → List Value} {e size : Nat} {v : Sl} {l : List α} {s : Seg} (hE : Enc enc size) (hr : Rw enc e size v l s) (h : v.a = none) : l = [] := by
  have := Rw.len hE hr
  unfold Rw at hr
  generalize fl enc l = cs at hr
  cases hr with
  | nil => simpa using this.symm
  | mk => cases h
end Go.Proofs.YtkebppklbobjcaaGreatDoor
namespace Go.Proofs.YtkebppklbobjcaaGreatDoor
open Go.Dm
attribute [local irreducible] L.load L.store L.chk L.new L.nonnil L.guard L.ite L.draw L.idx L.sem L.semR L.semU L.chkSem L.next L.call L.callV L.join L.alts L.loop L.begin L.endRound L.range
variable {w0 w : World} {E : List Seg}
structure AHeld where
  id : Int
  rev : ByteArray
  pod : APod
structure AFleet where
  room : Int
  last : Int
  l : List AHeld
structure AFleet.Ok (f : AFleet) : Prop where
  pw : f.l.Pairwise (fun x y => x.id < y.id)
  rng : ∀ x ∈ f.l, 0 < x.id ∧ x.id ≤ f.last
  live : ∀ x ∈ f.l, x.pod.st = 1 ∨ x.pod.st = 2 ∨ x.pod.st = 3
  once : f.l.Pairwise (fun x y => ∀ q ∈ x.pod.reqs, q ∉ y.pod.reqs)
  few : f.l.length < 100000000
  lo : 0 ≤ f.last
  hi : f.last < 4611686018427387904
abbrev Tr := AHeld × Nat × Seg
abbrev trS (t : Tr) : Seg := t.2.2
def ent (t : Tr) : Int × (ByteArray × Option Addr) := (t.1.id, t.1.rev, some ⟨t.2.1, 0, none⟩)
def fFind (l : List AHeld) (id : Int) : Option AHeld := l.find? fun x => decide (x.id = id)
def fWhere (l : List AHeld) (q : Int) : Option AHeld := l.find? fun x => decide (q ∈ x.pod.reqs)
structure FlR (F : AFleet) (L : List Tr) (mA : List (Int × (ByteArray × Option Addr))) (mW : List (Int × Int)) : Prop where
  l : F.l = L.map (·.1)
  ps : ∀ t ∈ L, PodS t.2.1 t.1.pod t.2.2
  all : mA.Perm (L.map ent)
  wth : ∀ q, mget mW q = (fWhere F.l q).map (·.id)
abbrev flB (b : Nat) (rA rW : Nat) (F : AFleet) : Seg := [Cl b T_fleet_Fleet [.map (some rA), .map (some rW), I F.room, I F.last]]
def FlS (b : Nat) (F : AFleet) (s : Seg) : Prop := F.Ok ∧ ∃ rA rW mA mW sA sW L, MpS KI vOne rA mA sA ∧ MpS KI KI rW mW sW ∧ FlR F L mA mW ∧ s = flB b rA rW F ++ (sA ++ (sW ++ (L.map trS).flatten))
theorem FlR.ids {F : AFleet} {L : List Tr} {mA mW} (hr : FlR F L mA mW) (ok : F.Ok) : L.Pairwise (fun x y => x.1.id < y.1.id) := by
  have := ok.pw; rw [hr.l, List.pairwise_map] at this; exact this
theorem FlR.keys {F : AFleet} {L : List Tr} {mA mW} (hr : FlR F L mA mW) (ok : F.Ok) : isort (mA.map (·.1)) = L.map (·.1.id) := by
  refine isort_of ?_ ?_
  · have := hr.all.map (·.1); rw [List.map_map] at this; exact this
  · rw [List.pairwise_map]; exact (hr.ids ok).imp fun h => by omega
theorem FlR.len {F : AFleet} {L : List Tr} {mA mW} (hr : FlR F L mA mW) : mA.length = F.l.length := by rw [hr.all.length_eq, hr.l]; simp
theorem FlR.nd {F : AFleet} {L : List Tr} {mA mW} (hr : FlR F L mA mW) (ok : F.Ok) : (mA.map (·.1)).Nodup := by
  have := hr.all.map (·.1); rw [List.map_map] at this
  rw [this.nodup_iff]
  have h := (hr.ids ok).imp (S := fun x y => x.1.id ≠ y.1.id) fun h => by omega
  exact List.pairwise_map.2 h
theorem FlR.get {F : AFleet} {L : List Tr} {mA mW} (hr : FlR F L mA mW) (ok : F.Ok) {t : Tr} (ht : t ∈ L) : mget mA t.1.id = some (t.1.rev, some ⟨t.2.1, 0, none⟩) :=
  mget_of_mem (hr.nd ok) (hr.all.mem_iff.2 (List.mem_map_of_mem (f := ent) ht))
theorem FlR.at {F : AFleet} {L : List Tr} {mA mW} (hr : FlR F L mA mW) {id : Int} {x : AHeld} (h : fFind F.l id = some x) : ∃ A t B, L = A ++ t :: B ∧ t.1 = x ∧ x.id = id := by
  have h1 := List.mem_of_find?_eq_some h
  have h2 := List.find?_some h
  rw [hr.l] at h1
  obtain ⟨t, ht, rfl⟩ := List.mem_map.1 h1
  obtain ⟨A, B, e⟩ := List.append_of_mem ht
  exact ⟨A, t, B, e, rfl, by simpa using h2⟩
theorem S_fNew (h : St w0 E w) {room : Int} {k : Option Addr → PT} (hk : ∀ b s w', FlS b ⟨room, 0, []⟩ s → St w0 (s :: E) w' → k (some ⟨b, 0, none⟩) w') : L.call Pr n_fleet_New [I room] (.one (.one .ptr)) k w := by
  refine call_of (C_fleet_New _) ?_
  unfold F_fleet_New
  refine MpS.new h KI vOne fun r1 s1 w hm1 h => ?_
  refine MpS.new h KI KI fun r2 s2 w hm2 h => ?_
  refine nw h ?_; clear h; (try clear w); intro b w h
  refine ⟨_, rfl, hk b _ w ⟨⟨by simp, by simp, by simp, by simp, by simp, by simp, by simp⟩, r1, r2, [], [], s1, s2, [], hm1, hm2, ⟨rfl, by simp, .refl _, fun q => rfl⟩, rfl⟩ ?_⟩
  have h := fr2_ (fr2_ (fr1_ h))
  exact h.eq (by simp)
abbrev revP (rev : ByteArray) (t : Tr) : Bool := decide (t.1.rev = rev)
end Go.Proofs.YtkebppklbobjcaaGreatDoor
namespace Go.Proofs.YtkebppklbobjcaaGreatDoor
open Go.Dm
attribute [local irreducible] L.load L.store L.chk L.new L.nonnil L.guard L.ite L.draw L.idx L.sem L.semR L.semU L.chkSem L.next L.call L.callV L.join L.alts L.loop L.begin L.endRound L.range
variable {w0 w : World} {E : List Seg}
def revs (l : List AHeld) (rev : ByteArray) : List AHeld := l.filter fun x => decide (x.rev = rev)
theorem FlR.revs {F : AFleet} {L : List Tr} {mA mW} (hr : FlR F L mA mW) (rev : ByteArray) : revs F.l rev = (L.filter (revP rev)).map (·.1) := by
  unfold YtkebppklbobjcaaGreatDoor.revs; rw [hr.l, List.filter_map]; rfl
def isUp (x : AHeld) : Bool := decide (x.pod.st ≠ 3)
def spStep (a : Int × Int × Int) (x : AHeld) : Int × Int × Int :=
  if x.pod.st = 3 then a else if x.pod.st < a.2.1 ∨ (x.pod.st = a.2.1 ∧ (x.pod.reqs.length : Int) ≤ a.2.2) then (x.id, x.pod.st, x.pod.reqs.length) else a
def look (x : AHeld) : Int × Int × Int := (x.id, x.pod.st, x.pod.reqs.length)
end Go.Proofs.YtkebppklbobjcaaGreatDoor
namespace Go.Proofs.YtkebppklbobjcaaGreatDoor
open Go.Dm
attribute [local irreducible] L.load L.store L.chk L.new L.nonnil L.guard L.ite L.draw L.idx L.sem L.semR L.semU L.chkSem L.next L.call L.callV L.join L.alts L.loop L.begin L.endRound L.range
variable {w0 w : World} {E : List Seg}
def fUpd (l : List AHeld) (id : Int) (g : APod → APod) : List AHeld := l.filterMap fun x => if x.id = id then (if (g x.pod).st = 4 then none else some { x with pod := g x.pod }) else some x
theorem fUpd_other {l : List AHeld} {id : Int} {g : APod → APod} (h : ∀ y ∈ l, y.id ≠ id) : fUpd l id g = l := by
  unfold fUpd
  induction l with
  | nil => rfl
  | cons y l ih =>
    rw [List.filterMap_cons, if_neg (h y (by simp))]
    simp only
    rw [ih fun z hz => h z (by simp [hz])]
theorem fUpd_at {A B : List AHeld} {x : AHeld} {g : APod → APod} (h : (A ++ x :: B).Pairwise (fun x y => x.id < y.id)) : fUpd (A ++ x :: B) x.id g = A ++ ((if (g x.pod).st = 4 then [] else [{ x with pod := g x.pod }]) ++ B) := by
  rw [List.pairwise_append, List.pairwise_cons] at h
  have hA : fUpd A x.id g = A := fUpd_other fun y hy => by have := h.2.2 y hy x (by simp); omega
  have hB : fUpd B x.id g = B := fUpd_other fun y hy => by have := h.2.1.1 y hy; omega
  unfold fUpd at *
  rw [List.filterMap_append, hA, List.filterMap_cons, if_pos rfl]
  congr 1
  split <;> rename_i hc
  · split at hc
    · rename_i h4; rw [if_pos h4, hB]; rfl
    · cases hc
  · split at hc
    · cases hc
    · rename_i h4; cases hc; rw [if_neg h4, hB]; rfl
theorem fFind_some {l : List AHeld} {id : Int} {x : AHeld} (h : fFind l id = some x) : x ∈ l ∧ x.id = id := ⟨List.mem_of_find?_eq_some h, by simpa using List.find?_some h⟩
theorem fWhere_none {l : List AHeld} {q : Int} (h : fWhere l q = none) : ∀ x ∈ l, q ∉ x.pod.reqs := fun x hx => by simpa using List.find?_eq_none.1 h x hx
theorem AFleet.Ok.upd {F : AFleet} (ok : F.Ok) {id : Int} {x : AHeld} (hx : fFind F.l id = some x) (g : APod → APod) (hst : (g x.pod).st = 1 ∨ (g x.pod).st = 2 ∨ (g x.pod).st = 3 ∨ (g x.pod).st = 4)
    (hq : ∀ q ∈ (g x.pod).reqs, q ∈ x.pod.reqs ∨ fWhere F.l q = none) : ({ F with l := fUpd F.l id g } : AFleet).Ok := by
  obtain ⟨hm, rfl⟩ := fFind_some hx
  obtain ⟨A, B, hl⟩ := List.append_of_mem hm
  have pw := ok.pw
  have rng := ok.rng
  have live := ok.live
  have once := ok.once
  have few := ok.few
  have hno : ∀ q, fWhere F.l q = none → ∀ y ∈ A ++ x :: B, q ∉ y.pod.reqs := fun q h => by rw [hl] at h; exact fWhere_none h
  rw [hl] at pw rng live once few
  have e : fUpd F.l x.id g = A ++ ((if (g x.pod).st = 4 then [] else [{ x with pod := g x.pod }]) ++ B) := by rw [hl]; exact fUpd_at pw
  by_cases h4 : (g x.pod).st = 4
  · rw [if_pos h4, List.nil_append] at e
    have hs : (A ++ B).Sublist (A ++ x :: B) := List.Sublist.append (List.Sublist.refl _) (List.sublist_cons_self ..)
    refine ⟨?_, ?_, ?_, ?_, ?_, ok.lo, ok.hi⟩
    · rw [show ({ F with l := fUpd F.l x.id g } : AFleet).l = A ++ B from e]; exact pw.sublist hs
    · rw [show ({ F with l := fUpd F.l x.id g } : AFleet).l = A ++ B from e]; exact fun y hy => rng y (hs.subset hy)
    · rw [show ({ F with l := fUpd F.l x.id g } : AFleet).l = A ++ B from e]; exact fun y hy => live y (hs.subset hy)
    · rw [show ({ F with l := fUpd F.l x.id g } : AFleet).l = A ++ B from e]; exact once.sublist hs
    · rw [show ({ F with l := fUpd F.l x.id g } : AFleet).l = A ++ B from e]; exact Nat.lt_of_le_of_lt hs.length_le few
  · rw [if_neg h4, List.singleton_append] at e
    have e : ({ F with l := fUpd F.l x.id g } : AFleet).l = A ++ { x with pod := g x.pod } :: B := e
    refine ⟨?_, ?_, ?_, ?_, ?_, ok.lo, ok.hi⟩
    · rw [e]; rw [List.pairwise_append, List.pairwise_cons] at pw ⊢
      exact ⟨pw.1, pw.2.1, fun a ha b hb => by
        rcases List.mem_cons.1 hb with rfl | hb
        · exact pw.2.2 a ha x (by simp)
        · exact pw.2.2 a ha b (by simp [hb])⟩
    · rw [e]; intro y hy
      rcases List.mem_append.1 hy with hy | hy
      · exact rng y (by simp [hy])
      · rcases List.mem_cons.1 hy with rfl | hy
        · exact rng x (by simp)
        · exact rng y (by simp [hy])
    · rw [e]; intro y hy
      rcases List.mem_append.1 hy with hy | hy
      · exact live y (by simp [hy])
      · rcases List.mem_cons.1 hy with rfl | hy
        · simp only; omega
        · exact live y (by simp [hy])
    · rw [e]; rw [List.pairwise_append, List.pairwise_cons] at once ⊢
      refine ⟨once.1, ⟨fun b hb q hq1 hq2 => ?_, once.2.1.2⟩, fun a ha b hb q hq1 hq2 => ?_⟩
      · rcases hq q hq1 with h | h
        · exact once.2.1.1 b hb q h hq2
        · exact hno q h b (by simp [hb]) hq2
      · rcases List.mem_cons.1 hb with rfl | hb
        · rcases hq q hq2 with h | h
          · exact once.2.2 a ha x (by simp) q hq1 h
          · exact hno q h a (by simp [ha]) hq1
        · exact once.2.2 a ha b (by simp [hb]) q hq1 hq2
    · rw [e]; simp only [List.length_append, List.length_cons] at few ⊢; exact few
theorem mdel_all : ∀ {m : List (Int × (ByteArray × Option Addr))} {k : Int}, (m.map (·.1)).Nodup → mdel m k = m.filter fun p => decide (p.1 ≠ k)
  | [], k, _ => rfl
  | p :: m, k, h => by
    rw [List.map_cons, List.nodup_cons] at h
    simp only [mdel]
    by_cases e : p.1 = k
    · rw [if_pos e, List.filter_cons_of_neg (by simp [e])]
      symm
      rw [List.filter_eq_self]
      intro y hy
      have : y.1 ≠ k := fun e2 => h.1 (by rw [e, ← e2]; exact List.mem_map_of_mem (f := (·.1)) hy)
      simpa using this
    · rw [if_neg e, List.filter_cons_of_pos (by simpa using e), mdel_all h.2]
theorem FlR.upd {F : AFleet} {A B : List Tr} {t : Tr} {mA mW mW'} (hr : FlR F (A ++ t :: B) mA mW) (ok : F.Ok) (g : APod → APod) {s' : Seg} (hp : PodS t.2.1 (g t.1.pod) s') (h4 : (g t.1.pod).st ≠ 4)
    (hW : ∀ q, mget mW' q = (fWhere (fUpd F.l t.1.id g) q).map (·.id)) : FlR { F with l := fUpd F.l t.1.id g } (A ++ ({ t.1 with pod := g t.1.pod }, t.2.1, s') :: B) mA mW' := by
  have pw := ok.pw
  rw [hr.l, List.map_append, List.map_cons] at pw
  refine ⟨?_, ?_, ?_, hW⟩
  · show fUpd F.l t.1.id g = _
    rw [hr.l, List.map_append, List.map_cons, fUpd_at pw, if_neg h4]
    simp
  · intro y hy
    rcases List.mem_append.1 hy with hy | hy
    · exact hr.ps y (by simp [hy])
    · rcases List.mem_cons.1 hy with rfl | hy
      · exact hp
      · exact hr.ps y (by simp [hy])
  · have := hr.all
    simp only [List.map_append, List.map_cons] at this ⊢
    exact this
theorem FlR.del {F : AFleet} {A B : List Tr} {t : Tr} {mA mW mW'} (hr : FlR F (A ++ t :: B) mA mW) (ok : F.Ok) (g : APod → APod) (h4 : (g t.1.pod).st = 4)
    (hW : ∀ q, mget mW' q = (fWhere (fUpd F.l t.1.id g) q).map (·.id)) : FlR { F with l := fUpd F.l t.1.id g } (A ++ B) (mdel mA t.1.id) mW' := by
  have pw := ok.pw
  have ids := hr.ids ok
  rw [hr.l, List.map_append, List.map_cons] at pw
  refine ⟨?_, ?_, ?_, hW⟩
  · show fUpd F.l t.1.id g = _
    rw [hr.l, List.map_append, List.map_cons, fUpd_at pw, if_pos h4]
    simp
  · intro y hy
    rcases List.mem_append.1 hy with hy | hy
    · exact hr.ps y (by simp [hy])
    · exact hr.ps y (by simp [hy])
  · rw [mdel_all (hr.nd ok)]
    refine (hr.all.filter _).trans ?_
    rw [List.pairwise_append, List.pairwise_cons] at ids
    rw [List.map_append, List.map_cons, List.filter_append, List.filter_cons_of_neg (by simp [ent]), List.map_append]
    have fa : ∀ {l : List Tr}, (∀ y ∈ l, y.1.id ≠ t.1.id) → (l.map ent).filter (fun p => decide (p.1 ≠ t.1.id)) = l.map ent := fun {l} h => by
      rw [List.filter_eq_self]
      intro p hp
      obtain ⟨y, hy, rfl⟩ := List.mem_map.1 hp
      exact decide_eq_true (h y hy)
    rw [fa (fun y hy => by have := ids.2.2 y hy t (by simp); omega), fa (fun y hy => by have := ids.2.1.1 y hy; omega)]
end Go.Proofs.YtkebppklbobjcaaGreatDoor
namespace Go.Proofs.YtkebppklbobjcaaGreatDoor
open Go.Dm
attribute [local irreducible] L.load L.store L.chk L.new L.nonnil L.guard L.ite L.draw L.idx L.sem L.semR L.semU L.chkSem L.next L.call L.callV L.join L.alts L.loop L.begin L.endRound L.range
variable {w0 w : World} {E : List Seg}
def grow1 (rev : ByteArray) (conc : Int) (F : AFleet) : AFleet := { F with l := F.l ++ [⟨F.last + 1, rev, ⟨1, conc, []⟩⟩], last := F.last + 1 }
def grow (rev : ByteArray) (conc : Int) : Nat → AFleet → AFleet
  | 0, F => F
  | n + 1, F => grow1 rev conc (grow rev conc n F)
section
variable {F : AFleet} {rev : ByteArray} {conc : Int}
theorem grow_room (n : Nat) : (grow rev conc n F).room = F.room := by
  induction n with
  | zero => rfl
  | succ n ih => simp only [grow, grow1, ih]
theorem grow_len (n : Nat) : (grow rev conc n F).l.length = F.l.length + n := by
  induction n with
  | zero => rfl
  | succ n ih => simp only [grow, grow1, List.length_append, ih, List.length_singleton]; omega
def SpOk (l : List AHeld) (a : Int × Int × Int) : Prop := (a = (0, 3, 0) ∧ ∀ y ∈ l, isUp y = false) ∨ ∃ x ∈ l, a = (x.id, x.pod.st, (x.pod.reqs.length : Int)) ∧ isUp x = true
theorem SpOk.step {l : List AHeld} {a : Int × Int × Int} {x : AHeld} (h : SpOk l a) (hx : x.pod.st = 1 ∨ x.pod.st = 2 ∨ x.pod.st = 3) : SpOk (l ++ [x]) (spStep a x) := by
  unfold spStep
  by_cases h3 : x.pod.st = 3
  · rw [if_pos h3]
    rcases h with ⟨rfl, h⟩ | ⟨y, hy, h⟩
    · refine .inl ⟨rfl, fun y hy => ?_⟩
      rcases List.mem_append.1 hy with hy | hy
      · exact h y hy
      · simp at hy; subst hy; simp [isUp, h3]
    · exact .inr ⟨y, by simp [hy], h⟩
  · rw [if_neg h3]
    have hup : isUp x = true := by simp [isUp, h3]
    by_cases hc : x.pod.st < a.2.1 ∨ (x.pod.st = a.2.1 ∧ (x.pod.reqs.length : Int) ≤ a.2.2)
    · rw [if_pos hc]; exact .inr ⟨x, by simp, rfl, hup⟩
    · rw [if_neg hc]
      rcases h with ⟨rfl, h⟩ | ⟨y, hy, h⟩
      · exact absurd (.inl (by simp only; omega)) hc
      · exact .inr ⟨y, by simp [hy], h⟩
theorem SpOk.all : ∀ {l2 l1 : List AHeld} {a : Int × Int × Int}, SpOk l1 a → (∀ x ∈ l2, x.pod.st = 1 ∨ x.pod.st = 2 ∨ x.pod.st = 3) → SpOk (l1 ++ l2) (l2.foldl spStep a)
  | [], l1, a, h, _ => by simpa using h
  | x :: l2, l1, a, h, hx => by
    have := SpOk.all (l2 := l2) (h.step (hx x (by simp))) (fun y hy => hx y (by simp [hy]))
    simpa using this
end
end Go.Proofs.YtkebppklbobjcaaGreatDoor
namespace Go.Proofs.YtkebppklbobjcaaGreatDoor
open Go.Dm
attribute [local irreducible] L.load L.store L.chk L.new L.nonnil L.guard L.ite L.draw L.idx L.sem L.semR L.semU L.chkSem L.next L.call L.callV L.join L.alts L.loop L.begin L.endRound L.range
variable {w0 w : World} {E : List Seg}
def eC (p : Int × Int) : List Value := [I p.1, I p.2]
theorem encC : Enc eC 2 := ⟨fun _ => rfl, fun _ => rfl, by decide⟩
theorem Rw.stC {v : Sl} {l : List (Int × Int)} {s : Seg} {e : Nat} (h : St w0 E w) (k : Nat) (hi : nth E k = some s) (hr : Rw eC e 2 v l s) {i : Nat} {a : Addr} (ha : ElA v 2 i a) (hx : i < l.length) (y : Int × Int) {kk : PT}
    (hk : ∀ s' w', Rw eC e 2 v (l.set i y) s' → St w0 (setN E k s') w' → kk w') : L.store a [I y.1, I y.2] kk w := by
  obtain ⟨a0, hv, rfl⟩ := ha
  have hx0 : l[i]? = some l[i] := List.getElem?_eq_getElem hx
  generalize l[i] = x at hx0
  have e1 : setN (fl eC l) (i * 2 + 0) (I y.1) = fl eC (l.set i (y.1, x.2)) := fl_set encC hx0 (by decide) rfl
  have e2 : setN (fl eC (l.set i (y.1, x.2))) (i * 2 + 1) (I y.2) = fl eC ((l.set i (y.1, x.2)).set i y) := fl_set encC (x := (y.1, x.2)) (by simp [hx]) (by decide) rfl
  rw [List.set_set] at e2
  have hset : setN (setN (fl eC l) (i * 2 + 0) (I y.1)) (i * 2 + 1) (I y.2) = fl eC (l.set i y) := by rw [e1, e2]
  have hlt : i * 2 + 1 < (fl eC l).length := by rw [fl_len encC]; omega
  unfold Rw at hr hk
  rw [← hset] at hk
  have hlen2 : (setN (setN (fl eC l) (i * 2 + 0) (I y.1)) (i * 2 + 1) (I y.2)).length = (fl eC l).length := by rw [setN_set, setN_set]; simp
  have hlen1 : (setN (fl eC l) (i * 2 + 0) (I y.1)).length = (fl eC l).length := by rw [setN_set]; simp
  generalize fl eC l = xs at *
  cases hr with
  | nil => cases hv
  | mk g n cap pre xs spare post h1 h2 h3 h4 =>
    cases hv
    rw [add_none]
    have hn : ∀ j, j ≤ 1 → ∃ c, nth (pre ++ (xs ++ (spare ++ post))) (pre.length + (i * 2 + j)) = some c := fun j hj => by
      rw [nth_app_add, nth_app_lt (by omega), nth_getElem?]
      exact ⟨_, List.getElem?_eq_getElem (by omega)⟩
    refine stx [I y.1, I y.2] h k hi ?_ rfl fun w' h => hk _ w' (Row.mk g n cap pre _ spare post (by rw [hlen2]; exact h1) (by rw [hlen2]; exact h2) h3 h4) ?_
    · obtain ⟨c0, hc0⟩ := hn 0 (by omega)
      obtain ⟨c1, hc1⟩ := hn 1 (by omega)
      simp only [Nat.add_zero] at hc0
      simp [hasN, hc0, hc1, Nat.add_assoc]
    · simp only [putN] at h
      have q1 : setN (xs ++ (spare ++ post)) (i * 2 + 0) (I y.1) = setN xs (i * 2 + 0) (I y.1) ++ (spare ++ post) := setN_app_lt (by omega)
      have q2 : setN (setN xs (i * 2 + 0) (I y.1) ++ (spare ++ post)) (i * 2 + 1) (I y.2) = setN (setN xs (i * 2 + 0) (I y.1)) (i * 2 + 1) (I y.2) ++ (spare ++ post) := setN_app_lt (by omega)
      rw [show pre.length + i * 2 = pre.length + (i * 2 + 0) from rfl, setN_app_add, q1, show pre.length + (i * 2 + 0) + 1 = pre.length + (i * 2 + 1) by omega, setN_app_add, q2] at h
      exact h
end Go.Proofs.YtkebppklbobjcaaGreatDoor
namespace Go.Proofs.YtkebppklbobjcaaGreatDoor
open Go.Dm
attribute [local irreducible] L.load L.store L.chk L.new L.nonnil L.guard L.ite L.draw L.idx L.sem L.semR L.semU L.chkSem L.next L.call L.callV L.join L.alts L.loop L.begin L.endRound L.range
variable {w0 w : World} {E : List Seg}
def can (x : AHeld) : Bool := decide (x.pod.st = 2 ∧ (x.pod.reqs.length : Int) < x.pod.conc)
def pickStep (b : Option AHeld) (x : AHeld) : Option AHeld := match b with
  | none => if can x = true then some x else none
  | some y => if can x = true ∧ x.pod.reqs.length < y.pod.reqs.length then some x else some y
def fPick (l : List AHeld) (rev : ByteArray) : Option AHeld := (revs l rev).foldl pickStep none
def key (x : AHeld) : Int × Int := (x.pod.reqs.length, x.id)
end Go.Proofs.YtkebppklbobjcaaGreatDoor
namespace Go.Proofs.YtkebppklbobjcaaGreatDoor
open Go.Dm
attribute [local irreducible] L.load L.store L.chk L.new L.nonnil L.guard L.ite L.draw L.idx L.sem L.semR L.semU L.chkSem L.next L.call L.callV L.join L.alts L.loop L.begin L.endRound L.range
variable {w0 w : World} {E : List Seg}
def fTake (F : AFleet) (rev : ByteArray) (q : Int) : AFleet × Int × Bool :=
  if (fWhere F.l q).isSome then (F, 0, false) else match fPick F.l rev with
  | none => (F, 0, false)
  | some x => ({ F with l := fUpd F.l x.id fun p => (podTake p q).1 }, x.id, true)
theorem FlR.same {F : AFleet} {A B : List Tr} {t : Tr} {mA mW} (hr : FlR F (A ++ t :: B) mA mW) {s' : Seg} (hp : PodS t.2.1 t.1.pod s') : FlR F (A ++ (t.1, t.2.1, s') :: B) mA mW := by
  refine ⟨by rw [hr.l]; simp, fun y hy => ?_, by have := hr.all; simp only [List.map_append, List.map_cons] at this ⊢; exact this, hr.wth⟩
  rcases List.mem_append.1 hy with hy | hy
  · exact hr.ps y (by simp [hy])
  · rcases List.mem_cons.1 hy with rfl | hy
    · exact hp
    · exact hr.ps y (by simp [hy])
end Go.Proofs.YtkebppklbobjcaaGreatDoor
namespace Go.Proofs.YtkebppklbobjcaaGreatDoor
open Go.Dm
attribute [local irreducible] L.load L.store L.chk L.new L.nonnil L.guard L.ite L.draw L.idx L.sem L.semR L.semU L.chkSem L.next L.call L.callV L.join L.alts L.loop L.begin L.endRound L.range
variable {w0 w : World} {E : List Seg}
def fKill (F : AFleet) (id : Int) : AFleet × List Int × Int := match fFind F.l id with
  | none => (F, [], 6)
  | some x => ({ F with l := fUpd F.l id fun p => (podKill p).1 }, x.pod.reqs, 0)
end Go.Proofs.YtkebppklbobjcaaGreatDoor
namespace Go.Proofs.YtkebppklbobjcaaGreatDoor
open Go.Dm
attribute [local irreducible] L.load L.store L.chk L.new L.nonnil L.guard L.ite L.draw L.idx L.sem L.semR L.semU L.chkSem L.next L.call L.callV L.join L.alts L.loop L.begin L.endRound L.range
variable {w0 w : World} {E : List Seg}
def eH (p : Int × Int) : List Value := [I p.1, I p.2]
theorem encH : Enc eH 2 := ⟨fun _ => rfl, fun _ => rfl, by decide⟩
theorem elH : El Pr T_s_wait_held_int T_wait_held_int 2 16 (.agg #[I 0, I 0]) := el_of (by kernel_rfl) (by kernel_rfl) rfl (by decide)
def LnS (b : Nat) (room : Int) (l : List (Int × Int)) (s : Seg) : Prop := ∃ v sr, Rw eH T_wait_held_int 2 v l sr ∧ s = [Cl b T_wait_Line [SlV v, I room]] ++ sr
def lLate (l : List (Int × Int)) (now : Int) : List Int := (l.filter fun x => x.2 ≤ now).map (·.1)
def lRest (l : List (Int × Int)) (now : Int) : List (Int × Int) := l.filter fun x => !decide (x.2 ≤ now)
theorem S_wLen (h : St w0 E w) (i : Nat) {b : Nat} {room : Int} {l : List (Int × Int)} {s : Seg} (hi : nth E i = some s) (hl : LnS b room l s) {k : Int → PT} (hk : k l.length w) : L.call Pr n_wait_Line_Len [.pointer (some ⟨b, 0, none⟩)] (.one (.one (.int .i64))) k w := by
  obtain ⟨v, sr, hr, rfl⟩ := hl
  refine call_of (C_wait_Line_Len _) ?_
  unfold F_wait_Line_Len
  have h := (h.front i hi).split
  ((try dsimp only [setN, List.cons_append, List.nil_append] at h); repeat (first | refine nn ?_ | (refine dr h ?_; clear h; (try clear w); intro w h) | refine ldC h ?_ | refine laC h ?_ | refine ckC h ?_ | (refine stC h ?_; clear h; (try clear w); intro w h; (try dsimp only [putN, setN] at h)) | rw [add_add]))
  refine ⟨_, rfl, ?_⟩
  rw [Rw.len encH hr]; exact hk
theorem S_each (h : St w0 E w) {b : Nat} {k : FV → PT} (hk : ∀ c w', St w0 ([Cl c T_p_wait_row_int [.pointer (some ⟨b, 0, none⟩)]] :: E) w' → k ⟨.func n_wait_row_int_each_1, #[], #[.pointer (some ⟨c, 0, none⟩)]⟩ w') :
    L.call Pr n_wait_row_int_each [.pointer (some ⟨b, 0, none⟩)] (.one (.one .func)) k w := by
  refine call_of (C_wait_row_int_each _) ?_
  unfold F_wait_row_int_each
  refine nw h ?_; clear h; (try clear w); intro c w h
  exact ⟨_, rfl, hk c w h⟩
def argH (l : List (Int × Int)) (m : Nat) : TT [.one (.int .i64), .one (.int .i64)] := (((l[m]?).getD (0, 0)).1, ((l[m]?).getD (0, 0)).2, ())
theorem Y_each {b c T : Nat} {rm : Value} {v : Sl} {l : List (Int × Int)} {sr : Seg} (hr : Rw eH T_wait_held_int 2 v l sr) (hn : l.length < 1000000000) :
    Yld Pr w0 [[Cl c T_p_wait_row_int [.pointer (some ⟨b, 0, none⟩)]], [Cl b T [SlV v, rm]], sr] (.func (.func n_wait_row_int_each_1) #[] #[.pointer (some ⟨c, 0, none⟩)]) l.length fun m => TV _ (argH l m) := by
  intro yv R J Jd F w h hJ step fin fin2
  have hlen := Rw.len encH hr
  refine ⟨E_wait_row_int_each_1, C_wait_row_int_each_1 yv ⟨c, 0, none⟩ ?_⟩
  unfold F_wait_row_int_each_1
  ((try dsimp only [setN, List.cons_append, List.nil_append] at h); repeat (first | refine nn ?_ | (refine dr h ?_; clear h; (try clear w); intro w h) | refine ldC h ?_ | refine laC h ?_ | refine ckC h ?_ | (refine stC h ?_; clear h; (try clear w); intro w h; (try dsimp only [putN, setN] at h)) | rw [add_add]))
  refine loop_of (fun q y w => ∃ (m : Nat) (F : List Seg), @Eq Int y.1 m ∧ q + m = l.length ∧ J m F ∧ St w0 ([Cl c T_p_wait_row_int [.pointer (some ⟨b, 0, none⟩)]] :: [Cl b T [SlV v, rm]] :: sr :: F) w) l.length ⟨0, F, rfl, rfl, hJ, h⟩ ?_
  rintro q ⟨y, ⟨⟩⟩ w ⟨m, F, hy, hq, hJ, h⟩ again hag
  simp only at hy
  subst hy
  refine it (fun hb => ?_) (fun hb => ?_) <;> (try simp only [decide_eq_true_eq, decide_eq_false_iff_not, beq_iff_eq, bne_iff_ne, beq_eq_false_iff_ne, bne_eq_false_iff_eq, Bool.not_eq_true', Bool.not_eq_false', ne_eq, Bool.not_eq_true, Bool.not_eq_false] at hb)
  · have hm : m < l.length := by omega
    have hx : l[m]? = some l[m] := List.getElem?_eq_getElem hm
    refine Rw.ix encH hr (by omega) (by simpa using hm) fun a ha => ?_
    refine Rw.lda encH h 2 rfl hr ha (x := l[m]) (by simpa using hx) rfl ?_
    refine nw h ?_; clear h; (try clear w); intro b2 w h
    ((try dsimp only [setN, List.cons_append, List.nil_append] at h); repeat (first | refine nn ?_ | (refine dr h ?_; clear h; (try clear w); intro w h) | refine ldC h ?_ | refine laC h ?_ | refine ckC h ?_ | (refine stC h ?_; clear h; (try clear w); intro w h; (try dsimp only [putN, setN] at h)) | rw [add_add]))
    have h := dl0_ h
    have ea : TV _ (argH l m) = [I l[m].1, I l[m].2] := by simp [argH, hx]; rfl
    have step := step m F w hm hJ h
    simp only [ea] at step
    refine cv (FCall.mono step fun u w' hu => ?_)
    rcases hu with ⟨rfl, F', h, hJ⟩ | ⟨rfl, hd⟩
    · refine ⟨true, rfl, itF rfl (hag (q - 1) _ _ (by omega) ⟨m + 1, F', ?_, by omega, hJ, h⟩)⟩
      show IntKind.wrap .i64 _ = _
      rw [wr (by omega) (by omega)]; omega
    · exact ⟨false, rfl, itT rfl (fin2 w' hd)⟩
  · have e : m = l.length := by omega
    subst e
    exact fin F w hJ h
end Go.Proofs.YtkebppklbobjcaaGreatDoor
namespace Go.Proofs.YtkebppklbobjcaaGreatDoor
open Go.Dm
attribute [local irreducible] L.load L.store L.chk L.new L.nonnil L.guard L.ite L.draw L.idx L.sem L.semR L.semU L.chkSem L.next L.call L.callV L.join L.alts L.loop L.begin L.endRound L.range
variable {w0 w : World} {E : List Seg}
theorem argH_eq {l : List (Int × Int)} {m : Nat} {x : Int × Int} (hx : l[m]? = some x) : argH l m = (x.1, x.2, ()) := by simp [argH, hx]
theorem St.setN_same {s : Seg} (i : Nat) (hi : nth E i = some s) (h : St w0 (setN E i s) w) : St w0 E w := by rwa [setN_self hi] at h
theorem S_All (h : St w0 E w) (i : Nat) {b : Nat} {room : Int} {l : List (Int × Int)} {s : Seg} (hi : nth E i = some s) (hl : LnS b room l s) (hn : l.length < 1000000000) {k : Sl → PT}
    (hk : ∀ v s' w', Rw eI T_int 1 v (l.map (·.1)) s' → St w0 (s' :: E) w' → k v w') : L.call Pr n_wait_Line_All [.pointer (some ⟨b, 0, none⟩)] (.one (.one .slice)) k w := by
  have hl' := hl
  obtain ⟨v, sr, hr, rfl⟩ := hl
  refine call_of (C_wait_Line_All _) ?_
  unfold F_wait_Line_All
  refine S_wLen h i hi hl' ?_
  refine mk0 elI encI h (by omega) (by omega) (by omega) fun v2 s2 w hr2 h => ?_
  refine nw h ?_; clear h; (try clear w); intro b3 w h
  ((try dsimp only [setN, List.cons_append, List.nil_append] at h); repeat (first | refine nn ?_ | (refine dr h ?_; clear h; (try clear w); intro w h) | refine ldC h ?_ | refine laC h ?_ | refine ckC h ?_ | (refine stC h ?_; clear h; (try clear w); intro w h; (try dsimp only [putN, setN] at h)) | rw [add_add]))
  refine S_each h fun c w h => ?_
  have h := (h.front (i + 3) hi).split
  have h := fr2_ (fr1_ (fr1_ h))
  refine range_of (Y_each hr hn) h (fun m F => ∃ v2 s2, F = [Cl b3 T_s_int [SlV v2]] :: s2 :: delN E i ∧ Rw eI T_int 1 v2 ((l.take m).map (·.1)) s2)
    (fun j G => False) ⟨_, _, rfl, hr2⟩ ?_ ?_ ?_
  · rintro m F w lv lp d R hm ⟨v2, s2, rfl, hr2⟩ h hN hE
    have hx : l[m]? = some l[m] := List.getElem?_eq_getElem hm
    rw [argH_eq hx]
    ((try dsimp only [setN, List.cons_append, List.nil_append] at h); repeat (first | refine nn ?_ | (refine dr h ?_; clear h; (try clear w); intro w h) | refine ldC h ?_ | refine laC h ?_ | refine ckC h ?_ | (refine stC h ?_; clear h; (try clear w); intro w h; (try dsimp only [putN, setN] at h)) | rw [add_add]))
    refine nw h ?_; clear h; (try clear w); intro b12 w h
    refine Rw.app encI elI h 6 rfl hr2 l[m].1 rfl (by simp; omega) (by simp; omega) fun v' s' w hr h => ?_
    ((try dsimp only [setN, List.cons_append, List.nil_append] at h); repeat (first | refine nn ?_ | (refine dr h ?_; clear h; (try clear w); intro w h) | refine ldC h ?_ | refine laC h ?_ | refine ckC h ?_ | (refine stC h ?_; clear h; (try clear w); intro w h; (try dsimp only [putN, setN] at h)) | rw [add_add]))
    refine hN _ w ⟨v', s', rfl, ?_⟩ h
    rw [List.take_add_one, hx, List.map_append]
    exact hr
  · rintro d F w ⟨v2, s2, rfl, hr2⟩ h
    refine jumpN ?_
    ((try dsimp only [setN, List.cons_append, List.nil_append] at h); repeat (first | refine nn ?_ | (refine dr h ?_; clear h; (try clear w); intro w h) | refine ldC h ?_ | refine laC h ?_ | refine ckC h ?_ | (refine stC h ?_; clear h; (try clear w); intro w h; (try dsimp only [putN, setN] at h)) | rw [add_add]))
    (first | refine um0_ h ?_ | refine um1_ h ?_ | refine um2_ h ?_ | refine um3_ h ?_ | refine um4_ h ?_ | refine um5_ h ?_ | refine um6_ h ?_ | refine um7_ h ?_ | refine um8_ h ?_ | refine um9_ h ?_ | refine um10_ h ?_ | refine um11_ h ?_); clear h; (try clear w); intro w h
    rw [List.take_length] at hr2
    refine ⟨v2, rfl, hk _ s2 w hr2 ?_⟩
    have h := fr3_ (fr3_ (fr4_ h))
    have h := dl3_ (dl4_ h)
    have h := St.back (i + 1) (E := s2 :: E) hi h.glue
    have h := St.setN_same (i + 1) (E := s2 :: E) hi h
    exact h
  · rintro d j F w hf; exact hf.elim
end Go.Proofs.YtkebppklbobjcaaGreatDoor
namespace Go.Proofs.YtkebppklbobjcaaGreatDoor
open Go.Dm
attribute [local irreducible] L.load L.store L.chk L.new L.nonnil L.guard L.ite L.draw L.idx L.sem L.semR L.semU L.chkSem L.next L.call L.callV L.join L.alts L.loop L.begin L.endRound L.range
variable {w0 w : World} {E : List Seg}
theorem lLate_take {l : List (Int × Int)} {now : Int} {m : Nat} {x : Int × Int} (hx : l[m]? = some x) : lLate (l.take (m + 1)) now = lLate (l.take m) now ++ (if x.2 ≤ now then [x.1] else []) := by
  simp only [lLate, List.take_add_one, hx, List.filter_append, List.map_append]
  congr 1
  by_cases h : x.2 ≤ now <;> simp [h]
theorem lRest_take {l : List (Int × Int)} {now : Int} {m : Nat} {x : Int × Int} (hx : l[m]? = some x) : lRest (l.take (m + 1)) now = lRest (l.take m) now ++ (if x.2 ≤ now then [] else [x]) := by
  simp only [lRest, List.take_add_one, hx, List.filter_append]
  congr 1
  by_cases h : x.2 ≤ now <;> simp [h]
theorem lLate_len (l : List (Int × Int)) (now : Int) : (lLate l now).length ≤ l.length := by
  unfold lLate; rw [List.length_map]; exact List.length_filter_le ..
theorem lRest_len (l : List (Int × Int)) (now : Int) : (lRest l now).length ≤ l.length := List.length_filter_le ..
theorem S_Late (h : St w0 E w) (i : Nat) {b : Nat} {room : Int} {l : List (Int × Int)} {s : Seg} (hi : nth E i = some s) (hl : LnS b room l s) (hn : l.length < 1000000000) {now : Int} {k : Sl → PT}
    (hk : ∀ v s' s2 w', LnS b room (lRest l now) s' → Rw eI T_int 1 v (lLate l now) s2 → St w0 (s2 :: setN E i s') w' → k v w') : L.call Pr n_wait_Line_Late [.pointer (some ⟨b, 0, none⟩), I now] (.one (.one .slice)) k w := by
  obtain ⟨v, sr, hr, rfl⟩ := hl
  refine call_of (C_wait_Line_Late _ _) ?_
  unfold F_wait_Line_Late
  ((try dsimp only [setN, List.cons_append, List.nil_append] at h); repeat (first | refine nn ?_ | (refine dr h ?_; clear h; (try clear w); intro w h) | refine ldC h ?_ | refine laC h ?_ | refine ckC h ?_ | (refine stC h ?_; clear h; (try clear w); intro w h; (try dsimp only [putN, setN] at h)) | rw [add_add]))
  refine call_of (C_wait_row_int_part _ _) ?_
  unfold F_wait_row_int_part
  have h := (h.front i hi).split
  refine nw h ?_; clear h; (try clear w); intro b1 w h
  refine nw h ?_; clear h; (try clear w); intro b2 w h
  refine nw h ?_; clear h; (try clear w); intro b3 w h
  refine S_each h fun c w h => ?_
  have h := fr2_ (fr5_ (fr5_ h))
  have h : St w0 ([Cl c T_p_wait_row_int [.pointer (some ⟨b, 0, none⟩)]] :: [Cl b T_wait_Line [SlV v, I room]] :: sr :: [Cl b3 T_s_wait_held_int [SlV ⟨none, 0, 0⟩]] :: [] :: [Cl b2 T_s_int [SlV ⟨none, 0, 0⟩]] :: [] :: [Cl b1 T_int [I now]] :: delN E i) w := h.eq (by simp)
  refine range_of (Y_each hr hn) h (fun m F => ∃ v2 s2 v3 s3, F = [Cl b3 T_s_wait_held_int [SlV v3]] :: s3 :: [Cl b2 T_s_int [SlV v2]] :: s2 :: [Cl b1 T_int [I now]] :: delN E i ∧ Rw eI T_int 1 v2 (lLate (l.take m) now) s2 ∧ Rw eH T_wait_held_int 2 v3 (lRest (l.take m) now) s3)
    (fun j G => False) ⟨_, _, _, _, rfl, Rw.nil, Rw.nil⟩ ?_ ?_ ?_
  · rintro m F w lv lp d R hm ⟨v2, s2, v3, s3, rfl, hr2, hr3⟩ h hN hE
    have hx : l[m]? = some l[m] := List.getElem?_eq_getElem hm
    have n2 := lLate_len (l.take m) now
    have n3 := lRest_len (l.take m) now
    simp only [List.length_take] at n2 n3
    rw [argH_eq hx]
    ((try dsimp only [setN, List.cons_append, List.nil_append] at h); repeat (first | refine nn ?_ | (refine dr h ?_; clear h; (try clear w); intro w h) | refine ldC h ?_ | refine laC h ?_ | refine ckC h ?_ | (refine stC h ?_; clear h; (try clear w); intro w h; (try dsimp only [putN, setN] at h)) | rw [add_add]))
    refine it (fun hb => ?_) (fun hb => ?_) <;> (try simp only [decide_eq_true_eq, decide_eq_false_iff_not, beq_iff_eq, bne_iff_ne, beq_eq_false_iff_ne, bne_eq_false_iff_eq, Bool.not_eq_true', Bool.not_eq_false', ne_eq, Bool.not_eq_true, Bool.not_eq_false] at hb)
    · ((try dsimp only [setN, List.cons_append, List.nil_append] at h); repeat (first | refine nn ?_ | (refine dr h ?_; clear h; (try clear w); intro w h) | refine ldC h ?_ | refine laC h ?_ | refine ckC h ?_ | (refine stC h ?_; clear h; (try clear w); intro w h; (try dsimp only [putN, setN] at h)) | rw [add_add]))
      refine nw h ?_; clear h; (try clear w); intro b12 w h
      refine Rw.app encI elI h 8 rfl hr2 l[m].1 rfl (by omega) (by omega) fun v' s' w hr' h => ?_
      ((try dsimp only [setN, List.cons_append, List.nil_append] at h); repeat (first | refine nn ?_ | (refine dr h ?_; clear h; (try clear w); intro w h) | refine ldC h ?_ | refine laC h ?_ | refine ckC h ?_ | (refine stC h ?_; clear h; (try clear w); intro w h; (try dsimp only [putN, setN] at h)) | rw [add_add]))
      refine hN _ w ⟨v', s', v3, s3, rfl, ?_, ?_⟩ h
      · rw [lLate_take hx, if_pos hb]; exact hr'
      · rw [lRest_take hx, if_pos hb, List.append_nil]; exact hr3
    · ((try dsimp only [setN, List.cons_append, List.nil_append] at h); repeat (first | refine nn ?_ | (refine dr h ?_; clear h; (try clear w); intro w h) | refine ldC h ?_ | refine laC h ?_ | refine ckC h ?_ | (refine stC h ?_; clear h; (try clear w); intro w h; (try dsimp only [putN, setN] at h)) | rw [add_add]))
      refine nw h ?_; clear h; (try clear w); intro b15 w h
      refine Rw.app encH elH h 6 rfl hr3 l[m] rfl (by omega) (by omega) fun v' s' w hr' h => ?_
      ((try dsimp only [setN, List.cons_append, List.nil_append] at h); repeat (first | refine nn ?_ | (refine dr h ?_; clear h; (try clear w); intro w h) | refine ldC h ?_ | refine laC h ?_ | refine ckC h ?_ | (refine stC h ?_; clear h; (try clear w); intro w h; (try dsimp only [putN, setN] at h)) | rw [add_add]))
      refine hN _ w ⟨v2, s2, v', s', rfl, ?_, ?_⟩ h
      · rw [lLate_take hx, if_neg hb, List.append_nil]; exact hr2
      · rw [lRest_take hx, if_neg hb]; exact hr'
  · rintro d F w ⟨v2, s2, v3, s3, rfl, hr2, hr3⟩ h
    refine jumpN ?_
    rw [List.take_length] at hr2 hr3
    have n2 := lLate_len l now
    ((try dsimp only [setN, List.cons_append, List.nil_append] at h); repeat (first | refine nn ?_ | (refine dr h ?_; clear h; (try clear w); intro w h) | refine ldC h ?_ | refine laC h ?_ | refine ckC h ?_ | (refine stC h ?_; clear h; (try clear w); intro w h; (try dsimp only [putN, setN] at h)) | rw [add_add]))
    refine S_cloneI h (hr2.rd encI h 7 rfl) (by omega) (Rw.nil_of encI hr2) fun v' s' w hr' _ h => ?_
    (first | refine um0_ h ?_ | refine um1_ h ?_ | refine um2_ h ?_ | refine um3_ h ?_ | refine um4_ h ?_ | refine um5_ h ?_ | refine um6_ h ?_ | refine um7_ h ?_ | refine um8_ h ?_ | refine um9_ h ?_ | refine um10_ h ?_ | refine um11_ h ?_); clear h; (try clear w); intro w h
    refine ⟨v', rfl, v', rfl, hk v' _ s' w ⟨v3, s3, hr3, rfl⟩ hr' ?_⟩
    have h := fr3_ (fr5_ h)
    have h := dl3_ (dl4_ (dl5_ (dl6_ (dl7_ (dl8_ h)))))
    exact St.back (i + 1) (E := s' :: E) hi h.glue
  · rintro d j F w hf; exact hf.elim
end Go.Proofs.YtkebppklbobjcaaGreatDoor
namespace Go.Proofs.YtkebppklbobjcaaGreatDoor
open Go.Dm
attribute [local irreducible] L.load L.store L.chk L.new L.nonnil L.guard L.ite L.draw L.idx L.sem L.semR L.semU L.chkSem L.next L.call L.callV L.join L.alts L.loop L.begin L.endRound L.range
variable {w0 w : World} {E : List Seg}
def vReq (x : ByteArray × Int) : Value := .agg #[.string x.1, I x.2]
abbrev Fate := HT [.int .i64, .int .i64, .int .i64, .str]
abbrev eFate : E1 := .agg [.int .i64, .int .i64, .int .i64, .str]
abbrev Fate.cells (f : Fate) : List Value := [I f.1, I f.2.1, I f.2.2.1, .string f.2.2.2.1]
theorem encF : Enc Fate.cells 4 := ⟨fun _ => rfl, fun _ => rfl, by decide⟩
theorem elF : El Pr T_s_gate_Fate T_gate_Fate 4 40 (.agg #[I 0, I 0, I 0, .string s_]) := el_of (by kernel_rfl) (by kernel_rfl) rfl (by decide)
structure AGate where
  all : List (Int × (ByteArray × Int))
  lines : List (ByteArray × List (Int × Int))
  room : Int
  pat : Int
structure AGate.Ok (G : AGate) : Prop where
  few : G.all.length < 100000000
  lo : 0 ≤ G.room
  hi : G.room ≤ 1000000
  ln : ∀ x ∈ G.lines, (x.2.length : Int) ≤ G.room
  nd : (G.lines.map (·.1)).Nodup
  nda : (G.all.map (·.1)).Nodup
  fl : G.lines.length < 100000000
structure LnE where
  k : ByteArray
  b : Nat
  l : List (Int × Int)
  sg : Seg
abbrev LnE.kp (x : LnE) : ByteArray × Option Addr := (x.k, some ⟨x.b, 0, none⟩)
abbrev LnE.ka (x : LnE) : ByteArray × List (Int × Int) := (x.k, x.l)
abbrev gtB (b bf rA rL c : Nat) (room pat : Int) : Seg := [Cl b T_gate_Gate [.pointer (some ⟨bf, 0, none⟩), .map (some rA), .map (some rL), .func (.func n_gate_New_1) #[] #[.pointer (some ⟨c, 0, none⟩)], I room, I pat]]
structure GtR (G : AGate) (rA rL : Nat) (sA sL : Seg) (Q : List LnE) : Prop where
  all : MpS KI vReq rA G.all sA
  lns : MpS Value.string Value.pointer rL (Q.map LnE.kp) sL
  each : ∀ x ∈ Q, LnS x.b G.room x.l x.sg
  abs : G.lines = Q.map LnE.ka
def GtS (b bf : Nat) (G : AGate) (s : Seg) : Prop := G.Ok ∧ ∃ rA rL c sA sL, ∃ Q : List LnE, GtR G rA rL sA sL Q ∧
  s = gtB b bf rA rL c G.room G.pat ++ ([Cl c T_int [I G.room]] ++ (sA ++ (sL ++ (Q.map LnE.sg).flatten)))
theorem und_req : Pr.underlying T_map_int_gate_request = some (.map T_int T_gate_request) := by kernel_rfl
theorem und_lns : Pr.underlying T_map_string_p_wait_Line = some (.map T_string T_p_wait_Line) := by kernel_rfl
theorem und_str' : Pr.underlying T_string = some .string := by kernel_rfl
theorem mkS' : MK Pr T_string Value.string := mk_str und_str'
theorem zln (w : World) : (zeroValue T_p_wait_Line).run Pr w = .ok ((E1.one .ptr).val none) w := by
  have h : (Pr.info? T_p_wait_Line).map (·.zero) = some (some (.pointer none)) := by kernel_rfl
  cases hi : Pr.info? T_p_wait_Line with
  | none => rw [hi] at h; cases h
  | some i => rw [hi] at h; simp only [Option.map_some, Option.some.injEq] at h; exact zv hi h w
theorem S_gNew (h : St w0 E w) {bf : Nat} {room pat : Int} (h0 : 0 ≤ room) (h1 : room ≤ 1000000) {k : Option Addr → PT} (hk : ∀ b s w', GtS b bf ⟨[], [], room, pat⟩ s → St w0 (s :: E) w' → k (some ⟨b, 0, none⟩) w') :
    L.call Pr n_gate_New [.pointer (some ⟨bf, 0, none⟩), I room, I pat] (.one (.one .ptr)) k w := by
  refine call_of (C_gate_New _ _ _) ?_
  unfold F_gate_New
  refine nw h ?_; clear h; (try clear w); intro c w h
  refine MpS.new h KI vReq fun rA sA w hA h => ?_
  refine MpS.new h Value.string Value.pointer fun rL sL w hL h => ?_
  ((try dsimp only [setN, List.cons_append, List.nil_append] at h); repeat (first | refine nn ?_ | (refine dr h ?_; clear h; (try clear w); intro w h) | refine ldC h ?_ | refine laC h ?_ | refine ckC h ?_ | (refine stC h ?_; clear h; (try clear w); intro w h; (try dsimp only [putN, setN] at h)) | rw [add_add]))
  refine nw h ?_; clear h; (try clear w); intro b w h
  refine ⟨_, rfl, hk b _ w ⟨⟨by simp, h0, h1, by simp, by simp, by simp, by simp⟩, rA, rL, c, sA, sL, [], ⟨hA, hL, by simp, rfl⟩, rfl⟩ ?_⟩
  have h := fr3_ (fr3_ (fr2_ (fr1_ h)))
  exact h.eq (by simp)
def fset (f : Fate) (id : Int) : Fate := (id, f.2.1, f.2.2.1, f.2.2.2.1, ())
theorem S_gset {b bf rA rL c : Nat} {room pat : Int} {sA : Seg} {all : List (Int × (ByteArray × Int))} (hA : MpS KI vReq rA all sA) (h : St w0 (gtB b bf rA rL c room pat :: sA :: E) w) {id : Int} {rev : ByteArray} {f : Fate} {k : eFate.T → PT}
    (hk : ∀ sA' w', MpS KI vReq rA (mset all id (rev, f.2.1)) sA' → St w0 (gtB b bf rA rL c room pat :: sA' :: E) w' → k (fset f id) w') :
    L.call Pr n_gate_Gate_set [.pointer (some ⟨b, 0, none⟩), I id, .string rev, .agg (Fate.cells f).toArray] (.one eFate) k w := by
  refine call_of (C_gate_Gate_set _ _ _ f) ?_
  unfold F_gate_Gate_set
  refine nw h ?_; clear h; (try clear w); intro b1 w h
  refine nw h ?_; clear h; (try clear w); intro b2 w h
  ((try dsimp only [setN, List.cons_append, List.nil_append] at h); repeat (first | refine nn ?_ | (refine dr h ?_; clear h; (try clear w); intro w h) | refine ldC h ?_ | refine laC h ?_ | refine ckC h ?_ | (refine stC h ?_; clear h; (try clear w); intro w h; (try dsimp only [putN, setN] at h)) | rw [add_add]))
  refine MpS.set mkI und_req h 3 rfl hA (rev, f.2.1) rfl fun sA' w hA' h => ?_
  have h : St w0 ([Cl b2 T_gate_Fate [I 0, I 0, I 0, .string s_]] :: [Cl b1 T_gate_Fate [I id, I f.2.1, I f.2.2.1, .string f.2.2.2.1]] :: gtB b bf rA rL c room pat :: sA' :: E) w := h
  ((try dsimp only [setN, List.cons_append, List.nil_append] at h); repeat (first | refine nn ?_ | (refine dr h ?_; clear h; (try clear w); intro w h) | refine ldC h ?_ | refine laC h ?_ | refine ckC h ?_ | (refine stC h ?_; clear h; (try clear w); intro w h; (try dsimp only [putN, setN] at h)) | rw [add_add]))
  exact ⟨fset f id, rfl, hk sA' w hA' (dl0_ (dl0_ h))⟩
theorem S_gwhy (h : St w0 E w) {s : ByteArray} {k : eFate.T → PT} (hk : ∀ w', St w0 E w' → k (0, 4, 0, s, ()) w') : L.call Pr n_gate_why [.string s] (.one eFate) k w := by
  refine call_of (C_gate_why _) ?_
  unfold F_gate_why
  refine nw h ?_; clear h; (try clear w); intro b1 w h
  ((try dsimp only [setN, List.cons_append, List.nil_append] at h); repeat (first | refine nn ?_ | (refine dr h ?_; clear h; (try clear w); intro w h) | refine ldC h ?_ | refine laC h ?_ | refine ckC h ?_ | (refine stC h ?_; clear h; (try clear w); intro w h; (try dsimp only [putN, setN] at h)) | rw [add_add]))
  exact ⟨_, rfl, hk w (dl0_ h)⟩
end Go.Proofs.YtkebppklbobjcaaGreatDoor
namespace Go.Proofs.YtkebppklbobjcaaGreatDoor
open Go.Dm
attribute [local irreducible] L.load L.store L.chk L.new L.nonnil L.guard L.ite L.draw L.idx L.sem L.semR L.semU L.chkSem L.next L.call L.callV L.join L.alts L.loop L.begin L.endRound L.range
variable {w0 w : World} {E : List Seg}
theorem gt_close {G : AGate} {b bf rA rL c : Nat} {sA sL : Seg} {Q : List LnE} (ok : G.Ok) (hr : GtR G rA rL sA sL Q) (h : St w0 (gtB b bf rA rL c G.room G.pat :: [Cl c T_int [I G.room]] :: sA :: sL :: (Q.map LnE.sg).flatten :: E) w) :
    ∃ s, GtS b bf G s ∧ St w0 (s :: E) w := ⟨_, ⟨ok, rA, rL, c, sA, sL, Q, hr, rfl⟩, h.glue5⟩
def lineOf (ls : List (ByteArray × List (Int × Int))) (rev : ByteArray) : List (Int × Int) := (mget ls rev).getD []
theorem lfind_kp {Q : List LnE} {rev : ByteArray} : mget (Q.map LnE.kp) rev = (lfind LnE.k Q rev).map fun x => some ⟨x.b, 0, none⟩ := lfind_map (key := LnE.k) (fun x : LnE => (some ⟨x.b, 0, none⟩ : Option Addr)) rev Q
theorem lfind_ka {Q : List LnE} {rev : ByteArray} : mget (Q.map LnE.ka) rev = (lfind LnE.k Q rev).map LnE.l := lfind_map (key := LnE.k) LnE.l rev Q
end Go.Proofs.YtkebppklbobjcaaGreatDoor
namespace Go.Proofs.YtkebppklbobjcaaGreatDoor
open Go.Dm
attribute [local irreducible] L.load L.store L.chk L.new L.nonnil L.guard L.ite L.draw L.idx L.sem L.semR L.semU L.chkSem L.next L.call L.callV L.join L.alts L.loop L.begin L.endRound L.range
variable {w0 w : World} {E : List Seg}
theorem lineOf_len {G : AGate} (ok : G.Ok) (rev : ByteArray) : ((lineOf G.lines rev).length : Int) ≤ G.room := by
  unfold lineOf
  cases h : mget G.lines rev with
  | none => simp; exact ok.lo
  | some l => exact ok.ln _ (mget_mem h)
theorem AGate.Ok.line {G : AGate} (ok : G.Ok) (hl : G.lines.length < 90000000) (rev : ByteArray) {l : List (Int × Int)} (h : (l.length : Int) ≤ G.room) : ({ G with lines := mset G.lines rev l } : AGate).Ok := by
  refine ⟨ok.few, ok.lo, ok.hi, fun x hx => ?_, mset_nd ok.nd, ok.nda, ?_⟩
  · rcases mset_mem hx with rfl | hx
    · exact h
    · exact ok.ln x hx
  · have := mset_le' G.lines rev l; simp only; omega
abbrev podsMost : Int := 20
structure FFew (F : AFleet) : Prop where
  r : F.room ≤ podsMost
  l : (F.l.length : Int) ≤ max F.room 0
  q : ∀ x ∈ F.l, x.pod.reqs.length ≤ 1000 ∧ x.pod.conc ≤ 1000
theorem fUpd_mem {l : List AHeld} {id : Int} {g : APod → APod} {y : AHeld} (h : y ∈ fUpd l id g) : y ∈ l ∨ ∃ x ∈ l, x.id = id ∧ y = { x with pod := g x.pod } := by
  unfold fUpd at h
  obtain ⟨x, hx, hy⟩ := List.mem_filterMap.1 h
  split at hy
  · rename_i e
    split at hy
    · cases hy
    · cases hy; exact .inr ⟨x, hx, e, rfl⟩
  · cases hy; exact .inl hx
theorem fUpd_len (l : List AHeld) (id : Int) (g : APod → APod) : (fUpd l id g).length ≤ l.length := List.length_filterMap_le ..
theorem FFew.upd {F : AFleet} (h : FFew F) (id : Int) (g : APod → APod) (hg : ∀ x ∈ F.l, x.id = id → (g x.pod).reqs.length ≤ 1000 ∧ (g x.pod).conc ≤ 1000) : FFew { F with l := fUpd F.l id g } := by
  refine ⟨h.r, ?_, fun y hy => ?_⟩
  · have := h.l; have := fUpd_len F.l id g; simp only; omega
  · rcases fUpd_mem hy with hy | ⟨x, hx, hid, rfl⟩
    · exact h.q y hy
    · exact hg x hx hid
theorem podTake_few {p : APod} {q : Int} (h : p.reqs.length ≤ 1000 ∧ p.conc ≤ 1000) : (podTake p q).1.reqs.length ≤ 1000 ∧ (podTake p q).1.conc ≤ 1000 := by
  unfold podTake; split
  · exact h
  · split
    · exact h
    · split
      · exact h
      · rename_i h3
        have := (insI_perm q p.reqs).length_eq
        simp only [List.length_cons] at this
        refine ⟨?_, h.2⟩
        simp only; omega
theorem FFew.take {F : AFleet} (h : FFew F) (rev : ByteArray) (q : Int) : FFew (fTake F rev q).1 := by
  unfold fTake; split
  · exact h
  · split
    · exact h
    · exact h.upd _ _ fun x hx _ => podTake_few (h.q x hx)
theorem FFew.kill {F : AFleet} (h : FFew F) (id : Int) : FFew (fKill F id).1 := by
  unfold fKill; split
  · exact h
  · refine h.upd _ _ fun x hx _ => ?_
    unfold podKill; split
    · exact h.q x hx
    · exact ⟨by simp, (h.q x hx).2⟩
theorem FFew.grow1 {F : AFleet} (h : FFew F) (rev : ByteArray) {conc : Int} (hc : conc ≤ 1000) (hl : (F.l.length : Int) + 1 ≤ max F.room 0) : FFew (YtkebppklbobjcaaGreatDoor.grow1 rev conc F) := by
  refine ⟨h.r, ?_, fun x hx => ?_⟩
  · simp only [YtkebppklbobjcaaGreatDoor.grow1, List.length_append, List.length_cons, List.length_nil]; omega
  · rcases List.mem_append.1 hx with hx | hx
    · exact h.q x hx
    · simp at hx; subst hx; exact ⟨by simp, hc⟩
theorem FFew.grow (rev : ByteArray) {conc : Int} (hc : conc ≤ 1000) : ∀ (n : Nat) {F : AFleet}, FFew F → (F.l.length : Int) + n ≤ max F.room 0 → FFew (YtkebppklbobjcaaGreatDoor.grow rev conc n F)
  | 0, _, h, _ => h
  | n + 1, F, h, hl => by
    have h1 := FFew.grow rev hc n h (by omega)
    refine h1.grow1 rev hc ?_
    rw [grow_len, grow_room]; omega
theorem line_turn {A B : List LnE} {x : LnE} {s' : Seg} {l' : List (Int × Int)} {ls : List (ByteArray × List (Int × Int))} {rev : ByteArray} {l : List (Int × Int)} (e : (A ++ x :: B).map LnE.ka = mset ls rev l) (hx : x.k = rev) (hnd : ((A ++ x :: B).map LnE.ka).map (·.1) |>.Nodup) :
    (A ++ (⟨x.k, x.b, l', s'⟩ : LnE) :: B).map LnE.ka = mset ls rev l' := by
  have h1 : mget ((A ++ x :: B).map LnE.ka) rev = some x.l := mget_of_mem hnd (by rw [← hx]; exact List.mem_map_of_mem (f := LnE.ka) (by simp))
  have h2 : mset ((A ++ x :: B).map LnE.ka) rev l' = (A ++ (⟨x.k, x.b, l', s'⟩ : LnE) :: B).map LnE.ka := by
    clear e h1
    induction A with
    | nil => simp [mset, hx]
    | cons y A ih =>
      have hne : y.k ≠ rev := by
        intro e
        have := hnd
        simp only [List.cons_append, List.map_cons, List.nodup_cons] at this
        refine this.1 ?_
        rw [e, ← hx]
        simp
      simp only [List.cons_append, List.map_cons, mset]
      rw [if_neg hne]
      congr 1
      refine ih ?_
      have := hnd
      simp only [List.cons_append, List.map_cons, List.nodup_cons] at this
      exact this.2
  rw [← h2, e, mset_mset]
end Go.Proofs.YtkebppklbobjcaaGreatDoor
namespace Go.Proofs.YtkebppklbobjcaaGreatDoor
open Go.Dm
attribute [local irreducible] L.load L.store L.chk L.new L.nonnil L.guard L.ite L.draw L.idx L.sem L.semR L.semU L.chkSem L.next L.call L.callV L.join L.alts L.loop L.begin L.endRound L.range
variable {w0 w : World} {E : List Seg}
abbrev Alls := List (Int × (ByteArray × Int))
theorem S_cloneF (h : St w0 E w) {v : Sl} {l : List Fate} (r : Rd w Fate.cells v l) (hn : l.length < 1000000000) (h64 : v.a = none → l = []) {k : Sl → PT}
    (hk : ∀ v' s' w', Rw Fate.cells T_gate_Fate 4 v' l s' → St w0 (s' :: E) w' → k v' w') : L.call Pr n_slices_Clone_gate_Fate_gate_Fate [SlV v] (.one (.one .slice)) k w := by
  refine call_of (C_slices_Clone_gate_Fate_gate_Fate v) ?_
  unfold F_slices_Clone_gate_Fate_gate_Fate
  exact clone_of (K := fun v w' => ∃ x, v = RT.val (.one (.one .slice)) x ∧ k x w') encF elF h r (by omega) (by omega) h64 fun v' s' w' h1 h2 h3 => ⟨v', rfl, hk v' s' w' h1 h3⟩
end Go.Proofs.YtkebppklbobjcaaGreatDoor
namespace Go.Proofs.YtkebppklbobjcaaGreatDoor
open Go.Dm
attribute [local irreducible] L.load L.store L.chk L.new L.nonnil L.guard L.ite L.draw L.idx L.sem L.semR L.semU L.chkSem L.next L.call L.callV L.join L.alts L.loop L.begin L.endRound L.range
variable {w0 w : World} {E : List Seg}
theorem gt_open {b bf : Nat} {G : AGate} {sg : Seg} (hg : GtS b bf G sg) (h : St w0 (sg :: E) w) : ∃ rA rL c sA sL, ∃ Q : List LnE, GtR G rA rL sA sL Q ∧ St w0 (gtB b bf rA rL c G.room G.pat :: [Cl c T_int [I G.room]] :: sA :: sL :: (Q.map LnE.sg).flatten :: E) w := by
  obtain ⟨ok, rA, rL, c, sA, sL, Q, hr, rfl⟩ := hg
  exact ⟨rA, rL, c, sA, sL, Q, hr, h.split5⟩
def sameReq (a b : ByteArray × Int) : Bool := (a.1 == b.1) && ((a.2 == b.2) && true)
theorem eqin_req (a b : ByteArray × Int) (w : World) : (Op.equalIn 10000 T_gate_request (.agg #[.string a.1, I a.2]) (.agg #[.string b.1, I b.2])).run Pr w = .ok (sameReq a b) w := by
  have hS : Pr.underlying T_gate_request = some (.struct (Pr.fieldsOf T_gate_request)) := by kernel_rfl
  have hp : Pr.stoodInHeld T_gate_request = false := by kernel_rfl
  obtain ⟨a1, a2⟩ := a
  obtain ⟨b1, b2⟩ := b
  rw [show (10000 : Nat) = 9999 + 1 from rfl, run_equalIn_agg w 9999 T_gate_request _ _ hS hp]
  have u3 := Tryz.underlying3
  have i3 := Tryz.isAgg3
  have z3 := Tryz.sizeOf3
  have u9 := Tryz.underlying9
  have i9 := Tryz.isAgg9
  have z9 := Tryz.sizeOf9
  simp only [Program.fieldsOf, Tryz.underlying245]
  go_simp
  have e : (ByteArray.toList a1 = ByteArray.toList b1) ↔ (@BEq.beq ByteArray _ a1 b1) = true := by rw [beq_toListBytes]; simp
  unfold sameReq
  by_cases h1 : (@BEq.beq ByteArray _ a1 b1) = true
  · rw [if_pos (e.2 h1)]
    simp only [show (a1 == b1) = true from h1, Bool.true_and]
    by_cases h2 : @Eq Int a2 b2
    · cases h2; simp
    · simp [h2]
  · rw [if_neg (fun h => h1 (e.1 h))]
    have : (a1 == b1) = false := by simpa using h1
    simp [this]
theorem sameReq_iff (a b : ByteArray × Int) : sameReq a b = true ↔ a = b := by
  obtain ⟨a1, a2⟩ := a
  obtain ⟨b1, b2⟩ := b
  have e : (@BEq.beq ByteArray _ a1 b1) = true ↔ a1 = b1 := ba_iff
  unfold sameReq
  simp only [Bool.and_eq_true, beq_iff_eq, and_true, Prod.mk.injEq]
  exact and_congr e Iff.rfl
theorem eq_req (a b : ByteArray × Int) (w : World) : (do eqGuard .eql T_gate_request (.tmp 0) (.tmp 0) (.agg #[.string a.1, I a.2]) (.agg #[.string b.1, I b.2]); binOp .eql T_gate_request (.agg #[.string a.1, I a.2]) (.agg #[.string b.1, I b.2]) : Sem Value).run Pr w = .ok (.bool (sameReq a b)) w :=
  eqS_of (by kernel_rfl) (eqin_req a b w)
end Go.Proofs.YtkebppklbobjcaaGreatDoor
namespace Go.Proofs.YtkebppklbobjcaaGreatDoor
open Go.Dm
attribute [local irreducible] L.load L.store L.chk L.new L.nonnil L.guard L.ite L.draw L.idx L.sem L.semR L.semU L.chkSem L.next L.call L.callV L.join L.alts L.loop L.begin L.endRound L.range
variable {w0 w : World} {E : List Seg}
def gWith (all : Alls) (rev : ByteArray) : List Int := isort ((all.filter fun p => decide (p.2 = (rev, 1))).map (·.1))
def gWait (G : AGate) (rev : ByteArray) : List Int := (lineOf G.lines rev).map (·.1)
def unReq : Value → ByteArray × Int
  | .agg ⟨.string s :: .int _ n :: _⟩ => (s, n)
  | _ => (s_, 0)
theorem S_gInside {sg : Seg} (h : St w0 (sg :: E) w) {b bf : Nat} {G : AGate} (hg : GtS b bf G sg) {rev : ByteArray} {k : Sl × Sl × Unit → PT}
    (hk : ∀ v1 v2 s1 s2 sg' w', Rw eI T_int 1 v1 (gWait G rev) s1 → Rw eI T_int 1 v2 (gWith G.all rev) s2 → GtS b bf G sg' → St w0 (s1 :: s2 :: sg' :: E) w' → k (v1, v2, ()) w') :
    L.call Pr n_gate_Gate_Inside [.pointer (some ⟨b, 0, none⟩), .string rev] (.tup [.one .slice, .one .slice]) k w := by
  have ok := hg.1
  have hfew := ok.few
  refine call_of (C_gate_Gate_Inside _ _) ?_
  unfold F_gate_Gate_Inside
  obtain ⟨rA, rL, c, sA, sL, Q, hr, h⟩ := gt_open hg h
  ((try dsimp only [setN, List.cons_append, List.nil_append] at h); repeat (first | refine nn ?_ | (refine dr h ?_; clear h; (try clear w); intro w h) | refine ldC h ?_ | refine laC h ?_ | refine ckC h ?_ | (refine stC h ?_; clear h; (try clear w); intro w h; (try dsimp only [putN, setN] at h)) | rw [add_add]))
  have h := fr2_ h
  have h : St w0 (sA :: [] :: gtB b bf rA rL c G.room G.pat :: [Cl c T_int [I G.room]] :: sL :: (Q.map LnE.sg).flatten :: E) w := h.eq (by simp)
  refine mapRange (kv := KI) (vv := vReq) unI (fun _ => rfl) unReq (fun _ => rfl) und_req (lk := .int .i64) (ev := .agg [.str, .int .i64]) (fun x => x) (fun _ => rfl) (fun x : ByteArray × Int => (x.1, x.2, ())) (fun _ => rfl) hr.all h
    (fun seen y F => ∃ v sv, y = (v, ()) ∧ Rw eI T_int 1 v ((seen.filter fun p => decide (p.2 = (rev, (1 : Int)))).map (·.1)) sv ∧ F = sv :: gtB b bf rA rL c G.room G.pat :: [Cl c T_int [I G.room]] :: sL :: (Q.map LnE.sg).flatten :: E)
    (y0 := (⟨none, 0, 0⟩, ())) ⟨_, [], rfl, Rw.nil, rfl⟩ ?_ ?_
  · rintro seen id x y F X w again hsl hmem hnew ⟨v, sv, rfl, hv, rfl⟩ h hN
    have hfl := List.length_filter_le (fun p : Int × (ByteArray × Int) => decide (p.2 = (rev, 1))) seen
    have h : St w0 (sA :: sv :: (gtB b bf rA rL c G.room G.pat :: [Cl c T_int [I G.room]] :: sL :: (Q.map LnE.sg).flatten :: E ++ X)) w := h
    refine nw h ?_; clear h; (try clear w); intro b16 w h
    ((try dsimp only [setN, List.cons_append, List.nil_append] at h); repeat (first | refine nn ?_ | (refine dr h ?_; clear h; (try clear w); intro w h) | refine ldC h ?_ | refine laC h ?_ | refine ckC h ?_ | (refine stC h ?_; clear h; (try clear w); intro w h; (try dsimp only [putN, setN] at h)) | rw [add_add]))
    unfold L.chkSem
    refine ⟨eq_req x (rev, 1) w, ?_⟩
    refine it (fun hc => ?_) (fun hc => ?_)
    · have hc : x = (rev, 1) := (sameReq_iff x (rev, 1)).1 hc
      refine nw h ?_; clear h; (try clear w); intro b18 w h
      refine Rw.app (l := (seen.filter fun p => decide (p.2 = (rev, (1 : Int)))).map (·.1)) encI elI h 2 rfl hv id rfl (by rw [List.length_map]; omega) (by rw [List.length_map]; omega) fun v' sv' w hv' h => ?_
      have h : St w0 ([Cl b16 T_gate_request [.string x.1, I x.2]] :: sA :: sv' :: (gtB b bf rA rL c G.room G.pat :: [Cl c T_int [I G.room]] :: sL :: (Q.map LnE.sg).flatten :: E ++ X)) w := h
      refine hN (v', ()) _ w ⟨v', sv', rfl, ?_, rfl⟩ (dl0_ h)
      rw [List.filter_append, List.map_append]
      simpa [hc] using hv'
    · have hc : ¬ x = (rev, 1) := fun e => by
        have : sameReq x (rev, 1) = true := (sameReq_iff _ _).2 e
        unfold sameReq at this; rw [this] at hc; cases hc
      refine hN (v, ()) _ w ⟨v, sv, rfl, ?_, rfl⟩ (dl0_ h)
      rw [List.filter_append, List.map_append]
      simpa [hc] using hv
  · rintro seen y F w hp ⟨v, sv, rfl, hv, rfl⟩ h
    have hfl := List.length_filter_le (fun p : Int × (ByteArray × Int) => decide (p.2 = (rev, 1))) seen
    rw [hp.length_eq] at hfl
    (try dsimp only)
    refine S_SortI h 1 rfl hv (by rw [List.length_map]; omega) fun sv w hv h => ?_
    have e1 : isort ((seen.filter fun p => decide (p.2 = (rev, (1 : Int)))).map (·.1)) = gWith G.all rev := isort_eq ((hp.filter _).map _)
    rw [e1] at hv
    have h : St w0 (sA :: sv :: gtB b bf rA rL c G.room G.pat :: [Cl c T_int [I G.room]] :: sL :: (Q.map LnE.sg).flatten :: E) w := h
    have hgl : (gWith G.all rev).length < 1000000000 := by
      rw [← e1, isort_len, List.length_map]; omega
    have fin : ∀ {v1 : Sl} {s1 : Seg} {w}, Rw eI T_int 1 v1 (gWait G rev) s1 → St w0 (s1 :: sA :: sv :: gtB b bf rA rL c G.room G.pat :: [Cl c T_int [I G.room]] :: sL :: (Q.map LnE.sg).flatten :: E) w →
        L.call Pr n_slices_Clone_int_int [.slice v.a v.len v.cap] (.one (.one .slice)) (fun x14 w' => ∃ z, Value.tuple #[.slice v1.a v1.len v1.cap, .slice x14.a x14.len x14.cap] = RT.val (.tup [.one .slice, .one .slice]) z ∧ k z w') w := by
      intro v1 s1 w h1 h
      refine S_cloneI h (Rw.rd encI h 2 rfl hv) (by omega) (fun h0 => Rw.nil_of encI hv h0) fun v2 s2 w h2 _ h => ⟨(v1, v2, ()), rfl, ?_⟩
      have h := dl3_ h
      have h := fr6_ (fr6_ (fr4_ (fr6_ (fr6_ (fr1_ h)))))
      obtain ⟨sg', hg', h⟩ := gt_close ok hr h
      have h := fr2_ (fr2_ h)
      exact hk v1 v2 s1 s2 sg' w h1 h2 hg' h
    refine jd ?_
    ((try dsimp only [setN, List.cons_append, List.nil_append] at h); repeat (first | refine nn ?_ | (refine dr h ?_; clear h; (try clear w); intro w h) | refine ldC h ?_ | refine laC h ?_ | refine ckC h ?_ | (refine stC h ?_; clear h; (try clear w); intro w h; (try dsimp only [putN, setN] at h)) | rw [add_add]))
    refine MpS.get2 mkS' und_lns zln (fun x : Option Addr => x) (fun _ => rfl) h 4 rfl hr.lns ?_
    (try dsimp only)
    have e2 := lfind_kp (Q := Q) (rev := rev)
    have e3 := lfind_ka (Q := Q) (rev := rev)
    rw [← hr.abs] at e3
    cases hf : lfind LnE.k Q rev with
    | none =>
      rw [hf] at e2 e3
      simp only [Option.map_none] at e2 e3
      rw [e2]
      refine itF rfl ?_
      refine fin (v1 := ⟨none, 0, 0⟩) (s1 := []) ?_ h.nil
      unfold gWait lineOf; rw [e3]; exact Rw.nil
    | some x =>
      rw [hf] at e2 e3
      simp only [Option.map_some] at e2 e3
      rw [e2]
      refine itT rfl ?_
      obtain ⟨A, B, rfl, hx⟩ := lfind_at hf
      have hlx := hr.each x (by simp)
      have hlen := lineOf_len ok rev
      have hhi := ok.hi
      have elo : lineOf G.lines rev = x.l := by unfold lineOf; rw [e3]; rfl
      rw [elo] at hlen
      have h := fr5_ h
      have h := h.pick
      refine S_All h 0 rfl hlx (by omega) fun v1 s1 w h1 h => ?_
      have h : St w0 (s1 :: x.sg :: ((A ++ B).map LnE.sg).flatten :: sA :: sv :: gtB b bf rA rL c G.room G.pat :: [Cl c T_int [I G.room]] :: sL :: E) w := h
      have h := fr2_ (fr2_ h)
      have h : St w0 (LnE.sg x :: ((A ++ B).map LnE.sg).flatten :: s1 :: sA :: sv :: gtB b bf rA rL c G.room G.pat :: [Cl c T_int [I G.room]] :: sL :: E) w := h
      have h := h.place
      have h := fr6_ (fr6_ (fr6_ (fr6_ (fr6_ (fr6_ h)))))
      refine fin (v1 := v1) ?_ h
      unfold gWait; rw [elo]; exact h1
theorem S_gBusy {sg : Seg} (h : St w0 (sg :: E) w) {b bf : Nat} {G : AGate} (hg : GtS b bf G sg) {rev : ByteArray} {k : Int → PT}
    (hk : ∀ sg' w', GtS b bf G sg' → St w0 (sg' :: E) w' → k (((gWait G rev).length : Int) + (gWith G.all rev).length) w') :
    L.call Pr n_gate_Gate_Busy [.pointer (some ⟨b, 0, none⟩), .string rev] (.one (.one (.int .i64))) k w := by
  have ok := hg.1
  refine call_of (C_gate_Gate_Busy _ _) ?_
  unfold F_gate_Gate_Busy
  refine S_gInside h hg fun v1 v2 s1 s2 sg' w h1 h2 hg' h => ?_
  have e1 := Rw.len encI h1
  have e2 := Rw.len encI h2
  have hlen := lineOf_len ok rev
  have hhi := ok.hi
  have hfew := ok.few
  have h3 : (gWait G rev).length = (lineOf G.lines rev).length := List.length_map ..
  have h4 : (gWith G.all rev).length ≤ G.all.length := by unfold gWith; rw [isort_len, List.length_map]; exact List.length_filter_le ..
  refine ⟨_, rfl, ?_⟩
  (try dsimp only)
  rw [e1, e2, wr (by omega) (by omega)]
  exact hk sg' w hg' (dl0_ (dl0_ h))
end Go.Proofs.YtkebppklbobjcaaGreatDoor
namespace Go.Proofs.YtkebppklbobjcaaGreatDoor
open Go.Dm
theorem semR_of {P : Program} {r : RT} {s : Sem Value} {k : r.T → PT} {w : World} (x : r.T) (h : s.run P w = .ok (r.val x) w) (hk : k x w) : L.semR P r s k w := ⟨x, h, hk⟩
attribute [local irreducible] L.load L.store L.chk L.new L.nonnil L.guard L.ite L.draw L.idx L.sem L.semR L.semU L.chkSem L.next L.call L.callV L.join L.alts L.loop L.begin L.endRound L.range
variable {w0 w : World} {E : List Seg}
theorem ta_int (n : Int) (w : World) : (Instr.typeAssert (.iface T_int (I n)) T_interface T_string true).run Pr w = .ok (.tuple #[.string s_, .bool false]) w := by
  have hz := zstr w
  have hz : (zeroValue T_string).run Pr w = .ok (.string s_) w := hz
  simp only [Instr.typeAssert]
  rw [Sem.run_bind, run_underlying und_str]
  simp only [Result.andThen_ok]
  rw [if_neg (by decide)]
  simp only [if_true]
  rw [Sem.run_bind, hz]
  rfl
def lineB (word : ByteArray) (l : List ByteArray) : ByteArray := joinB (word :: l)
theorem lineB_le {word : ByteArray} {l : List ByteArray} (h : ∀ x ∈ word :: l, x.size ≤ 100000000) (hl : l.length ≤ 1000) : (lineB word l).size < 1000000000000 := by
  have := joinB_le 100000000 (word :: l) h
  unfold lineB
  simp only [List.length_cons] at this
  have e : (l.length + 1) * (100000000 + 1) ≤ 1001 * (100000000 + 1) := Nat.mul_le_mul_right _ (by omega)
  omega
theorem decDig_lt : ∀ (k : Nat) (g : Nat), g < 10 ^ (k + 1) → (Lib.decDigits g).length ≤ k + 1
  | 0, g, h => by rw [Lib.decDigits_one (by simpa using h)]; simp
  | k + 1, g, h => by
    by_cases h1 : g < 10
    · rw [Lib.decDigits_one h1]; simp
    · rw [Lib.decDigits, dif_neg h1, List.length_append]
      have := decDig_lt k (g / 10) (by rw [Nat.div_lt_iff_lt_mul (by decide)]; rw [Nat.pow_succ] at h; exact h)
      simp only [List.length_singleton]
      omega
theorem decD_19 {x : Int} (h0 : 0 ≤ x) (h1 : x ≤ 9000000000000000000) : (decD x.toNat).size ≤ 100 := by
  have := decDig_lt 18 x.toNat (by have : (10 : Nat) ^ (18 + 1) = 10000000000000000000 := by decide
                                   omega)
  have e : (decD x.toNat).size = (Lib.decDigits x.toNat).length := by rw [← size_list, data_decD]
  omega
theorem S_lineS (h : St w0 E w) {word : ByteArray} {v : Sl} {l : List ByteArray} (r : RdE w0 E eS v l) (hl : l.length ≤ 1000) (hs : ∀ x ∈ word :: l, x.size ≤ 100000000) {k : ByteArray → PT} (hk : ∀ w', St w0 E w' → k (lineB word l) w') :
    L.call Pr n_system_line_string [.string word, SlV v] (.one (.one .str)) k w := by
  refine call_of (C_system_line_string _ v) ?_
  unfold F_system_line_string
  have hlen := Rd.len (r w h)
  refine nw h ?_; clear h; (try clear w); intro b1 w h
  refine loop_of (fun q y w => ∃ (j : Nat) (s1 : Seg), @Eq Int y.2.1 j ∧ q + j = l.length ∧ Rw eS T_string 1 y.1 (word :: l.take j) s1 ∧ St w0 (s1 :: E) w) l.length ⟨0, _, rfl, rfl, Rw.lit b1 [word] encS rfl rfl (by decide), h⟩ ?_
  clear h; (try clear w)
  rintro q ⟨vo, y, ⟨⟩⟩ w ⟨j, s1, hy, hq, r1, h⟩ again hag
  (try dsimp only)
  simp only at hy r1
  subst hy
  refine it (fun hb => ?_) (fun hb => ?_) <;> (try simp only [decide_eq_true_eq, decide_eq_false_iff_not, beq_iff_eq, bne_iff_ne, beq_eq_false_iff_ne, bne_eq_false_iff_eq, Bool.not_eq_true', Bool.not_eq_false', ne_eq, Bool.not_eq_true, Bool.not_eq_false] at hb)
  · have hj : j < l.length := by omega
    have hx : l[j]? = some l[j] := List.getElem?_eq_getElem hj
    have et : l.take (j + 1) = l.take j ++ [l[j]] := by rw [List.take_succ, hx]; rfl
    have rr := r w (dl0_ h)
    generalize l[j] = x at hx et
    refine jd ?_
    refine rr.ix encS (by omega) (by simpa using hj) fun a ha => ?_
    refine rr.ld0 encS ha (by simpa using hx) rfl rfl ?_
    refine itT rfl ?_
    refine nw h ?_; clear h; (try clear w); intro b8 w h
    refine Rw.app encS elS h 0 rfl r1 x rfl (by simp; omega) (by simp; omega) fun v' s1' w r1' h => ?_
    refine hag (q - 1) _ w (by omega) ⟨j + 1, s1', ?_, by omega, by rw [et]; exact r1', h⟩
    show IntKind.wrap .i64 _ = _
    rw [wr (by omega) (by omega)]; omega
  · have e : l.take j = l := List.take_of_length_le (by omega)
    rw [e] at r1
    refine S_JoinB h 0 rfl r1 (by simp; omega) (lineB_le hs hl) fun w h => ⟨_, rfl, hk w (dl0_ h)⟩
theorem S_lineI [bTab w0] (h : St w0 E w) {word : ByteArray} {v : Sl} {l : List Int} (r : RdE w0 E eI v l) (hl : l.length ≤ 1000) (hw : word.size ≤ 100000000) (hs : ∀ x ∈ l, 0 ≤ x ∧ x ≤ 9000000000000000000) {k : ByteArray → PT} (hk : ∀ w', St w0 E w' → k (lineB word (l.map fun x => decD x.toNat)) w') :
    L.call Pr n_system_line_int [.string word, SlV v] (.one (.one .str)) k w := by
  refine call_of (C_system_line_int _ v) ?_
  unfold F_system_line_int
  have hlen := Rd.len (r w h)
  let f : Int → ByteArray := fun x => decD x.toNat
  refine nw h ?_; clear h; (try clear w); intro b1 w h
  refine loop_of (fun q y w => ∃ (j : Nat) (s1 : Seg), @Eq Int y.2.1 j ∧ q + j = l.length ∧ Rw eS T_string 1 y.1 (word :: (l.take j).map f) s1 ∧ St w0 (s1 :: E) w) l.length ⟨0, _, rfl, rfl, Rw.lit b1 [word] encS rfl rfl (by decide), h⟩ ?_
  clear h; (try clear w)
  rintro q ⟨vo, y, ⟨⟩⟩ w ⟨j, s1, hy, hq, r1, h⟩ again hag
  (try dsimp only)
  simp only at hy r1
  subst hy
  refine it (fun hb => ?_) (fun hb => ?_) <;> (try simp only [decide_eq_true_eq, decide_eq_false_iff_not, beq_iff_eq, bne_iff_ne, beq_eq_false_iff_ne, bne_eq_false_iff_eq, Bool.not_eq_true', Bool.not_eq_false', ne_eq, Bool.not_eq_true, Bool.not_eq_false] at hb)
  · have hj : j < l.length := by omega
    have hx : l[j]? = some l[j] := List.getElem?_eq_getElem hj
    have et : (l.take (j + 1)).map f = (l.take j).map f ++ [f l[j]] := by rw [List.take_succ, hx, List.map_append]; rfl
    have hxs := hs l[j] (List.getElem_mem hj)
    have rr := r w (dl0_ h)
    generalize l[j] = x at hx et hxs
    refine jd ?_
    refine rr.ix encI (by omega) (by simpa using hj) fun a ha => ?_
    refine rr.ld0 encI ha (by simpa using hx) rfl rfl ?_
    refine semR_of (s_, false, ()) (ta_int x w) ?_
    refine itF rfl (itT rfl ?_)
    refine S_ItoaT h hxs.1 (by omega) fun w h => ?_
    refine nw h ?_; clear h; (try clear w); intro b8 w h
    refine Rw.app encS elS h 0 rfl r1 (f x) rfl (by simp; omega) (by simp; omega) fun v' s1' w r1' h => ?_
    refine hag (q - 1) _ w (by omega) ⟨j + 1, s1', ?_, by omega, by rw [et]; exact r1', h⟩
    show IntKind.wrap .i64 _ = _
    rw [wr (by omega) (by omega)]; omega
  · have e : l.take j = l := List.take_of_length_le (by omega)
    rw [e] at r1
    refine S_JoinB h 0 rfl r1 (by simp; omega) (lineB_le (fun x hx => ?_) (by simpa using hl)) fun w h => ⟨_, rfl, hk w (dl0_ h)⟩
    rcases List.mem_cons.1 hx with rfl | hx
    · exact hw
    · obtain ⟨y, hy, rfl⟩ := List.mem_map.1 hx
      have := decD_19 (hs y hy).1 (hs y hy).2
      show (decD y.toNat).size ≤ _
      omega
end Go.Proofs.YtkebppklbobjcaaGreatDoor
namespace Go.Proofs.YtkebppklbobjcaaGreatDoor
open Go.Dm
attribute [local irreducible] L.load L.store L.chk L.new L.nonnil L.guard L.ite L.draw L.idx L.sem L.semR L.semU L.chkSem L.next L.call L.callV L.join L.alts L.loop L.begin L.endRound L.range
variable {w0 w : World} {E : List Seg}
def errB (e : Int) : ByteArray :=
  if e = 0 then s_ok else if e = 1 then s_name else if e = 2 then s_arg else if e = 3 then s_long else if e = 4 then s_sum else if e = 5 then s_twice else if e = 6 then s_none else if e ≤ 6 then s_error
  else if e = 7 then s_stale else if e = 8 then s_full else if e = 9 then s_state else if e = 10 then s_cut else if e = 11 then s_more else if e = 12 then s_kind else s_error
theorem ite_size {c : Prop} [Decidable c] {a b : ByteArray} {n : Nat} (h1 : a.size ≤ n) (h2 : b.size ≤ n) : (if c then a else b).size ≤ n := by split <;> assumption
theorem errB_le (e : Int) : (errB e).size ≤ 100 := by
  unfold errB
  repeat' (first | (show ByteArray.size _ ≤ _; decide) | apply ite_size)
theorem S_errno {e : Int} {k : ByteArray → PT} (hk : k (errB e) w) : L.call Pr n_api_Errno_Error [I e] (.one (.one .str)) k w := by
  refine call_of (C_api_Errno_Error e) ?_
  unfold F_api_Errno_Error
  unfold errB at hk
  refine it (fun h1 => ?_) (fun h1 => ?_)
  · have h1 : e ≤ 6 := by simpa using h1
    refine call_of (C_api_early e) ?_
    unfold F_api_early
    repeat' (first | refine it (fun hc => ?_) (fun hc => ?_))
    all_goals refine ⟨_, rfl, _, rfl, ?_⟩
    all_goals exact eqk hk (by clear hk; simp_all)
  · have h1 : ¬ e ≤ 6 := by simpa using h1
    refine call_of (C_api_late e) ?_
    unfold F_api_late
    have n0 : ¬ e = 0 := by omega
    have n1 : ¬ e = 1 := by omega
    have n2 : ¬ e = 2 := by omega
    have n3 : ¬ e = 3 := by omega
    have n4 : ¬ e = 4 := by omega
    have n5 : ¬ e = 5 := by omega
    have n6 : ¬ e = 6 := by omega
    rw [if_neg n0, if_neg n1, if_neg n2, if_neg n3, if_neg n4, if_neg n5, if_neg n6, if_neg h1] at hk
    repeat' (first | refine it (fun hc => ?_) (fun hc => ?_))
    all_goals refine ⟨_, rfl, _, rfl, ?_⟩
    all_goals exact eqk hk (by clear hk; simp_all)
theorem lineS1 {b : Nat} {x word : ByteArray} (h : St w0 ([Cl b T_string [.string x]] :: E) w) (h1 : word.size ≤ 100000000) (h2 : x.size ≤ 100000000) {k : ByteArray → PT} (hk : ∀ w', St w0 E w' → k (lineB word [x]) w') :
    L.call Pr n_system_line_string [.string word, .slice (some ⟨b, 0, none⟩) 1 1] (.one (.one .str)) k w :=
  S_lineS (v := ⟨some ⟨b, 0, none⟩, 1, 1⟩) (l := [x]) h (Rw.re encS 0 rfl (Rw.lit b [x] encS rfl rfl (by decide))) (by simp) (fun y hy => by
    rcases List.mem_cons.1 hy with rfl | hy
    · exact h1
    · rw [List.mem_singleton.1 hy]; exact h2) fun w h => hk w (dl0_ h)
theorem lineI1 [bTab w0] {b : Nat} {x : Int} {word : ByteArray} (h : St w0 ([Cl b T_int [I x]] :: E) w) (h1 : word.size ≤ 100000000) (h0 : 0 ≤ x) (h2 : x ≤ 9000000000000000000) {k : ByteArray → PT} (hk : ∀ w', St w0 E w' → k (lineB word [decD x.toNat]) w') :
    L.call Pr n_system_line_int [.string word, .slice (some ⟨b, 0, none⟩) 1 1] (.one (.one .str)) k w :=
  S_lineI (v := ⟨some ⟨b, 0, none⟩, 1, 1⟩) (l := [x]) h (Rw.re encI 0 rfl (Rw.lit b [x] encI rfl rfl (by decide))) (by simp) h1 (fun y hy => by rw [List.mem_singleton.1 hy]; exact ⟨h0, h2⟩) fun w h => hk w (dl0_ h)
theorem lineI2 [bTab w0] {b : Nat} {x y : Int} {word : ByteArray} (h : St w0 ([Cl b T_int [I x, I y]] :: E) w) (h1 : word.size ≤ 100000000) (h0 : 0 ≤ x ∧ x ≤ 9000000000000000000) (h2 : 0 ≤ y ∧ y ≤ 9000000000000000000) {k : ByteArray → PT} (hk : ∀ w', St w0 E w' → k (lineB word [decD x.toNat, decD y.toNat]) w') :
    L.call Pr n_system_line_int [.string word, .slice (some ⟨b, 0, none⟩) 2 2] (.one (.one .str)) k w :=
  S_lineI (v := ⟨some ⟨b, 0, none⟩, 2, 2⟩) (l := [x, y]) h (Rw.re encI 0 rfl (Rw.lit b [x, y] encI rfl rfl (by decide))) (by simp) h1 (fun z hz => by
    rcases List.mem_cons.1 hz with rfl | hz
    · exact h0
    · rw [List.mem_singleton.1 hz]; exact h2) fun w h => hk w (dl0_ h)
def refusedB (e : Int) : List ByteArray := [lineB s_refused [errB e]]
theorem S_refused (h : St w0 E w) {e : Int} {k : Sl → PT} (hk : ∀ v s' w', Rw eS T_string 1 v (refusedB e) s' → St w0 (s' :: E) w' → k v w') : L.call Pr n_system_refused [I e] (.one (.one .slice)) k w := by
  refine call_of (C_system_refused e) ?_
  unfold F_system_refused
  refine S_errno ?_
  refine nw h ?_; clear h; (try clear w); intro b2 w h
  refine lineS1 h (by decide) (by have := errB_le e; omega) fun w h => ?_
  refine nw h ?_; clear h; (try clear w); intro b4 w h
  exact ⟨⟨some ⟨b4, 0, none⟩, 1, 1⟩, rfl, hk _ _ w (Rw.lit b4 [_] encS rfl rfl (by decide)) h⟩
theorem lineB1_le {word x : ByteArray} : (lineB word [x]).size = word.size + 1 + x.size := by
  unfold lineB
  rw [joinB_cons, joinB_one, ByteArray.size_append, ByteArray.size_append]
  rfl
def putB (word name : ByteArray) (ver no : Int) : List ByteArray := if no = 0 then [lineB (lineB word [name]) [decD ver.toNat]] else refusedB no
theorem S_put [bTab w0] (h : St w0 E w) {word name : ByteArray} {ver no : Int} (h1 : word.size ≤ 1000) (h2 : name.size ≤ 1000000) (h3 : 0 ≤ ver ∧ ver ≤ 9000000000000000000) {k : Sl → PT} (hk : ∀ v s' w', Rw eS T_string 1 v (putB word name ver no) s' → St w0 (s' :: E) w' → k v w') :
    L.call Pr n_system_put [.string word, .string name, I ver, I no] (.one (.one .slice)) k w := by
  refine call_of (C_system_put _ _ _ _) ?_
  unfold F_system_put
  unfold putB at hk
  refine it (fun hc => ?_) (fun hc => ?_)
  · have hc : ¬ no = 0 := by simpa using hc
    rw [if_neg hc] at hk
    exact S_refused h fun v s w r h => ⟨v, rfl, hk v s w r h⟩
  · have hc : no = 0 := by simpa using hc
    rw [if_pos hc] at hk
    refine nw h ?_; clear h; (try clear w); intro b2 w h
    refine lineS1 h (by omega) (by omega) fun w h => ?_
    refine nw h ?_; clear h; (try clear w); intro b4 w h
    refine lineI1 h (by rw [lineB1_le]; omega) h3.1 h3.2 fun w h => ?_
    refine nw h ?_; clear h; (try clear w); intro b6 w h
    exact ⟨⟨some ⟨b6, 0, none⟩, 1, 1⟩, rfl, hk _ _ w (Rw.lit b6 [_] encS rfl rfl (by decide)) h⟩
def fateB (f : Fate) : ByteArray :=
  if f.2.1 = 1 then lineB s_sent [decD (@id Int f.1).toNat, decD (@id Int f.2.2.1).toNat] else if f.2.1 = 2 then lineB s_waits [decD (@id Int f.1).toNat] else if f.2.1 = 3 then lineB s_done [decD (@id Int f.1).toNat]
  else lineB (lineB s_refused [decD (@id Int f.1).toNat]) [f.2.2.2.1]
structure Fate.Ok (f : Fate) : Prop where
  id : 0 ≤ @id Int f.1 ∧ @id Int f.1 ≤ 9000000000000000000
  pod : 0 ≤ @_root_.id Int f.2.2.1 ∧ @_root_.id Int f.2.2.1 ≤ 9000000000000000000
  why : f.2.2.2.1.size ≤ 1000
theorem S_fate [bTab w0] (h : St w0 E w) {f : Fate} (ok : f.Ok) {k : ByteArray → PT} (hk : ∀ w', St w0 E w' → k (fateB f) w') : L.call Pr n_system_fate [.agg f.cells.toArray] (.one (.one .str)) k w := by
  obtain ⟨fi, fw, fp, fy, ⟨⟩⟩ := f
  obtain ⟨o1, o2, o3⟩ := ok
  simp only [id] at o1 o2
  refine call_of (C_system_fate (fi, fw, fp, fy, ())) ?_
  unfold F_system_fate
  unfold fateB at hk
  refine nw h ?_; clear h; (try clear w); intro b1 w h
  ((try dsimp only [setN, List.cons_append, List.nil_append] at h); repeat (first | refine nn ?_ | (refine dr h ?_; clear h; (try clear w); intro w h) | refine ldC h ?_ | refine laC h ?_ | refine ckC h ?_ | (refine stC h ?_; clear h; (try clear w); intro w h; (try dsimp only [putN, setN] at h)) | rw [add_add]))
  refine it (fun h1 => ?_) (fun h1 => ?_)
  · rw [if_pos (by simpa using h1)] at hk
    ((try dsimp only [setN, List.cons_append, List.nil_append] at h); repeat (first | refine nn ?_ | (refine dr h ?_; clear h; (try clear w); intro w h) | refine ldC h ?_ | refine laC h ?_ | refine ckC h ?_ | (refine stC h ?_; clear h; (try clear w); intro w h; (try dsimp only [putN, setN] at h)) | rw [add_add]))
    refine nw h ?_; clear h; (try clear w); intro b5 w h
    exact lineI2 h (by decide) o1 o2 fun w h => ⟨_, rfl, hk w (dl0_ h)⟩
  rw [if_neg (by simpa using h1)] at hk
  refine it (fun h2 => ?_) (fun h2 => ?_)
  · rw [if_pos (by simpa using h2)] at hk
    ((try dsimp only [setN, List.cons_append, List.nil_append] at h); repeat (first | refine nn ?_ | (refine dr h ?_; clear h; (try clear w); intro w h) | refine ldC h ?_ | refine laC h ?_ | refine ckC h ?_ | (refine stC h ?_; clear h; (try clear w); intro w h; (try dsimp only [putN, setN] at h)) | rw [add_add]))
    refine nw h ?_; clear h; (try clear w); intro b5 w h
    exact lineI1 h (by decide) o1.1 o1.2 fun w h => ⟨_, rfl, hk w (dl0_ h)⟩
  rw [if_neg (by simpa using h2)] at hk
  refine it (fun h3 => ?_) (fun h3 => ?_)
  · rw [if_pos (by simpa using h3)] at hk
    ((try dsimp only [setN, List.cons_append, List.nil_append] at h); repeat (first | refine nn ?_ | (refine dr h ?_; clear h; (try clear w); intro w h) | refine ldC h ?_ | refine laC h ?_ | refine ckC h ?_ | (refine stC h ?_; clear h; (try clear w); intro w h; (try dsimp only [putN, setN] at h)) | rw [add_add]))
    refine nw h ?_; clear h; (try clear w); intro b5 w h
    exact lineI1 h (by decide) o1.1 o1.2 fun w h => ⟨_, rfl, hk w (dl0_ h)⟩
  rw [if_neg (by simpa using h3)] at hk
  have hd := decD_19 o1.1 o1.2
  have hb : (lineB s_refused [decD (@id Int fi).toNat]).size ≤ 100000000 := by rw [lineB1_le]; have : s_refused.size = 7 := rfl; simp only [id]; omega
  dsimp only at o3
  refine jd ?_
  ((try dsimp only [setN, List.cons_append, List.nil_append] at h); repeat (first | refine nn ?_ | (refine dr h ?_; clear h; (try clear w); intro w h) | refine ldC h ?_ | refine laC h ?_ | refine ckC h ?_ | (refine stC h ?_; clear h; (try clear w); intro w h; (try dsimp only [putN, setN] at h)) | rw [add_add]))
  refine alts2 ?_ ?_
  · refine nw h ?_; clear h; (try clear w); intro b17 w h
    ((try dsimp only [setN, List.cons_append, List.nil_append] at h); repeat (first | refine nn ?_ | (refine dr h ?_; clear h; (try clear w); intro w h) | refine ldC h ?_ | refine laC h ?_ | refine ckC h ?_ | (refine stC h ?_; clear h; (try clear w); intro w h; (try dsimp only [putN, setN] at h)) | rw [add_add]))
    refine alts2 ?_ ?_
    · refine lineI1 h (by decide) o1.1 o1.2 fun w h => ?_
      ((try dsimp only [setN, List.cons_append, List.nil_append] at h); repeat (first | refine nn ?_ | (refine dr h ?_; clear h; (try clear w); intro w h) | refine ldC h ?_ | refine laC h ?_ | refine ckC h ?_ | (refine stC h ?_; clear h; (try clear w); intro w h; (try dsimp only [putN, setN] at h)) | rw [add_add]))
      refine nw h ?_; clear h; (try clear w); intro b19 w h
      ((try dsimp only [setN, List.cons_append, List.nil_append] at h); repeat (first | refine nn ?_ | (refine dr h ?_; clear h; (try clear w); intro w h) | refine ldC h ?_ | refine laC h ?_ | refine ckC h ?_ | (refine stC h ?_; clear h; (try clear w); intro w h; (try dsimp only [putN, setN] at h)) | rw [add_add]))
      exact lineS1 h hb (by omega) fun w h => ⟨_, rfl, hk w (dl0_ h)⟩
    · refine nw h ?_; clear h; (try clear w); intro b21 w h
      ((try dsimp only [setN, List.cons_append, List.nil_append] at h); repeat (first | refine nn ?_ | (refine dr h ?_; clear h; (try clear w); intro w h) | refine ldC h ?_ | refine laC h ?_ | refine ckC h ?_ | (refine stC h ?_; clear h; (try clear w); intro w h; (try dsimp only [putN, setN] at h)) | rw [add_add]))
      have h := fr1_ h
      refine lineI1 h (by decide) o1.1 o1.2 fun w h => ?_
      ((try dsimp only [setN, List.cons_append, List.nil_append] at h); repeat (first | refine nn ?_ | (refine dr h ?_; clear h; (try clear w); intro w h) | refine ldC h ?_ | refine laC h ?_ | refine ckC h ?_ | (refine stC h ?_; clear h; (try clear w); intro w h; (try dsimp only [putN, setN] at h)) | rw [add_add]))
      exact lineS1 h hb (by omega) fun w h => ⟨_, rfl, hk w (dl0_ h)⟩
  · refine nw h ?_; clear h; (try clear w); intro b24 w h
    ((try dsimp only [setN, List.cons_append, List.nil_append] at h); repeat (first | refine nn ?_ | (refine dr h ?_; clear h; (try clear w); intro w h) | refine ldC h ?_ | refine laC h ?_ | refine ckC h ?_ | (refine stC h ?_; clear h; (try clear w); intro w h; (try dsimp only [putN, setN] at h)) | rw [add_add]))
    refine nw h ?_; clear h; (try clear w); intro b25 w h
    ((try dsimp only [setN, List.cons_append, List.nil_append] at h); repeat (first | refine nn ?_ | (refine dr h ?_; clear h; (try clear w); intro w h) | refine ldC h ?_ | refine laC h ?_ | refine ckC h ?_ | (refine stC h ?_; clear h; (try clear w); intro w h; (try dsimp only [putN, setN] at h)) | rw [add_add]))
    refine lineI1 h (by decide) o1.1 o1.2 fun w h => ?_
    ((try dsimp only [setN, List.cons_append, List.nil_append] at h); repeat (first | refine nn ?_ | (refine dr h ?_; clear h; (try clear w); intro w h) | refine ldC h ?_ | refine laC h ?_ | refine ckC h ?_ | (refine stC h ?_; clear h; (try clear w); intro w h; (try dsimp only [putN, setN] at h)) | rw [add_add]))
    exact lineS1 h hb (by omega) fun w h => ⟨_, rfl, hk w (dl0_ h)⟩
end Go.Proofs.YtkebppklbobjcaaGreatDoor
