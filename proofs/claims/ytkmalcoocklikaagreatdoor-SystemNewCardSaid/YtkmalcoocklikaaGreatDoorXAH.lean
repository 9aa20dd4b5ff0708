/- What is proved on the way to a statement of the seat, pressed (text AH). No conditions beyond those its theorems state. -/
import Derived.Test.YtkmalcoocklikaaGreatDoorXAG
import Derived.Shelf.Strconv.Atoi
import Derived.Shelf.Strconv.Itoa3
import Derived.Shelf.Strings.LastIndex
import Derived.Lib.LaidTab
import Derived.Lib.Join
import Derived.Lib.ItoaNum
import Derived.Lib.ItoaMem
import Derived.Below
import Derived.Shelf.Strings.OnBuilder
import Derived.Shelf.Slices.CompactS
set_option linter.all false
namespace Go.Dm
theorem zB : (∀ (p : Prop) [Decidable p], (decide p = true) = p) ∧ (∀ (p : Prop) [Decidable p], (decide p = false) = ¬p) ∧ (∀ {α : Type} [BEq α] [LawfulBEq α] (a b : α), ((a == b) = true) = (a = b)) ∧ (∀ {α : Type} [BEq α] [LawfulBEq α] (a b : α), ((a != b) = true) = ¬(a = b)) ∧ (∀ {α : Type} [BEq α] [LawfulBEq α] (a b : α), ((a == b) = false) = ¬(a = b)) ∧ (∀ {α : Type} [BEq α] [LawfulBEq α] (a b : α), ((a != b) = false) = (a = b)) ∧
 (∀ b : Bool, ((!b) = true) = (b = false)) ∧ (∀ b : Bool, ((!b) = false) = (b = true)) ∧ (∀ b : Bool, (¬(b = true)) = (b = false)) ∧ (∀ b : Bool, (¬(b = false)) = (b = true)) ∧ (∀ {α : Type} (a b : α), (a ≠ b) = ¬(a = b)) := by
 refine ⟨?_, ?_, ?_, ?_, ?_, ?_, ?_, ?_, ?_, ?_, ?_⟩ <;> intros <;> simp
end Go.Dm
namespace Go.Proofs.YtkmalcoocklikaaGreatDoor
open Go.Dm
variable {w0 w : World} {E : List Seg}
abbrev I (n : Int) : Value := .int .i64 n
theorem wr {n : Int} (h1 : -9223372036854775808 ≤ n) (h2 : n < 9223372036854775808) : IntKind.wrap .i64 n = n := by rw [IntKind.wrap_i64]; omega
theorem elI : El Pr z1i z0g 1 8 (I 0) := zcW (by kernel_rfl) (by kernel_rfl) rfl (by decide)
def eI (n : Int) : List Value := [I n]
theorem encI : Enc eI 1 := ⟨fun _ => rfl, fun _ => rfl, by decide⟩
theorem z9t (p0 p1 : Int) (h : 0 < p1) : Int.tmod p0 p1 = if 0 ≤ p0 ∨ p1 ∣ p0 then p0 % p1 else p0 % p1 - p1 := by
 rw [Int.tmod_eq_emod]
 split
 ·simp
 ·omega
end Go.Proofs.YtkmalcoocklikaaGreatDoor
namespace Go.Proofs.YtkmalcoocklikaaGreatDoor
open Go.Dm
attribute [local irreducible] L.load L.store L.chk L.new L.nonnil L.guard L.ite L.draw L.idx L.sem L.semR L.semU L.chkSem L.next L.call L.callV L.join L.alts L.loop L.begin L.endRound L.range
variable {w0 w : World} {E : List Seg}
def letterB (b : UInt8) : Bool := decide (97 ≤ b.toNat ∧ b.toNat ≤ 122)
def signB (b : UInt8) : Bool := letterB b || decide (48 ≤ b.toNat ∧ b.toNat ≤ 57) || decide (b.toNat = 45)
def shortB (l : List UInt8) (most : Int) : Bool := l.all signB && (l.head?.map letterB).getD false && (match l.getLast? with | some b => decide (b.toNat ≠ 45) | none => false) && decide ((l.length : Int) ≤ most)
abbrev J (n : Int) : Value := .int .i32 n
theorem zaw {c : Int} {k : Bool → PT} (hk : k (decide (97 ≤ c ∧ c ≤ 122)) w) : L.call Pr z2C [J c] (.one (.one .bool)) k w := by
 refine z04 (z7s _) ?_
 unfold z4W
 refine it (fun h => ?_) (fun h => ?_) <;> (try simp only [zB] at h)
 ·refine ⟨_, rfl, ?_⟩
  have e : decide (97 ≤ c ∧ c ≤ 122) = decide (c ≤ 122) := by by_cases h2 : c ≤ 122 <;> simp [h2]; omega
  rw [e] at hk; exact hk
 ·refine ⟨false, rfl, ?_⟩
  have e : decide (97 ≤ c ∧ c ≤ 122) = false := decide_eq_false (by omega)
  rw [e] at hk; exact hk
theorem zdk {c : Int} {k : Bool → PT} (hk : k (decide (97 ≤ c ∧ c ≤ 122) || decide (48 ≤ c ∧ c ≤ 57) || decide (c = 45)) w) : L.call Pr z4l [J c] (.one (.one .bool)) k w := by
 refine z04 (z9o _) ?_
 unfold z6p
 refine zaw ?_
 refine it (fun h => ?_) (fun h => ?_) <;> (try simp only [zB] at h)
 ·refine ⟨true, rfl, ?_⟩
  rw [decide_eq_true h] at hk; exact hk
 ·rw [decide_eq_false h, Bool.false_or] at hk
  have e45 : (c == 45) = decide (c = 45) := by by_cases h : c = 45 <;> simp [h]
  refine it (fun h1 => ?_) (fun h1 => ?_) <;> (try simp only [zB] at h1)
  ·refine it (fun h2 => ?_) (fun h2 => ?_) <;> (try simp only [zB] at h2)
   ·refine ⟨true, rfl, ?_⟩
    rw [decide_eq_true ⟨by omega, h2⟩] at hk; exact hk
   ·refine ⟨_, rfl, ?_⟩
    rw [decide_eq_false (fun hh => h2 hh.2), Bool.false_or] at hk
    rw [e45]; exact hk
  ·refine ⟨_, rfl, ?_⟩
   rw [decide_eq_false (fun hh => by omega), Bool.false_or] at hk
   rw [e45]; exact hk
theorem zcl (b : UInt8) : (decide (97 ≤ (b.toNat : Int) ∧ (b.toNat : Int) ≤ 122) || decide (48 ≤ (b.toNat : Int) ∧ (b.toNat : Int) ≤ 57) || decide ((b.toNat : Int) = 45)) = signB b := by
 unfold signB letterB
 congr 1
 ·congr 1 <;> (apply decide_eq_decide.2; omega)
 ·apply decide_eq_decide.2; omega
theorem ze9 {s : ByteArray} {pos : Nat} (hp : pos < s.size) : s.data.toList[pos]? = some (s[pos]'hp) := by
 have : pos < s.data.toList.length := by simpa using hp
 rw [List.getElem?_eq_getElem this]
 simp [ByteArray.getElem_eq_getElem_data]
theorem zc4 (h : St w0 E w) (und : Pr.underlying z05 = some .string) {s : ByteArray} {most : Int} {k : Bool → PT} (hk : ∀ w', St w0 E w' → k (shortB s.data.toList most) w') : L.call Pr z2T [.string s, I most] (.one (.one .bool)) k w := by
 refine z04 (z8p _ _) ?_
 unfold z5K
 refine rangeStr und h fun r w h => ?_
 have hsz : s.data.toList.length = s.size := by simp
 generalize hl : s.data.toList = l at hk hsz
 refine z2h (fun q y w => ∃ pos : Nat, y = ((if pos = 0 then (45 : Int) else ((l[pos - 1]?).map fun b => (b.toNat : Int)).getD 0), ()) ∧ q + pos = s.size ∧ (l.take pos).all signB = true ∧ (0 < pos → (l.head?.map letterB).getD false = true) ∧ St w0 (ItS r s pos :: E) w) s.size
  ⟨0, rfl, rfl, rfl, by simp, h⟩ ?_
 clear h; (try clear w)
 rintro q y w ⟨pos, rfl, hq, hall, hhd, h⟩ again hag
 dsimp only
 have no : ∀ {w}, shortB l most = false → St w0 E w → ∃ x, Value.bool false = RT.val (.one (.one .bool)) x ∧ k x w := fun hs h => ⟨false, rfl, by have := hk _ h; rw [hs] at this; exact this⟩
 refine nextStr h 0 rfl (fun he => ?_) (fun hp c d w' ha hh hd h => ?_)
 ·have hpos : pos = l.length := by omega
  subst hpos
  rw [List.take_length] at hall
  replace h := dl0_ h
  cases hgl : l.getLast? with
  | none =>
   have : l = [] := List.getLast?_eq_none_iff.1 hgl
   have hs : shortB l most = false := by rw [this]; rfl
   rw [if_pos (by rw [this]; rfl)]
   exact itF rfl (no hs h)
  | some b =>
   have hne : l ≠ [] := fun e => by subst e; cases hgl
   have hlen : l.length ≠ 0 := fun e => hne (List.eq_nil_of_length_eq_zero e)
   have hx : l[l.length - 1]? = some b := by rw [← List.getLast?_eq_getElem?]; exact hgl
   rw [if_neg hlen, hx]
   have hsb : shortB l most = (decide (b.toNat ≠ 45) && decide ((l.length : Int) ≤ most)) := by
    unfold shortB; rw [hall, hhd (by omega), hgl]; simp
   simp only [Option.map_some, Option.getD_some]
   refine it (fun h45 => ?_) (fun h45 => ?_) <;> (try simp only [zB] at h45)
   ·refine ⟨_, rfl, ?_⟩
    have := hk _ h
    rw [hsb, decide_eq_true (show b.toNat ≠ 45 by omega), Bool.true_and, hsz] at this
    exact this
   ·refine no ?_ h
    rw [hsb, decide_eq_false (show ¬ b.toNat ≠ 45 by omega)]; rfl
 ·have hx : l[pos]? = some (s[pos]'hp) := by rw [← hl]; exact ze9 hp
  generalize s[pos]'hp = b at hx ha hh
  have hmem : b ∈ l := List.mem_of_getElem? hx
  have hno : signB b = false → shortB l most = false := fun hs => by
   unfold shortB
   have : l.all signB = false := by
    rw [List.all_eq_false]; exact ⟨b, hmem, by simp [hs]⟩
   rw [this]; rfl
  by_cases hb : b.toNat < 128
  ·obtain ⟨rfl, rfl⟩ := ha hb
   have h : St w0 (ItS r s (pos + 1) :: E) w' := h
   refine z58 (fun z w => (0 < pos + 1 → (l.head?.map letterB).getD false = true) ∧ signB b = true ∧ St w0 (ItS r s (pos + 1) :: E) w) (fun k5 hk5 => ?_) (fun z w ⟨hhd, hs, h⟩ => ?_)
   ·refine zdk ?_
    rw [zcl]
    refine it (fun hs => ?_) (fun hs => ?_)
    ·exact no (hno (by simpa using hs)) (dl0_ h)
    ·have hs : signB b = true := by simpa using hs
     refine it (fun h0 => ?_) (fun h0 => ?_)
     ·have h0 : pos = 0 := by simpa using h0
      subst h0
      have hhead : l.head? = some b := by rw [List.head?_eq_getElem?]; exact hx
      have el : decide (97 ≤ (b.toNat : Int) ∧ (b.toNat : Int) ≤ 122) = letterB b := by unfold letterB; apply decide_eq_decide.2; omega
      refine zaw ?_
      rw [el]
      refine it (fun hlt => ?_) (fun hlt => ?_)
      ·refine no ?_ (dl0_ h)
       have hlt : letterB b = false := by simpa using hlt
       unfold shortB; rw [hhead]; simp [hlt]
      ·have hlt : letterB b = true := by simpa using hlt
       exact hk5 _ _ ⟨fun _ => by rw [hhead]; exact hlt, hs, h⟩
     ·have h0 : pos ≠ 0 := by simpa using h0
      exact hk5 _ _ ⟨fun _ => hhd (by omega), hs, h⟩
   ·refine hag (q - 1) _ w (by omega) ⟨pos + 1, ?_, by omega, ?_, hhd, h⟩
    ·rw [if_neg (by omega), Nat.add_sub_cancel, hx]; rfl
    ·rw [List.take_add_one, hx, List.all_append, hall]; simp [hs]
  ·have hc := hh (by omega)
   have hs : signB b = false := by
    unfold signB letterB
    rw [decide_eq_false (show ¬ (97 ≤ b.toNat ∧ b.toNat ≤ 122) by omega), decide_eq_false (show ¬ (48 ≤ b.toNat ∧ b.toNat ≤ 57) by omega), decide_eq_false (show ¬ b.toNat = 45 by omega)]; rfl
   refine z58 (fun z w => False) (fun k5 hk5 => ?_) (fun z w hf => hf.elim)
   refine zdk ?_
   rw [decide_eq_false (show ¬ (97 ≤ c ∧ c ≤ 122) by omega), decide_eq_false (show ¬ (48 ≤ c ∧ c ≤ 57) by omega), decide_eq_false (show ¬ c = 45 by omega)]
   exact itT rfl (no (hno hs) (dl0_ h))
theorem z9h (h : St w0 E w) (und : Pr.underlying z05 = some .string) {s : ByteArray} {k : Bool → PT} (hk : ∀ w', St w0 E w' → k (shortB s.data.toList 16) w') : L.call Pr z1G [.string s] (.one (.one .bool)) k w := by
 refine z04 (z9p _) ?_
 unfold z6q
 exact zc4 h und fun w h => ⟨_, rfl, hk w h⟩
end Go.Proofs.YtkmalcoocklikaaGreatDoor

namespace Go.Proofs
open Go.Shelf
def Tryz.lays172_ren : Go.Shelf.Ren := ⟨fun | 172 => 202 | 244 => 255 | 245 => 256 | 247 => 286 | 279 => 287 | 280 => 288 | 281 => 289 | 282 => 290 | 287 => 307 | 316 => 308 | 171 => 73 | 205 => 309 | 321 => 318 | 322 => 319 | 243 => 134 | 246 => 207 | 283 => 258 | 284 => 259 | 285 => 260 | 286 => 261 | 129 => 246 | 317 => 291 | 318 => 292 | 319 => 293 | 320 => 294 | 337 => 310 | 338 => 311 | n => n, fun | 9 => 9 | 3 => 3 | 75 => 245 | 76 => 246 | 4 => 4 | 5 => 5 | 167 => 432 | 37 => 85 | 0 => 0 | 85 => 433 | 2 => 2 | 168 => 435 | 53 => 398 | 175 => 450 | 46 => 331 | 210 => 454 | 127 => 366 | 145 => 463 | 143 => 461 | 21 => 21 | 171 => 404 | 173 => 406 | 212 => 440 | 51 => 396 | 20 => 20 | 213 => 441 | 232 => 464 | 233 => 465 | 80 => 73 | n => n, fun | 15 => 2 | 16 => 3 | 17 => 1 | 18 => 4 | 19 => 5 | n => n⟩
theorem Tryz.lays172 : Go.Proofs.Lays.n172 Tryz.prog Tryz.lays172_ren := {
 mixed := by kernel_rfl
 f129 := Tryz.func246.trans (congrArg some (by kernel_rfl))
 f171 := Tryz.func73.trans (congrArg some (by kernel_rfl))
 f172 := Tryz.func202.trans (congrArg some (by kernel_rfl))
 f205 := Tryz.func309.trans (congrArg some (by kernel_rfl))
 f243 := Tryz.func134.trans (congrArg some (by kernel_rfl))
 f244 := Tryz.func255.trans (congrArg some (by kernel_rfl))
 f245 := Tryz.func256.trans (congrArg some (by kernel_rfl))
 f246 := Tryz.func207.trans (congrArg some (by kernel_rfl))
 f247 := Tryz.func286.trans (congrArg some (by kernel_rfl))
 f279 := Tryz.func287.trans (congrArg some (by kernel_rfl))
 f280 := Tryz.func288.trans (congrArg some (by kernel_rfl))
 f281 := Tryz.func289.trans (congrArg some (by kernel_rfl))
 f282 := Tryz.func290.trans (congrArg some (by kernel_rfl))
 f283 := Tryz.func258.trans (congrArg some (by kernel_rfl))
 f284 := Tryz.func259.trans (congrArg some (by kernel_rfl))
 f285 := Tryz.func260.trans (congrArg some (by kernel_rfl))
 f286 := Tryz.func261.trans (congrArg some (by kernel_rfl))
 f287 := Tryz.func307.trans (congrArg some (by kernel_rfl))
 f316 := Tryz.func308.trans (congrArg some (by kernel_rfl))
 f317 := Tryz.func291.trans (congrArg some (by kernel_rfl))
 f318 := Tryz.func292.trans (congrArg some (by kernel_rfl))
 f319 := Tryz.func293.trans (congrArg some (by kernel_rfl))
 f320 := Tryz.func294.trans (congrArg some (by kernel_rfl))
 f321 := Tryz.func318.trans (congrArg some (by kernel_rfl))
 f322 := Tryz.func319.trans (congrArg some (by kernel_rfl))
 f337 := Tryz.func310.trans (congrArg some (by kernel_rfl))
 f338 := Tryz.func311.trans (congrArg some (by kernel_rfl))
 t0 := Tryz.underlying0
 a0 := Tryz.isAgg0
 z0 := Tryz.sizeOf0
 v0 := Tryz.zeroValue0
 t2 := Tryz.underlying2
 a2 := Tryz.isAgg2
 z2 := Tryz.sizeOf2
 v2 := Tryz.zeroValue2
 t3 := Tryz.underlying3
 a3 := Tryz.isAgg3
 z3 := Tryz.sizeOf3
 v3 := Tryz.zeroValue3
 t4 := Tryz.underlying4
 a4 := Tryz.isAgg4
 z4 := Tryz.sizeOf4
 v4 := Tryz.zeroValue4
 t5 := Tryz.underlying5
 a5 := Tryz.isAgg5
 z5 := Tryz.sizeOf5
 v5 := Tryz.zeroValue5
 t9 := Tryz.underlying9
 a9 := Tryz.isAgg9
 z9 := Tryz.sizeOf9
 v9 := Tryz.zeroValue9
 t20 := Tryz.underlying20
 a20 := Tryz.isAgg20
 z20 := Tryz.sizeOf20
 v20 := Tryz.zeroValue20
 t21 := Tryz.underlying21
 a21 := Tryz.isAgg21
 z21 := Tryz.sizeOf21
 v21 := Tryz.zeroValue21
 t37 := Tryz.underlying85
 a37 := Tryz.isAgg85
 z37 := Tryz.sizeOf85
 v37 := Tryz.zeroValue85
 t46 := Tryz.underlying331
 a46 := Tryz.isAgg331
 z46 := Tryz.sizeOf331
 v46 := Tryz.zeroValue331
 t51 := Tryz.underlying396
 a51 := Tryz.isAgg396
 z51 := Tryz.sizeOf396
 v51 := Tryz.zeroValue396
 t53 := Tryz.underlying398
 a53 := Tryz.isAgg398
 z53 := Tryz.sizeOf398
 v53 := Tryz.zeroValue398
 t75 := Tryz.underlying245
 a75 := Tryz.isAgg245
 z75 := Tryz.sizeOf245
 v75 := Tryz.zeroValue245
 t76 := Tryz.underlying246
 a76 := Tryz.isAgg246
 z76 := Tryz.sizeOf246
 v76 := Tryz.zeroValue246
 t85 := Tryz.underlying433
 a85 := Tryz.isAgg433
 z85 := Tryz.sizeOf433
 v85 := Tryz.zeroValue433
 t127 := Tryz.underlying366
 a127 := Tryz.isAgg366
 z127 := Tryz.sizeOf366
 v127 := Tryz.zeroValue366
 t143 := Tryz.underlying461
 a143 := Tryz.isAgg461
 z143 := Tryz.sizeOf461
 v143 := Tryz.zeroValue461
 t145 := Tryz.underlying463
 a145 := Tryz.isAgg463
 z145 := Tryz.sizeOf463
 v145 := Tryz.zeroValue463
 t167 := Tryz.underlying432
 a167 := Tryz.isAgg432
 z167 := Tryz.sizeOf432
 v167 := Tryz.zeroValue432
 t168 := Tryz.underlying435
 a168 := Tryz.isAgg435
 z168 := Tryz.sizeOf435
 v168 := Tryz.zeroValue435
 t171 := Tryz.underlying404
 a171 := Tryz.isAgg404
 z171 := Tryz.sizeOf404
 v171 := Tryz.zeroValue404
 t173 := Tryz.underlying406
 a173 := Tryz.isAgg406
 z173 := Tryz.sizeOf406
 v173 := Tryz.zeroValue406
 t175 := Tryz.underlying450
 a175 := Tryz.isAgg450
 z175 := Tryz.sizeOf450
 v175 := Tryz.zeroValue450
 t210 := Tryz.underlying454
 a210 := Tryz.isAgg454
 z210 := Tryz.sizeOf454
 v210 := Tryz.zeroValue454
 t212 := Tryz.underlying440
 a212 := Tryz.isAgg440
 z212 := Tryz.sizeOf440
 v212 := Tryz.zeroValue440
 t213 := Tryz.underlying441
 a213 := Tryz.isAgg441
 z213 := Tryz.sizeOf441
 t232 := Tryz.underlying464
 a232 := Tryz.isAgg464
 z232 := Tryz.sizeOf464
 v232 := Tryz.zeroValue464
 t233 := Tryz.underlying465
 a233 := Tryz.isAgg465
 z233 := Tryz.sizeOf465
 v233 := Tryz.zeroValue465
 g15 := by kernel_rfl
 g16 := by kernel_rfl
 g17 := by kernel_rfl
 g18 := by kernel_rfl
 g19 := by kernel_rfl }
open Go.RowKit in
theorem Tryz.strconv_Atoi (s : ByteArray) (n : Int) (hl : s.size ≤ 18) (h : Lib.atoi s.data.toList = some n) (w : World) :
  Calls Tryz.prog 202 #[.string s] w fun e w' => e = .returned (.tuple #[.int .i64 n, .nilIface]) ∧ ∃ t, w' = Lib.bytesWorld w 5 t := Any.strconv_Atoi Tryz.lays172 s n hl h w
def Tryz.lays171_ren : Go.Shelf.Ren := ⟨fun | 171 => 73 | 243 => 134 | 246 => 207 | 283 => 258 | 284 => 259 | 285 => 260 | 286 => 261 | 129 => 246 | 317 => 291 | 318 => 292 | 319 => 293 | 320 => 294 | 337 => 310 | 338 => 311 | n => n, fun | 3 => 3 | 9 => 9 | 2 => 2 | 4 => 4 | 171 => 404 | 0 => 0 | 53 => 398 | 37 => 85 | 5 => 5 | 173 => 406 | 212 => 440 | 51 => 396 | 20 => 20 | 213 => 441 | 46 => 331 | 232 => 464 | 233 => 465 | n => n, fun | 17 => 1 | 18 => 4 | 19 => 5 | n => n⟩
theorem Tryz.lays171 : Go.Proofs.Lays.n171 Tryz.prog Tryz.lays171_ren := {
 mixed := by kernel_rfl
 f129 := Tryz.func246.trans (congrArg some (by kernel_rfl))
 f171 := Tryz.func73.trans (congrArg some (by kernel_rfl))
 f243 := Tryz.func134.trans (congrArg some (by kernel_rfl))
 f246 := Tryz.func207.trans (congrArg some (by kernel_rfl))
 f283 := Tryz.func258.trans (congrArg some (by kernel_rfl))
 f284 := Tryz.func259.trans (congrArg some (by kernel_rfl))
 f285 := Tryz.func260.trans (congrArg some (by kernel_rfl))
 f286 := Tryz.func261.trans (congrArg some (by kernel_rfl))
 f317 := Tryz.func291.trans (congrArg some (by kernel_rfl))
 f318 := Tryz.func292.trans (congrArg some (by kernel_rfl))
 f319 := Tryz.func293.trans (congrArg some (by kernel_rfl))
 f320 := Tryz.func294.trans (congrArg some (by kernel_rfl))
 f337 := Tryz.func310.trans (congrArg some (by kernel_rfl))
 f338 := Tryz.func311.trans (congrArg some (by kernel_rfl))
 t0 := Tryz.underlying0
 a0 := Tryz.isAgg0
 z0 := Tryz.sizeOf0
 v0 := Tryz.zeroValue0
 t2 := Tryz.underlying2
 a2 := Tryz.isAgg2
 z2 := Tryz.sizeOf2
 v2 := Tryz.zeroValue2
 t3 := Tryz.underlying3
 a3 := Tryz.isAgg3
 z3 := Tryz.sizeOf3
 v3 := Tryz.zeroValue3
 t4 := Tryz.underlying4
 a4 := Tryz.isAgg4
 z4 := Tryz.sizeOf4
 v4 := Tryz.zeroValue4
 t5 := Tryz.underlying5
 a5 := Tryz.isAgg5
 z5 := Tryz.sizeOf5
 v5 := Tryz.zeroValue5
 t9 := Tryz.underlying9
 a9 := Tryz.isAgg9
 z9 := Tryz.sizeOf9
 v9 := Tryz.zeroValue9
 t20 := Tryz.underlying20
 a20 := Tryz.isAgg20
 z20 := Tryz.sizeOf20
 v20 := Tryz.zeroValue20
 t37 := Tryz.underlying85
 a37 := Tryz.isAgg85
 z37 := Tryz.sizeOf85
 v37 := Tryz.zeroValue85
 t46 := Tryz.underlying331
 a46 := Tryz.isAgg331
 z46 := Tryz.sizeOf331
 v46 := Tryz.zeroValue331
 t51 := Tryz.underlying396
 a51 := Tryz.isAgg396
 z51 := Tryz.sizeOf396
 v51 := Tryz.zeroValue396
 t53 := Tryz.underlying398
 a53 := Tryz.isAgg398
 z53 := Tryz.sizeOf398
 v53 := Tryz.zeroValue398
 t171 := Tryz.underlying404
 a171 := Tryz.isAgg404
 z171 := Tryz.sizeOf404
 v171 := Tryz.zeroValue404
 t173 := Tryz.underlying406
 a173 := Tryz.isAgg406
 z173 := Tryz.sizeOf406
 v173 := Tryz.zeroValue406
 t212 := Tryz.underlying440
 a212 := Tryz.isAgg440
 z212 := Tryz.sizeOf440
 v212 := Tryz.zeroValue440
 t213 := Tryz.underlying441
 a213 := Tryz.isAgg441
 z213 := Tryz.sizeOf441
 t232 := Tryz.underlying464
 a232 := Tryz.isAgg464
 z232 := Tryz.sizeOf464
 v232 := Tryz.zeroValue464
 t233 := Tryz.underlying465
 a233 := Tryz.isAgg465
 z233 := Tryz.sizeOf465
 v233 := Tryz.zeroValue465
 g17 := by kernel_rfl
 g18 := by kernel_rfl
 g19 := by kernel_rfl }
open Go.RowKit Go.Sort Go.Lib in
theorem Tryz.strconv_Itoa_small (i : Nat) (hi : i < 100) (w : World) :
  Calls Tryz.prog 73 #[.int .i64 i] w fun e w' => e = .returned (.string ⟨(Lib.decDigits i).toArray⟩) ∧ w' = w := Any.strconv_Itoa_small Tryz.lays171 i hi w
def Tryz.lays148_ren : Go.Shelf.Ren := ⟨fun | 148 => 201 | 222 => 253 | 223 => 254 | 269 => 285 | n => n, fun | 9 => 9 | 3 => 3 | 4 => 4 | 5 => 5 | 146 => 430 | 51 => 396 | 46 => 331 | n => n, fun | n => n⟩
theorem Tryz.lays148 : Go.Proofs.Lays.n148 Tryz.prog Tryz.lays148_ren := {
 mixed := by kernel_rfl
 f148 := Tryz.func201.trans (congrArg some (by kernel_rfl))
 f222 := Tryz.func253.trans (congrArg some (by kernel_rfl))
 f223 := Tryz.func254.trans (congrArg some (by kernel_rfl))
 f269 := Tryz.func285.trans (congrArg some (by kernel_rfl))
 t3 := Tryz.underlying3
 a3 := Tryz.isAgg3
 z3 := Tryz.sizeOf3
 v3 := Tryz.zeroValue3
 t4 := Tryz.underlying4
 a4 := Tryz.isAgg4
 z4 := Tryz.sizeOf4
 v4 := Tryz.zeroValue4
 t5 := Tryz.underlying5
 a5 := Tryz.isAgg5
 z5 := Tryz.sizeOf5
 v5 := Tryz.zeroValue5
 t9 := Tryz.underlying9
 a9 := Tryz.isAgg9
 z9 := Tryz.sizeOf9
 v9 := Tryz.zeroValue9
 t46 := Tryz.underlying331
 a46 := Tryz.isAgg331
 z46 := Tryz.sizeOf331
 v46 := Tryz.zeroValue331
 t51 := Tryz.underlying396
 a51 := Tryz.isAgg396
 z51 := Tryz.sizeOf396
 v51 := Tryz.zeroValue396
 t146 := Tryz.underlying430
 a146 := Tryz.isAgg430
 z146 := Tryz.sizeOf430
 v146 := Tryz.zeroValue430 }
open Go.RowKit Go.Lib in
theorem Tryz.strings_LastIndex_one (s sub : ByteArray) (h1 : sub.size = 1) (hs : s.size < 4611686018427387904) (w : World) :
  Calls Tryz.prog 201 #[.string s, .string sub] w fun e w' => e = .returned (.int .i64 (Lib.lastIndexByte s ((sub[0]'(by omega)).toNat : Int))) ∧ w' = w := Any.strings_LastIndex_one Tryz.lays148 s sub h1 hs w
end Go.Proofs
namespace Go.Proofs.YtkmalcoocklikaaGreatDoor
open Go.Dm
theorem z4G {P : Program} {f : FuncId} {args : List Value} {r : RT} {k : r.T → PT} {w : World} {R : Ending → World → Prop} (hc : Calls P f args.toArray w R) (hk : ∀ e w', R e w' → ∃ x, e = .returned (r.val x) ∧ k x w') : L.call P f args r k w := Calls.mono hc hk
theorem _root_.Go.Dm.St.bytes {w0 w : World} {E : List Seg} (h : St w0 E w) (e : TypeId) (s : ByteArray) : St w0 E (Lib.bytesWorld w e s) := by
 refine ⟨by rw [Lib.bytesWorld_size]; have := h.size; omega, fun b hb => ?_, h.os, h.out, h.tape, fun x hx => ?_, h.nd, fun _ _ _ _ => rfl⟩
 ·rw [Lib.bytesWorld_at_old w e s b (Nat.lt_of_lt_of_le hb h.size)]; exact h.old b hb
 ·have := h.own x hx
  rw [Lib.bytesWorld_at_old w e s _ (Array.getElem?_eq_some_iff.1 this.2).1]; exact this
attribute [local irreducible] L.load L.store L.chk L.new L.nonnil L.guard L.ite L.draw L.idx L.sem L.semR L.semU L.chkSem L.next L.call L.callV L.join L.alts L.loop L.begin L.endRound L.range
variable {w0 w : World} {E : List Seg}
def decB (g : Nat) : ByteArray := ⟨(Lib.decDigits g).toArray⟩
def revB (c : ByteArray) (g : Nat) : ByteArray := (c ++ s__) ++ decB g
theorem z4q (c : ByteArray) (g : Nat) : (revB c g).data.toList = c.data.toList ++ 45 :: Lib.decDigits g := by
 simp [revB, decB, s__, ByteArray.data_append]
theorem z9d {a b : ByteArray} (h : a.data.toList = b.data.toList) : a = b := ByteArray.ext (Array.toList_inj.1 h)
theorem data_extract (a : ByteArray) (i j : Nat) : (a.extract i j).data.toList = (a.data.toList.drop i).take (j - i) := by
 simp [ByteArray.data_extract, Array.toList_extract, List.extract]
theorem z1z (a : ByteArray) : a.data.toList.length = a.size := by simp
def decL (g : Nat) : List UInt8 := if g < 10 then [UInt8.ofNat (48 + g)] else [UInt8.ofNat (48 + g / 10), UInt8.ofNat (48 + g % 10)]
theorem zeu {g : Nat} (h : g < 100) : Lib.decDigits g = decL g := by
 unfold decL
 split
 ·rename_i h1; exact Lib.decDigits_one h1
 ·rename_i h1; exact Lib.decDigits_two h1 h
theorem zbT : ∀ g : Fin 100, (∀ b ∈ decL g, 48 ≤ b.toNat ∧ b.toNat ≤ 57) ∧ (decL g).length ≤ 2 ∧ 1 ≤ (decL g).length ∧ Lib.atoi (decL g) = some (g : Int) := by decide
theorem zbS {g : Nat} (h : g < 100) : (∀ b ∈ Lib.decDigits g, 48 ≤ b.toNat ∧ b.toNat ≤ 57) ∧ (Lib.decDigits g).length ≤ 2 ∧ 1 ≤ (Lib.decDigits g).length ∧ Lib.atoi (Lib.decDigits g) = some (g : Int) := by
 rw [zeu h]; exact zbT ⟨g, h⟩
theorem zcI (c : ByteArray) {g : Nat} (hg : g < 100) : Lib.lastIndexByte (revB c g) 45 = c.size := by
 have hd := z4q c g
 have hc := z1z c
 have hs := z1z (revB c g)
 rw [hd] at hs
 simp only [List.length_append, List.length_cons] at hs
 have at0 : (revB c g).data[c.size]! = 45 := by
  rw [← Array.getElem!_toList, hd, ← hc]
  simp
 have far : ∀ i, c.size < i → i < (revB c g).size → ((revB c g).data[i]!).toNat ≠ 45 := by
  intro i h1 h2
  rw [← Array.getElem!_toList, hd]
  have hmem : (c.data.toList ++ 45 :: Lib.decDigits g)[i]! ∈ Lib.decDigits g := by
   rw [List.getElem!_eq_getElem?_getD, List.getElem?_append_right (by omega), hc]
   obtain ⟨m, hm⟩ : ∃ m, i - c.size = m + 1 := ⟨i - c.size - 1, by omega⟩
   rw [hm, List.getElem?_cons_succ, List.getElem?_eq_getElem (by omega)]
   simp
  have := (zbS hg).1 _ hmem
  omega
 rcases Lib.lastIdx_spec (revB c g) 45 (revB c g).size with ⟨-, h⟩ | ⟨i, h1, h2, h3, h4⟩
 ·exact absurd (by rw [at0]; rfl) (h c.size (by omega))
 ·show Lib.lastIdx _ _ _ = _
  rw [h2]
  have : ¬ c.size < i := fun hlt => far i hlt h1 (by omega)
  have : ¬ i < c.size := fun hlt => h4 c.size hlt (by omega) (by rw [at0]; rfl)
  omega
theorem zbt (c : ByteArray) (g : Nat) : (revB c g).extract 0 c.size = c := z9d (by rw [data_extract, z4q, ← z1z c]; simp)
theorem zcY (l d : List UInt8) : (l ++ 45 :: d).drop (l.length + 1) = d := by
 rw [show l ++ 45 :: d = (l ++ [45]) ++ d by simp]
 exact List.drop_left' (by simp)
theorem zcp (c : ByteArray) (g : Nat) : (revB c g).extract (c.size + 1) (revB c g).size = decB g := z9d (by
 rw [data_extract, z4q, ← z1z c, zcY, ← z1z (revB c g), z4q]
 refine List.take_of_length_le ?_
 simp only [List.length_append, List.length_cons]
 omega)
theorem z6H (c : ByteArray) {g : Nat} (hg : g < 100) : (revB c g).size ≤ c.size + 3 ∧ c.size + 2 ≤ (revB c g).size := by
 have hs := z1z (revB c g)
 rw [z4q] at hs
 simp only [List.length_append, List.length_cons, z1z] at hs
 have := zbS hg
 omega
theorem z7w {s : ByteArray} {m : Int} (h : shortB s.data.toList m = true) : (s.size : Int) ≤ m := by
 unfold shortB at h
 simp only [Bool.and_eq_true, decide_eq_true_eq, z1z] at h
 exact h.2
theorem z7c {s : ByteArray} (hs : s.size < 4611686018427387904) {k : Int → PT} (hk : k (Lib.lastIndexByte s 45) w) : L.call Pr z3a [.string s, .string s__] (.one (.one (.int .i64))) k w :=
 z4G (Tryz.strings_LastIndex_one s s__ rfl hs w) fun e w' ⟨he, hw⟩ => ⟨_, he, by subst hw; exact hk⟩
theorem zeI {g : Nat} (hg : g < 100) {k : ByteArray → PT} (hk : k (decB g) w) : L.call Pr z1W [I g] (.one (.one .str)) k w :=
 z4G (Tryz.strconv_Itoa_small g hg w) fun e w' ⟨he, hw⟩ => ⟨_, he, by subst hw; exact hk⟩
theorem zeJ (h : St w0 E w) {g : Nat} (hg : g < 100) {k : Int × Option (TypeId × Value) × Unit → PT} (hk : ∀ w', St w0 E w' → k ((g : Int), none, ()) w') : L.call Pr z4U [.string (decB g)] (.tup [.one (.int .i64), .one .iface]) k w := by
 have hf := zbS hg
 have hsz : (decB g).size ≤ 18 := by rw [← z1z]; simp only [decB]; omega
 refine z4G (Tryz.strconv_Atoi (decB g) g hsz (by simpa [decB] using hf.2.2.2) w) fun e w' ⟨he, t, hw⟩ => ⟨((g : Int), none, ()), he, hk w' ?_⟩
 subst hw
 exact h.bytes 5 t
theorem zeF (h : St w0 E w) (und : Pr.underlying z05 = some .string) {s : ByteArray} {k : Bool → PT} (hk : ∀ w', St w0 E w' → k (shortB s.data.toList 8) w') : L.call Pr z1e [.string s] (.one (.one .bool)) k w := by
 refine z04 (z9T _) ?_
 unfold z7f
 exact zc4 h und fun w h => ⟨_, rfl, hk w h⟩
theorem zeP (h : St w0 E w) (und : Pr.underlying z05 = some .string) {c : ByteArray} {g : Nat} (hc : shortB c.data.toList 16 = true) (h1 : 1 ≤ g) (hg : g < 100) {k : ByteArray → PT} (hk : ∀ w', St w0 E w' → k (revB c g) w') : L.call Pr z55 [.string c, I g] (.one (.one .str)) k w := by
 refine z04 (z9U _ _) ?_
 unfold z7g
 refine z9h h und fun w h => ?_
 rw [hc]
 have hs := z7w hc
 have hr := z6H c hg
 refine itF rfl (itF (decide_eq_false (by omega)) (itF (decide_eq_false (by omega)) ?_))
 refine gd ?_ ?_
 ·simp only [s__, maxI64]; show ((c.size + 1 : Nat) : Int) ≤ _; omega
 refine zeI hg ?_
 refine gd ?_ ⟨_, rfl, hk w h⟩
 have : ((c ++ s__).size + (decB g).size) = (revB c g).size := by unfold revB; rw [ByteArray.size_append (a := c ++ s__)]
 rw [this]
 simp only [maxI64]; omega
theorem z9Q (h : St w0 E w) (und : Pr.underlying z05 = some .string) {c : ByteArray} {g : Nat} (hc : shortB c.data.toList 16 = true) (h1 : 1 ≤ g) (hg : g < 100) {k : ByteArray × Int × Bool × Unit → PT} (hk : ∀ w', St w0 E w' → k (c, (g : Int), true, ()) w') :
  L.call Pr z1K [.string (revB c g)] (.tup [.one .str, .one (.int .i64), .one .bool]) k w := by
 refine z04 (z5O _) ?_
 unfold z3Y
 have hs := z7w hc
 have hr := z6H c hg
 refine z7c (by omega) ?_
 rw [zcI c hg]
 have e1 : IntKind.wrap .i64 ((c.size : Int) + 1) = ((c.size + 1 : Nat) : Int) := by rw [wr (by omega) (by omega)]; simp
 rw [e1]
 refine itF (decide_eq_false (by omega)) (gd (by omega) ?_)
 rw [Int.toNat_natCast, Int.toNat_natCast, zcp]
 refine zeJ h hg fun w h => itF rfl (gd (by omega) ?_)
 have e2 : (revB c g).extract (Int.toNat 0) (Int.toNat (c.size : Int)) = c := zbt c g
 rw [e2]
 refine zeP h und hc h1 hg fun w h => ?_
 refine itF (by rw [z44]; simp) (gd (by omega) ⟨(c, (g : Int), true, ()), rfl, hk w h⟩)
theorem zd3 {k : ByteArray × Int × Bool × Unit → PT} (hk : k (s_, 0, false, ()) w) : L.call Pr z1K [.string s_] (.tup [.one .str, .one (.int .i64), .one .bool]) k w := by
 refine z04 (z5O _) ?_
 unfold z3Y
 refine z7c (by decide) ?_
 exact itT rfl ⟨_, rfl, hk⟩
end Go.Proofs.YtkmalcoocklikaaGreatDoor

namespace Go.Proofs
open Go.Shelf
def Tryz.lays190_ren : Go.Shelf.Ren := ⟨fun | 190 => 251 | 125 => 185 | 258 => 284 | 128 => 245 | 129 => 246 | 302 => 298 | 303 => 299 | 304 => 300 | 305 => 301 | 306 => 302 | 307 => 303 | 308 => 304 | 309 => 305 | 310 => 306 | 333 => 314 | 329 => 277 | 330 => 278 | 334 => 315 | 335 => 316 | 336 => 317 | 344 => 321 | n => n, fun | 31 => 33 | 9 => 9 | 3 => 3 | 46 => 331 | 0 => 0 | 51 => 396 | 53 => 398 | 4 => 4 | 183 => 390 | 182 => 389 | 131 => 273 | 5 => 5 | 218 => 421 | 222 => 425 | 228 => 443 | 229 => 46 | n => n, fun | n => n⟩
theorem Tryz.lays190 : Go.Proofs.Lays.n190 Tryz.prog Tryz.lays190_ren := {
 mixed := by kernel_rfl
 f125 := Tryz.func185.trans (congrArg some (by kernel_rfl))
 f128 := Tryz.func245.trans (congrArg some (by kernel_rfl))
 f129 := Tryz.func246.trans (congrArg some (by kernel_rfl))
 f190 := Tryz.func251.trans (congrArg some (by kernel_rfl))
 f258 := Tryz.func284.trans (congrArg some (by kernel_rfl))
 f302 := Tryz.func298.trans (congrArg some (by kernel_rfl))
 f303 := Tryz.func299.trans (congrArg some (by kernel_rfl))
 f304 := Tryz.func300.trans (congrArg some (by kernel_rfl))
 f305 := Tryz.func301.trans (congrArg some (by kernel_rfl))
 f306 := Tryz.func302.trans (congrArg some (by kernel_rfl))
 f307 := Tryz.func303.trans (congrArg some (by kernel_rfl))
 f308 := Tryz.func304.trans (congrArg some (by kernel_rfl))
 f309 := Tryz.func305.trans (congrArg some (by kernel_rfl))
 f310 := Tryz.func306.trans (congrArg some (by kernel_rfl))
 f329 := Tryz.func277.trans (congrArg some (by kernel_rfl))
 f330 := Tryz.func278.trans (congrArg some (by kernel_rfl))
 f333 := Tryz.func314.trans (congrArg some (by kernel_rfl))
 f334 := Tryz.func315.trans (congrArg some (by kernel_rfl))
 f335 := Tryz.func316.trans (congrArg some (by kernel_rfl))
 f336 := Tryz.func317.trans (congrArg some (by kernel_rfl))
 f344 := Tryz.func321.trans (congrArg some (by kernel_rfl))
 t0 := Tryz.underlying0
 a0 := Tryz.isAgg0
 z0 := Tryz.sizeOf0
 v0 := Tryz.zeroValue0
 t3 := Tryz.underlying3
 a3 := Tryz.isAgg3
 z3 := Tryz.sizeOf3
 v3 := Tryz.zeroValue3
 t4 := Tryz.underlying4
 a4 := Tryz.isAgg4
 z4 := Tryz.sizeOf4
 v4 := Tryz.zeroValue4
 t5 := Tryz.underlying5
 a5 := Tryz.isAgg5
 z5 := Tryz.sizeOf5
 v5 := Tryz.zeroValue5
 t9 := Tryz.underlying9
 a9 := Tryz.isAgg9
 z9 := Tryz.sizeOf9
 v9 := Tryz.zeroValue9
 t31 := Tryz.underlying33
 a31 := Tryz.isAgg33
 z31 := Tryz.sizeOf33
 v31 := Tryz.zeroValue33
 t46 := Tryz.underlying331
 a46 := Tryz.isAgg331
 z46 := Tryz.sizeOf331
 v46 := Tryz.zeroValue331
 t51 := Tryz.underlying396
 a51 := Tryz.isAgg396
 z51 := Tryz.sizeOf396
 v51 := Tryz.zeroValue396
 t53 := Tryz.underlying398
 a53 := Tryz.isAgg398
 z53 := Tryz.sizeOf398
 v53 := Tryz.zeroValue398
 t131 := Tryz.underlying273
 a131 := Tryz.isAgg273
 z131 := Tryz.sizeOf273
 v131 := Tryz.zeroValue273
 t182 := Tryz.underlying389
 a182 := Tryz.isAgg389
 z182 := Tryz.sizeOf389
 v182 := Tryz.zeroValue389
 t183 := Tryz.underlying390
 a183 := Tryz.isAgg390
 z183 := Tryz.sizeOf390
 v183 := Tryz.zeroValue390
 t218 := Tryz.underlying421
 a218 := Tryz.isAgg421
 z218 := Tryz.sizeOf421
 v218 := Tryz.zeroValue421
 t222 := Tryz.underlying425
 a222 := Tryz.isAgg425
 z222 := Tryz.sizeOf425
 v222 := Tryz.zeroValue425
 t228 := Tryz.underlying443
 a228 := Tryz.isAgg443
 z228 := Tryz.sizeOf443
 v228 := Tryz.zeroValue443
 t229 := Tryz.underlying46
 a229 := Tryz.isAgg46
 z229 := Tryz.sizeOf46
 v229 := Tryz.zeroValue46 }
end Go.Proofs
namespace Go.Proofs.YtkmalcoocklikaaGreatDoor
open Go.Dm
attribute [local irreducible] L.load L.store L.chk L.new L.nonnil L.guard L.ite L.draw L.idx L.sem L.semR L.semU L.chkSem L.next L.call L.callV L.join L.alts L.loop L.begin L.endRound L.range
variable {w0 w : World} {E : List Seg}
def eS (x : ByteArray) : List Value := [.string x]
theorem encS : Enc eS 1 := ⟨fun _ => rfl, fun _ => rfl, by decide⟩
theorem elS : El Pr z0b z05 1 16 (.string s_) := zcW (by kernel_rfl) (by kernel_rfl) rfl (by decide)
abbrev bl (x : ByteArray) : List UInt8 := x.data.toList
def ble (a b : ByteArray) : Bool := decide (bl a ≤ bl b)
theorem z9e (a b c : ByteArray) (h1 : ble a b = true) (h2 : ble b c = true) : ble a c = true := by
 unfold ble at *; simp only [decide_eq_true_eq] at *; exact List.le_trans h1 h2
theorem z9f (a b : ByteArray) : (ble a b || ble b a) = true := by
 unfold ble; simp only [Bool.or_eq_true, decide_eq_true_eq]; exact List.le_total ..
theorem zcZ {a b : ByteArray} (h1 : ble a b = true) (h2 : ble b a = true) : a = b := by
 unfold ble at *; simp only [decide_eq_true_eq] at *; exact zbh (List.le_antisymm h1 h2)
def sins (x : ByteArray) : List ByteArray → List ByteArray
 | [] => [x]
 | y :: l => if ble x y = true then x :: y :: l else y :: sins x l
def ssort : List ByteArray → List ByteArray
 | [] => []
 | x :: l => sins x (ssort l)
theorem z6N (x : ByteArray) : ∀ l : List ByteArray, (sins x l).Perm (x :: l)
 | [] => .refl _
 | y :: l => by
  unfold sins
  split
  ·exact .refl _
  ·exact ((z6N x l).cons y).trans (.swap x y l)
theorem z3y : ∀ l : List ByteArray, (ssort l).Perm l
 | [] => .refl _
 | x :: l => (z6N x (ssort l)).trans ((z3y l).cons x)
theorem zbk (x : ByteArray) : ∀ {l : List ByteArray}, l.Pairwise (fun a b => ble a b = true) → (sins x l).Pairwise fun a b => ble a b = true
 | [], _ => List.pairwise_singleton ..
 | y :: l, h => by
  unfold sins
  split
  ·rename_i hxy
   refine List.Pairwise.cons (fun z hz => ?_) h
   rcases List.mem_cons.1 hz with rfl | hz
   ·exact hxy
   ·exact z9e _ _ _ hxy ((List.pairwise_cons.1 h).1 z hz)
  ·rename_i hxy
   have hyx : ble y x = true := by
    have := z9f x y
    simp only [Bool.or_eq_true] at this
    rcases this with h | h
    ·exact absurd h hxy
    ·exact h
   refine List.Pairwise.cons (fun z hz => ?_) (zbk x (List.pairwise_cons.1 h).2)
   rcases List.mem_cons.1 ((z6N x l).mem_iff.1 hz) with rfl | hz
   ·exact hyx
   ·exact (List.pairwise_cons.1 h).1 z hz
theorem z7W : ∀ l : List ByteArray, (ssort l).Pairwise fun a b => ble a b = true
 | [] => .nil
 | x :: l => zbk x (z7W l)
theorem z7X {l m : List ByteArray} (h : l.Perm m) (hm : m.Pairwise fun a b => ble a b = true) : ssort l = m :=
 List.Perm.eq_of_pairwise (fun a b _ _ h1 h2 => zcZ h1 h2) (z7W l) hm ((z3y l).trans h)
theorem zcj {l m : List ByteArray} (h : l.Perm m) : ssort l = ssort m := z7X (h.trans (z3y m).symm) (z7W m)
theorem z5m (l : List ByteArray) : (ssort l).length = l.length := (z3y l).length_eq
theorem zbi {l : List ByteArray} {x : ByteArray} : x ∈ ssort l ↔ x ∈ l := (z3y l).mem_iff
theorem z8I : ssort [] = [] := z7X (.refl _) .nil
def eL (x : List UInt8) : List Value := [Go.Proofs.encStr x]
theorem encL : Enc eL 1 := ⟨fun _ => rfl, fun _ => rfl, by decide⟩
theorem zel (l : List ByteArray) : fl eS l = fl eL (l.map bl) := by
 induction l with
 | nil => rfl
 | cons x l ih =>
  simp only [fl, List.flatMap_cons, List.map_cons] at *
  rw [ih]; rfl
theorem zck (l : List ByteArray) : (ssort l).map bl = (l.map bl).mergeSort fun x y => decide (x ≤ y) := by
 have e : l.mergeSort ble = ssort l := by
  refine (z7X (List.mergeSort_perm l ble).symm ?_).symm
  exact List.pairwise_mergeSort z9e z9f l
 rw [← e]
 exact List.map_mergeSort fun a _ b _ => rfl
theorem zdZ (h : St w0 E w) (i : Nat) {s : Seg} (hi : nth E i = some s) {v : Sl} {l : List ByteArray} (hr : Rw eS z05 1 v l s) (hn : l.length < 1000000000) {k : Unit → PT} (hk : ∀ s' w', Rw eS z05 1 v (ssort l) s' → St w0 (setN E i s') w' → k () w') :
  L.call Pr z1F [.slice v.a v.len v.cap] (.tup []) k w := by
 have hr : Rw eL z05 1 v (l.map bl) s := by unfold Rw at *; rwa [← zel]
 refine zbj (encv := Go.Proofs.encStr) (fun _ => rfl) encL ((ssort l).map bl) (by rw [List.length_map, List.length_map, z5m]) (fun g off cap w h1 h2 => ?_) (fun p cap w => Any.slices_Sort_string_none Tryz.lays190 p cap w) h i hi hr (fun s' w' hr' h => hk s' w' (by unfold Rw at *; rwa [zel]) h)
 have := Any.slices_Sort_string Tryz.lays190 g off cap (l.map bl) w h1 h2 (by rw [List.length_map]; omega)
 rw [zck]; exact this
theorem z9i {a1 a2 : Seg} {F : List Seg} {fv : FV} {keys : List ByteArray} (hY : YldM Pr w0 [a1, a2] fv.val keys Value.string) (h : St w0 (a1 :: a2 :: F) w) (hn : keys.length < 1000000000) {k : Sl → PT}
  (hk : ∀ seen v s w', seen.Perm keys → Rw eS z05 1 v seen s → St w0 (s :: a1 :: a2 :: F) w' → k v w') : L.call Pr z0H [.slice none 0 0, fv.val] (.one (.one .slice)) k w := by
 refine z04 (z2q ⟨none, 0, 0⟩ fv) ?_
 unfold z18
 refine nw h ?_; clear h; (try clear w); intro b1 w h
 have h := fr2_ (fr2_ h)
 have h : St w0 ([a1, a2] ++ [Cl b1 z0b [SlV ⟨none, 0, 0⟩]] :: [] :: F) w := h.eq (by simp)
 refine zbu (l := .str) (arg := fun x => x) (A := [a1, a2]) (keys := keys) hY h (fun seen G => ∃ v s, G = [Cl b1 z0b [SlV v]] :: s :: F ∧ Rw eS z05 1 v seen s) (fun j G => False) ⟨_, _, rfl, Rw.nil⟩ ?_ ?_ ?_
 ·rintro seen x G X w lv lp d R hm ⟨v, s, rfl, hr⟩ h hN hE
  have h : St w0 ([Rec lv lp .busy none] :: [DfM d] :: a1 :: a2 :: [Cl b1 z0b [SlV v]] :: s :: (F ++ X)) w := h
  (refine ldC h ?_)
  refine nw h ?_; clear h; (try clear w); intro b8 w h
  refine Rw.app encS elS h 5 rfl hr x rfl (by omega) (by omega) fun v' s' w hr' h => ?_
  (dsimp only [setN, List.cons_append, List.nil_append] at h; refine stC h ?_; clear h; (try clear w); intro w h; dsimp only [putN, setN] at h)
  exact hN _ w ⟨v', s', rfl, hr'⟩ h
 ·rintro d seen G w hp ⟨v, s, rfl, hr⟩ h
  have h : St w0 ([DfM d] :: a1 :: a2 :: [Cl b1 z0b [SlV v]] :: s :: F) w := h
  refine jumpN ?_
  (refine ldC h ?_)
  (first | refine um0_ h ?_ | refine um1_ h ?_ | refine um2_ h ?_ | refine um3_ h ?_ | refine um4_ h ?_ | refine um5_ h ?_ | refine um6_ h ?_ | refine um7_ h ?_ | refine um8_ h ?_ | refine um9_ h ?_ | refine zbb h ?_ | refine zba h ?_); clear h; (try clear w); intro w h
  refine ⟨v, rfl, hk seen v s w hp hr ?_⟩
  have h := fr3_ (fr1_ (fr1_ h))
  have h := dl3_ h
  exact h
 ·rintro d j G w hf; exact hf.elim
theorem z5F {a1 a2 : Seg} {F : List Seg} {fv : FV} {keys : List ByteArray} (hY : YldM Pr w0 [a1, a2] fv.val keys Value.string) (h : St w0 (a1 :: a2 :: F) w) (hn : keys.length < 1000000000) {k : Sl → PT}
  (hk : ∀ v s w', Rw eS z05 1 v (ssort keys) s → St w0 (s :: a2 :: F) w' → k v w') : L.call Pr z0I [fv.val] (.one (.one .slice)) k w := by
 refine z04 (z4f fv) ?_
 unfold z2t
 refine z04 (z3Z fv) ?_
 unfold z2l
 refine z9i hY h hn fun seen v s w hp hr h => ⟨v, rfl, ?_⟩
 refine zdZ h 0 rfl hr (by rw [hp.length_eq]; exact hn) fun s w hr h => ?_
 rw [zcj hp] at hr
 exact ⟨v, rfl, hk v s w hr (dl1_ h)⟩
theorem zax (h : St w0 E w) {v : Sl} {l : List ByteArray} (r : Rd w eS v l) (hn : l.length < 1000000000) (h0 : v.a = none → l = []) {k : Sl → PT}
  (hk : ∀ v' s' w', Rw eS z05 1 v' l s' → (v'.a = none ↔ v.a = none) → St w0 (s' :: E) w' → k v' w') : L.call Pr z0A [SlV v] (.one (.one .slice)) k w := by
 refine z04 (z2Y v) ?_
 unfold z1v
 exact z6K (K := fun v w' => ∃ x, v = RT.val (.one (.one .slice)) x ∧ k x w') encS elS h r (by omega) (by omega) h0 fun v' s' w' hr hi h => ⟨v', rfl, hk v' s' w' hr hi h⟩
theorem Rw.nil0 {α : Type} {enc : α → List Value} {e size : Nat} {v : Sl} {l : List α} {s : Seg} (hE : Enc enc size) (hr : Rw enc e size v l s) : v.a = none → l = [] := by
 intro h0
 have hl := Rw.len hE hr
 unfold Rw at hr
 generalize fl enc l = xs at hr
 cases hr with
 | nil => exact List.eq_nil_of_length_eq_zero hl.symm
 | mk => cases h0
def unS : Value → ByteArray
 | .string x => x
 | _ => s_
theorem z33 : Pr.underlying z05 = some .string := by kernel_rfl
theorem z3f (h : St w0 E w) {a b n : Int} {k : Bool → PT} (hk : ∀ w', St w0 E w' → k (decide (a ≤ n ∧ n ≤ b)) w') : L.call Pr z0o [.agg #[I a, I b], I n] (.one (.one .bool)) k w := by
 refine z04 (z4y (a, b, ()) n) ?_
 unfold z3k
 refine nw h ?_; clear h; (try clear w); intro b1 w h
 (dsimp only [setN, List.cons_append, List.nil_append] at h; refine ldC h ?_)
 refine it (fun h1 => ?_) (fun h1 => ?_) <;> (try simp only [zB] at h1)
 ·(refine ldC h ?_)
  refine ⟨_, rfl, ?_⟩
  have := hk w (dl0_ h)
  have e : decide (a ≤ n ∧ n ≤ b) = decide (n ≤ b) := decide_eq_decide.2 ⟨fun h => h.2, fun h => ⟨by omega, h⟩⟩
  rw [e] at this; exact this
 ·refine ⟨_, rfl, ?_⟩
  have := hk w (dl0_ h)
  rw [decide_eq_false (fun h => h1 (by omega))] at this; exact this
abbrev Cfg := HT [.str, .int .i64, .int .i64, .int .i64, .int .i64, .int .i64]
abbrev Cfg.cells (c : Cfg) : List Value := [.string c.1, I c.2.1, I c.2.2.1, I c.2.2.2.1, I c.2.2.2.2.1, I c.2.2.2.2.2.1]
def cfgNum (c : Cfg) : Bool := decide (0 ≤ c.2.1 ∧ c.2.1 ≤ 255) && (decide (1 ≤ c.2.2.1 ∧ c.2.2.1 ≤ 8) && (decide (1 ≤ c.2.2.2.2.1 ∧ c.2.2.2.2.1 ≤ 10) && (decide (0 ≤ c.2.2.2.1 ∧ c.2.2.2.1 ≤ c.2.2.2.2.1) && decide (0 ≤ c.2.2.2.2.2.1 ∧ c.2.2.2.2.2.1 ≤ 30))))
def specC (c : Cfg) : Int := if shortB c.1.data.toList 16 = true then (if cfgNum c = true then 0 else 2) else 1
theorem zdI (h : St w0 E w) {c : Cfg} {k : Int → PT} (hk : ∀ w', St w0 E w' → k (specC c) w') : L.call Pr z07 [.agg (Cfg.cells c).toArray] (.one (.one (.int .i64))) k w := by
 obtain ⟨nm, im, co, mi, ma, gr, ⟨⟩⟩ := c
 refine z04 (z8o (nm, im, co, mi, ma, gr, ())) ?_
 unfold z5J
 refine nw h ?_; clear h; (try clear w); intro b1 w h
 (dsimp only [setN, List.cons_append, List.nil_append] at h; refine ldC h ?_)
 refine z9h h z33 fun w h => ?_
 refine it (fun hn => ?_) (fun hn => ?_) <;> (try simp only [zB] at hn)
 ·refine ⟨_, rfl, ?_⟩
  have := hk w (dl0_ h)
  have e : specC (nm, im, co, mi, ma, gr, ()) = 1 := if_neg (by simp [hn])
  rw [e] at this; exact this
 refine z58 (fun z w => z = (!cfgNum (nm, im, co, mi, ma, gr, ()), ()) ∧ St w0 ([Cl b1 z0z (Cfg.cells (nm, im, co, mi, ma, gr, ()))] :: E) w) (fun k4 hk4 => ?_) (fun z w ⟨hz, h⟩ => ?_)
 ·(refine ldC h ?_)
  refine z3f h fun w h => ?_
  refine it (fun h1 => hk4 _ w ⟨by unfold cfgNum; simp only [Bool.not_eq_true'] at h1; simp only [h1, Bool.false_and], h⟩) (fun h1 => ?_)
  simp only [Bool.not_eq_false'] at h1
  (refine ldC h ?_)
  refine z3f h fun w h => ?_
  refine it (fun h2 => hk4 _ w ⟨by unfold cfgNum; simp only [Bool.not_eq_true'] at h2; simp only [h1, h2, Bool.false_and, Bool.and_false], h⟩) (fun h2 => ?_)
  simp only [Bool.not_eq_false'] at h2
  (refine ldC h ?_)
  refine z3f h fun w h => ?_
  refine it (fun h3 => hk4 _ w ⟨by unfold cfgNum; simp only [Bool.not_eq_true'] at h3; simp only [h1, h2, h3, Bool.false_and, Bool.and_false], h⟩) (fun h3 => ?_)
  simp only [Bool.not_eq_false'] at h3
  (refine ldC h ?_; refine ldC h ?_)
  refine z3f h fun w h => ?_
  refine it (fun h4 => hk4 _ w ⟨by unfold cfgNum; simp only [Bool.not_eq_true'] at h4; simp only [h1, h2, h3, h4, Bool.false_and, Bool.and_false], h⟩) (fun h4 => ?_)
  simp only [Bool.not_eq_false'] at h4
  (refine ldC h ?_)
  refine z3f h fun w h => ?_
  exact hk4 _ w ⟨by unfold cfgNum; simp only [h1, h2, h3, h4, Bool.true_and], h⟩
 ·subst hz
  dsimp only
  have hn : shortB nm.data.toList 16 = true := by simpa using hn
  refine it (fun hc => ?_) (fun hc => ?_) <;> (try simp only [zB] at hc)
  ·refine ⟨_, rfl, ?_⟩
   have := hk w (dl0_ h)
   have e : specC (nm, im, co, mi, ma, gr, ()) = 2 := by unfold specC; rw [if_pos hn, if_neg (by simp [hc])]
   rw [e] at this; exact this
  ·refine ⟨_, rfl, ?_⟩
   have := hk w (dl0_ h)
   have e : specC (nm, im, co, mi, ma, gr, ()) = 0 := by unfold specC; rw [if_pos hn, if_pos (by simpa using hc)]
   rw [e] at this; exact this
end Go.Proofs.YtkmalcoocklikaaGreatDoor
namespace Go.Dm
class Tab (P : Program) (w : World) : Prop where
 is : Lib.TabIs P w "internal/strconv.uint64pow10" .u64 Lib.pow10Tab
section
variable {w0 w : World} {E : List Seg} {P : Program}
theorem St.var (h : St w0 E w) {n : String} {cs : Array Value} (hv : w0.var? P n = some cs) : w.var? P n = some cs := by
 unfold World.var? at *
 cases hg : P.globalNamed n with
 | none => rw [hg] at hv; cases hv
 | some g =>
  rw [hg] at hv
  simp only [Option.bind_some] at hv ⊢
  cases hh : w0.heap[g]? with
  | none => rw [hh] at hv; cases hv
  | some o =>
   have := h.old g (Array.getElem?_eq_some_iff.1 hh).1
   rw [this]; exact hv
theorem St.tab [T : Tab P w0] (h : St w0 E w) : Lib.TabIs P w "internal/strconv.uint64pow10" .u64 Lib.pow10Tab := h.var T.is
end
def joinB (xs : List ByteArray) : ByteArray := ⟨(Lib.join (xs.map (·.data.toList)) [32]).toArray⟩
theorem zdh {a b : ByteArray} (h : a.data.toList = b.data.toList) : a = b := ByteArray.ext (Array.toList_inj.1 h)
theorem z4F (xs : List ByteArray) : (joinB xs).data.toList = Lib.join (xs.map (·.data.toList)) [32] := by simp [joinB]
theorem zbG : joinB [] = ⟨#[]⟩ := rfl
theorem z92 (x : ByteArray) : joinB [x] = x := zdh (by rw [z4F]; simp [Lib.join_one])
def spB : ByteArray := ⟨#[32]⟩
theorem z7I (x y : ByteArray) (xs : List ByteArray) : joinB (x :: y :: xs) = (x ++ spB) ++ joinB (y :: xs) := zdh (by
 rw [z4F]
 simp only [List.map_cons, Lib.join, List.intercalate, ByteArray.data_append, Array.toList_append, z4F]
 simp [List.intersperse, spB])
theorem zai (m : Nat) : ∀ (l : List ByteArray), (∀ x ∈ l, x.size ≤ m) → (joinB l).size ≤ l.length * (m + 1)
 | [], _ => by rw [zbG]; exact Nat.zero_le _
 | [x], h => by rw [z92]; have := h x (by simp); simp; omega
 | x :: y :: l, h => by
  have h1 := h x (by simp)
  have h2 := zai m (y :: l) fun z hz => h z (List.mem_cons_of_mem _ hz)
  have hs : spB.size = 1 := rfl
  rw [z7I, ByteArray.size_append, ByteArray.size_append, hs]
  simp only [List.length_cons, Nat.add_mul] at h2 ⊢
  omega
def decD (g : Nat) : ByteArray := ⟨(Lib.decDigits g).toArray⟩
theorem zbV (g : Nat) : (decD g).data.toList = Lib.decDigits g := by simp [decD]
theorem zcK (g : Nat) : (⟨(Lib.itoa (g : Int)).toArray⟩ : ByteArray) = decD g := by
 unfold Lib.itoa decD
 rw [if_neg (by omega)]; simp
section
variable {w0 w w' : World} {E : List Seg} {P : Program}
theorem St.below (h : St w0 E w) (hb : RowKit.Below w.heap.size w w') : St w0 E w' := by
 have hlt : ∀ k, k < w.heap.size → w'.heap[k]? = w.heap[k]? := hb.block
 refine ⟨Nat.le_trans h.size hb.size, fun b hb' => ?_, hb.os.trans h.os, hb.output.trans h.out, hb.tape.trans h.tape, fun x hx => ?_, h.nd, fun _ _ _ _ => rfl⟩
 ·rw [hlt b (Nat.lt_of_lt_of_le hb' h.size)]; exact h.old b hb'
 ·have := h.own x hx
  rw [hlt _ (Array.getElem?_eq_some_iff.1 this.2).1]; exact this
def eTx (x : ByteArray) : List Value := [.string x]
theorem Rw.texts {e : TypeId} {s : Seg} (h : St w0 E w) (k : Nat) (hi : nth E k = some s) {g n cap off : Nat} {l : List ByteArray} (hE : Enc eTx 1) (hr : Rw eTx e 1 ⟨some ⟨g, off, none⟩, n, cap⟩ l s) :
  (∀ (j : Nat) x, l[j]? = some x → w.cell? ⟨g, off + j, none⟩ = some (.string x)) ∧ g < w.heap.size := by
 have hr' := hr
 constructor
 ·intro j x hx
  have hn := z6Y hE hx (f := 0) (u := Value.string x) rfl
  simp only [Nat.mul_one, Nat.add_zero] at hn
  have hc := hr.cell h k hi rfl hn
  rw [z1u] at hc
  exact hc
 ·unfold Rw at hr'
  generalize fl eTx l = xs at hr'
  cases hr' with
  | mk g n cap pre xs spare post h1 h2 h3 h4 => exact (Array.getElem?_eq_some_iff.1 (h.at k hi).2).1
theorem zcJ {f : FuncId} {e : TypeId} {s : Seg} {v : Sl} {l : List ByteArray} {sep : ByteArray} (hsep : sep = spB) (hE : Enc eTx 1)
  (hc : ∀ g off cap w, (∀ (j : Nat) x, l[j]? = some x → w.cell? ⟨g, off + j, none⟩ = some (.string x)) → g < w.heap.size → l.length ≤ cap → Calls P f #[.slice (some ⟨g, off, none⟩) l.length cap, .string sep] w fun r w' => r = .returned (.string ⟨(Lib.join (l.map (·.data.toList)) sep.data.toList).toArray⟩) ∧ RowKit.Below w.heap.size w w')
  (hc0 : ∀ p cap w, Calls P f #[.slice p 0 cap, .string sep] w fun r w' => r = .returned (.string ⟨#[]⟩) ∧ w' = w)
  (h : St w0 E w) (k : Nat) (hi : nth E k = some s) (hr : Rw eTx e 1 v l s) {kk : ByteArray → PT} (hk : ∀ w', St w0 E w' → kk (joinB l) w') : L.call P f [.slice v.a v.len v.cap, .string sep] (.one (.one .str)) kk w := by
 have hlen := Rw.len hE hr
 cases hl0 : l with
 | nil =>
  subst hl0
  simp only [List.length_nil] at hlen
  rw [hlen]
  exact (hc0 v.a v.cap w).mono fun r w' ⟨h1, h2⟩ => ⟨joinB [], h1, by subst h2; exact hk _ h⟩
 | cons x l2 =>
  have hpos : 0 < l.length := by rw [hl0]; simp
  have hcap := hr.cap
  obtain ⟨va, vn, vc⟩ := v
  have : ∃ g off, va = some ⟨g, off, none⟩ := by
   have hr' := hr
   unfold Rw at hr'
   generalize fl eTx l = xs at hr'
   cases hr' with
   | nil => simp at hlen; omega
   | mk => exact ⟨_, _, rfl⟩
  obtain ⟨g, off, rfl⟩ := this
  simp only at hlen hcap
  subst hlen
  obtain ⟨hH, hlt⟩ := Rw.texts h k hi hE hr
  refine (hc g off vc w hH hlt hcap.1).mono fun r w' ⟨h1, h2⟩ => ⟨joinB l, ?_, hk _ (h.below h2)⟩
  rw [h1, hsep]; rfl
end
end Go.Dm
namespace Go.Proofs.YtkmalcoocklikaaGreatDoor
open Go.Dm
attribute [local irreducible] L.load L.store L.chk L.new L.nonnil L.guard L.ite L.draw L.idx L.sem L.semR L.semU L.chkSem L.next L.call L.callV L.join L.alts L.loop L.begin L.endRound L.range
variable {w0 w : World} {E : List Seg}
abbrev Rv := HT [.str, .int .i64, .str, .int .i64, .int .i64, .int .i64, .int .i64, .int .i64]
abbrev eRv : E1 := .agg [.str, .int .i64, .str, .int .i64, .int .i64, .int .i64, .int .i64, .int .i64]
def vRv (t : Rv) : Value := eRv.val t
def noRv : Rv := (s_, 0, s_, 0, 0, 0, 0, 0, ())
abbrev Rv.cfg (t : Rv) : Cfg := t.2.2
structure ABook where
 all : List (ByteArray × Rv)
 pv : List (ByteArray × Bool)
structure ABook.Ok (a : ABook) : Prop where
 name : ∀ p ∈ a.all, p.2.1 = p.1 ∧ p.1 ≠ s_
 few : a.all.length < 1000000
theorem zdo : Pr.underlying z0u = some (.map z05 z7p) := by kernel_rfl
theorem mkStr : MK Pr z05 Value.string := zdf z33
def bkGet (a : ABook) (rev : ByteArray) : Rv := (mget a.all rev).getD noRv
def bkHas (a : ABook) (rev : ByteArray) : Bool := (mget a.all rev).isSome
def bkProved (a : ABook) (rev : ByteArray) : Bool := (mget a.pv rev).getD false
abbrev bkB (b rA rP : Nat) : Seg := [Cl b z6l [.map (some rA), .map (some rP)]]
def BkS (b : Nat) (a : ABook) (s : Seg) : Prop := a.Ok ∧ ∃ rA rP sA sP, MpS Value.string vRv rA a.all sA ∧ MpS Value.string Value.bool rP a.pv sP ∧ s = bkB b rA rP ++ (sA ++ sP)
theorem zdY (h : St w0 E w) {k : Option Addr → PT} (hk : ∀ b s w', BkS b ⟨[], []⟩ s → St w0 (s :: E) w' → k (some ⟨b, 0, none⟩) w') : L.call Pr z52 [] (.one (.one .ptr)) k w := by
 refine z04 z9R ?_
 unfold z7d
 refine MpS.new h Value.string vRv fun r s w hm h => ?_
 refine MpS.new h Value.string Value.bool fun r2 s2 w hm2 h => ?_
 refine nw h ?_; clear h; (try clear w); intro b w h
 refine ⟨_, rfl, hk b _ w ⟨⟨by simp, by simp⟩, r, r2, s, s2, hm, hm2, rfl⟩ ?_⟩
 have h := fr2_ (fr2_ (fr1_ h))
 exact h.glue3
abbrev Thg := HT [.str, .int .i64, .int .i64, .int .i64, .int .i64, .int .i64, .int .i64, .int .i64, .bool]
abbrev eThg : E1 := .agg [.str, .int .i64, .int .i64, .int .i64, .int .i64, .int .i64, .int .i64, .int .i64, .bool]
def vThg (t : Thg) : Value := eThg.val t
def noThg : Thg := (s_, 0, 0, 0, 0, 0, 0, 0, false, ())
abbrev Thg.ver (t : Thg) : Int := t.2.2.2.2.2.2.1
abbrev Thg.gen (t : Thg) : Int := t.2.2.2.2.2.2.2.1
abbrev Thg.is (t : Thg) : Bool := t.2.2.2.2.2.2.2.2.1
def thgOf (c : Cfg) (ver gen : Int) (is : Bool) : Thg := (c.1, c.2.1, c.2.2.1, c.2.2.2.1, c.2.2.2.2.1, c.2.2.2.2.2.1, ver, gen, is, ())
def tget (m : List (ByteArray × Thg)) (n : ByteArray) : Thg := (mget m n).getD noThg
def RackS (b : Nat) (m : List (ByteArray × Thg)) (s : Seg) : Prop := ∃ r sm, MpS Value.string vThg r m sm ∧ s = [Cl b z2j [.map (some r), .func (.func z2S) #[] #[]]] ++ sm
theorem zdR (h : St w0 E w) {k : Option Addr → PT} (hk : ∀ b s w', RackS b [] s → St w0 (s :: E) w' → k (some ⟨b, 0, none⟩) w') :
  L.call Pr z1d [.func (.func z2S) #[] #[]] (.one (.one .ptr)) k w := by
 refine z04 (z40 ⟨.func z2S, #[], #[]⟩) ?_
 unfold z2m
 refine MpS.new h Value.string vThg fun r s w hm h => ?_
 refine nw h ?_; clear h; (try clear w); intro b w h
 exact ⟨_, rfl, hk b _ w ⟨r, s, hm, rfl⟩ h.glue⟩
def sameC (a b : Cfg) : Bool := (a.1 == b.1) && ((a.2.1 == b.2.1) && ((a.2.2.1 == b.2.2.1) && ((a.2.2.2.1 == b.2.2.2.1) && ((a.2.2.2.2.1 == b.2.2.2.2.1) && ((a.2.2.2.2.2.1 == b.2.2.2.2.2.1) && true)))))
theorem zcU (a b : Cfg) (w : World) : (Op.equalIn 10000 z0z (.agg (Cfg.cells a).toArray) (.agg (Cfg.cells b).toArray)).run Pr w = .ok (sameC a b) w := by
 have hS : Pr.underlying z0z = some (.struct (Pr.fieldsOf z0z)) := by kernel_rfl
 have hp : Pr.stoodInHeld z0z = false := by kernel_rfl
 obtain ⟨a1, a2, a3, a4, a5, a6, ⟨⟩⟩ := a
 obtain ⟨b1, b2, b3, b4, b5, b6, ⟨⟩⟩ := b
 rw [show (10000 : Nat) = 9999 + 1 from rfl, run_equalIn_agg w 9999 z0z _ _ hS hp]
 have u3 := Tryz.underlying3
 have i3 := Tryz.isAgg3
 have z3 := Tryz.sizeOf3
 have u9 := Tryz.underlying9
 have i9 := Tryz.isAgg9
 have z9 := Tryz.sizeOf9
 simp only [Program.fieldsOf, Tryz.underlying23]
 go_simp
 have e : (ByteArray.toList a1 = ByteArray.toList b1) ↔ (@BEq.beq ByteArray _ a1 b1) = true := by rw [beq_toListBytes]; simp
 unfold sameC
 by_cases h1 : (@BEq.beq ByteArray _ a1 b1) = true
 ·rw [if_pos (e.2 h1)]
  simp only [show (a1 == b1) = true from h1, Bool.true_and]
  by_cases h2 : @Eq Int a2 b2
  ·by_cases h3 : @Eq Int a3 b3
   ·by_cases h4 : @Eq Int a4 b4
    ·by_cases h5 : @Eq Int a5 b5
     ·by_cases h6 : @Eq Int a6 b6
      ·cases h2; cases h3; cases h4; cases h5; cases h6; simp
      ·cases h2; cases h3; cases h4; cases h5; simp [h6]
     ·cases h2; cases h3; cases h4; simp [h5]
    ·cases h2; cases h3; simp [h4]
   ·cases h2; simp [h3]
  ·simp [h2]
 ·rw [if_neg (fun h => h1 (e.1 h))]
  have : (a1 == b1) = false := by simpa using h1
  simp [this]
theorem zes (a b : Cfg) (w : World) : (do eqGuard .eql z0z (.tmp 0) (.tmp 0) (.agg (Cfg.cells a).toArray) (.agg (Cfg.cells b).toArray); binOp .eql z0z (.agg (Cfg.cells a).toArray) (.agg (Cfg.cells b).toArray) : Sem Value).run Pr w = .ok (.bool (sameC a b)) w :=
 zdg (by kernel_rfl) (zcU a b w)
def cfgOf (t : Thg) : Cfg := (t.1, t.2.1, t.2.2.1, t.2.2.2.1, t.2.2.2.2.1, t.2.2.2.2.2.1, ())
abbrev Tgt := HT [.str, .str, .int .i64]
def eT (t : Tgt) : List Value := [.string t.1, .string t.2.1, I t.2.2.1]
theorem encT : Enc eT 3 := ⟨fun _ => rfl, fun _ => rfl, by decide⟩
structure ARt where
 name : ByteArray
 cfg : ByteArray
 ts : List Tgt
 roll : Int
abbrev Thr := HT [.str, .str, .slice, .int .i64, .int .i64, .int .i64, .bool]
abbrev eThr : E1 := .agg [.str, .str, .slice, .int .i64, .int .i64, .int .i64, .bool]
abbrev Thr.ver (t : Thr) : Int := t.2.2.2.2.1
abbrev Thr.gen (t : Thr) : Int := t.2.2.2.2.2.1
abbrev Thr.is (t : Thr) : Bool := t.2.2.2.2.2.2.1
def vThr (t : Thr) : Value := eThr.val t
structure AThr where
 r : ARt
 ver : Int
 gen : Int
 is : Bool
def noAThr : AThr := ⟨⟨s_, s_, [], 0⟩, 0, 0, false⟩
structure RtE where
 k : ByteArray
 t : Thr
 ts : List Tgt
 sg : Seg
def RtE.ok (x : RtE) : Prop := Rw eT z0k 3 x.t.2.2.1 x.ts x.sg
def RtE.abs (x : RtE) : AThr := ⟨⟨x.t.1, x.t.2.1, x.ts, x.t.2.2.2.1⟩, x.t.ver, x.t.gen, x.t.is⟩
abbrev RtE.kt (x : RtE) : ByteArray × Thr := (x.k, x.t)
abbrev RtE.ka (x : RtE) : ByteArray × AThr := (x.k, x.abs)
def rget (m : List (ByteArray × AThr)) (n : ByteArray) : AThr := (mget m n).getD noAThr
def RackR (b : Nat) (m : List (ByteArray × AThr)) (s : Seg) : Prop := ∃ r sm, ∃ Q : List RtE, MpS Value.string vThr r (Q.map RtE.kt) sm ∧ (∀ x ∈ Q, x.ok) ∧ m = Q.map RtE.ka ∧
 s = [Cl b z1s [.map (some r), .func (.func z1l) #[] #[]]] ++ (sm ++ (Q.map RtE.sg).flatten)
theorem zdQ (h : St w0 E w) {k : Option Addr → PT} (hk : ∀ b s w', RackR b [] s → St w0 (s :: E) w' → k (some ⟨b, 0, none⟩) w') :
  L.call Pr z1r [.func (.func z1l) #[] #[]] (.one (.one .ptr)) k w := by
 refine z04 (z4g ⟨.func z1l, #[], #[]⟩) ?_
 unfold z2u
 refine MpS.new h Value.string vThr fun r s w hm h => ?_
 refine nw h ?_; clear h; (try clear w); intro b w h
 exact ⟨_, rfl, hk b _ w ⟨r, s, [], hm, by simp, rfl, by simp⟩ h.glue⟩
theorem RackR.put {r b : Nat} {Q : List RtE} {sm : Seg} (x : RtE) (hx : x.ok) (hQ : ∀ x ∈ Q, x.ok) (hm : MpS Value.string vThr r (mset (Q.map RtE.kt) x.k x.t) sm)
  (h : St w0 (x.sg :: (Q.map RtE.sg).flatten :: [Cl b z1s [.map (some r), .func (.func z1l) #[] #[]]] :: sm :: E) w) :
  ∃ s, RackR b (mset (Q.map RtE.ka) x.k x.abs) s ∧ St w0 (s :: E) w := by
 have e1 := z88 (key := RtE.k) RtE.t x Q
 have e2 := z88 (key := RtE.k) RtE.abs x Q
 have h := St.lput (key := RtE.k) h
 refine ⟨_, ⟨r, sm, lput RtE.k Q x, by rw [e1]; exact hm, fun y hy => ?_, e2.symm, rfl⟩, ?_⟩
 ·rcases zad hy with rfl | hy
  ·exact hx
  ·exact hQ y hy
 ·have h := fr2_ (fr2_ h)
  exact h.glue3
def argS (l : List ByteArray) (m : Nat) : TT [.one .str] := ((l[m]?).getD s_, ())
theorem zbY {l : List ByteArray} {m : Nat} {x : ByteArray} (h : l[m]? = some x) : argS l m = (x, ()) := by simp [argS, h]
structure AShelf where
 m : List (ByteArray × Thg)
 r : List (ByteArray × AThr)
 n : Int
structure AShelf.Ok (a : AShelf) : Prop where
 lo : 0 ≤ a.n
 hi : a.n < 1000000000
 gen : ∀ x, 0 ≤ (tget a.m x).gen ∧ (tget a.m x).gen ≤ a.n
 fm : a.m.length ≤ a.n
 fr : a.r.length ≤ a.n
abbrev shB (b bc br : Nat) (n : Int) : Seg := [Cl b z5z [.pointer (some ⟨bc, 0, none⟩), .pointer (some ⟨br, 0, none⟩), I n]]
def ShS (b : Nat) (a : AShelf) (s : Seg) : Prop := a.Ok ∧ ∃ bc br sc sr, RackS bc a.m sc ∧ RackR br a.r sr ∧ s = shB b bc br a.n ++ (sc ++ sr)
theorem zcc (h : St w0 E w) (i : Nat) {s : Seg} (hi : nth E i = some s) {r : Nat} {m : List (ByteArray × Rv)} (hm : MpS Value.string vRv r m s) (hn : m.length < 1000000000) {k : Sl → PT}
  (hk : ∀ v s' w', Rw eS z05 1 v (ssort (m.map (·.1))) s' → St w0 (s' :: E) w' → k v w') : L.call Pr z0G [.map (some r)] (.one (.one .slice)) k w := by
 refine z04 (z2p _) ?_
 unfold z17
 refine z04 (z0T _) ?_
 unfold z0n
 have h := h.front i hi
 refine nw h ?_; clear h; (try clear w); intro c w h
 refine ⟨⟨.func z02, #[], #[.pointer (some ⟨c, 0, none⟩)]⟩, rfl, ?_⟩
 have hY : YldM Pr w0 [[Cl c z0u [.map (some r)]], s] (.func (.func z02) #[] #[.pointer (some ⟨c, 0, none⟩)]) (m.map (·.1)) Value.string := by
  intro yv R J Jd F w h hJ step fin fin2
  refine ⟨z0P, z0Q yv ⟨c, 0, none⟩ ?_⟩
  unfold z0j
  exact zbF (kv := Value.string) (vv := vRv) unS (fun _ => rfl) zdo (lk := .str) (ev := eRv) (fun x => x) (fun _ => rfl) (fun x : Rv => x) (fun _ => rfl) J Jd hm h hJ (fun seen k F X w hl hJ h => step seen k F X w (by simpa using hl) hJ h) fin fin2
 refine z5F (fv := ⟨.func z02, #[], #[.pointer (some ⟨c, 0, none⟩)]⟩) hY h (by simpa using hn) fun v s' w hr h => ⟨v, rfl, hk v s' w hr ?_⟩
 have h := fr1_ h
 exact St.again (i + 1) (E := s' :: E) hi h
def bkAll (a : ABook) : List ByteArray := ssort (a.all.map (·.1))
theorem zcd (h : St w0 E w) (i : Nat) {b : Nat} {a : ABook} {s : Seg} (hi : nth E i = some s) (hs : BkS b a s) {k : Sl → PT} (hk : ∀ v s' w', Rw eS z05 1 v (bkAll a) s' → St w0 (s' :: E) w' → k v w') :
  L.call Pr z2K [.pointer (some ⟨b, 0, none⟩)] (.one (.one .slice)) k w := by
 obtain ⟨ok, rA, rP, sA, sP, hA, hP, rfl⟩ := hs
 refine z04 (z6A _) ?_
 unfold z4a
 have h := (h.front i hi).split3
 have hf := ok.few
 (refine nn ?_; refine ldC h ?_)
 refine zcc h 1 rfl hA (by omega) fun v s' w hr h => ?_
 refine zax h (Rw.rd encS h 0 rfl hr) (by rw [z5m, List.length_map]; omega) (Rw.nil0 encS hr) fun v' s2 w hr2 _ h => ⟨v', rfl, hk v' s2 w hr2 ?_⟩
 have h := dl1_ h
 have h := fr3_ (fr3_ (fr3_ h))
 have h := h.glue3
 exact St.again (i + 1) (E := s2 :: E) hi h
def bkStep (a : ABook) (c : ByteArray) (q : ByteArray → Bool) (t : Rv) (rev : ByteArray) : Rv :=
 if (bkGet a rev).2.2.1 = c then if t.2.1 < (bkGet a rev).2.1 then if q rev = true then bkGet a rev else t else t else t
def bkBest (a : ABook) (c : ByteArray) (q : ByteArray → Bool) : Rv := (bkAll a).foldl (bkStep a c q) noRv
def bkReady (a : ABook) (c : ByteArray) : ByteArray := (bkBest a c (bkProved a)).1
end Go.Proofs.YtkmalcoocklikaaGreatDoor

namespace Go.Proofs
open Go.Shelf
def Tryz.laysM171_ren : Go.Shelf.Ren := ⟨fun | 171 => 73 | 243 => 134 | 246 => 207 | 283 => 258 | 284 => 259 | 285 => 260 | 286 => 261 | 129 => 246 | 317 => 291 | 318 => 292 | 319 => 293 | 320 => 294 | 337 => 310 | 338 => 311 | n => n, fun | 3 => 3 | 9 => 9 | 2 => 2 | 4 => 4 | 171 => 404 | 0 => 0 | 53 => 398 | 37 => 85 | 5 => 5 | 173 => 406 | 212 => 440 | 51 => 396 | 20 => 20 | 213 => 441 | 46 => 331 | 232 => 464 | 233 => 465 | n => n, fun | 17 => 1 | 18 => 4 | 19 => 5 | n => n⟩
theorem Tryz.laysM171 : Go.Proofs.LaysM.n171 Tryz.prog Tryz.laysM171_ren := {
 mixed := by kernel_rfl
 f129 := Tryz.func246.trans (congrArg some (by kernel_rfl))
 f171 := Tryz.func73.trans (congrArg some (by kernel_rfl))
 f243 := Tryz.func134.trans (congrArg some (by kernel_rfl))
 f246 := Tryz.func207.trans (congrArg some (by kernel_rfl))
 f283 := Tryz.func258.trans (congrArg some (by kernel_rfl))
 f284 := Tryz.func259.trans (congrArg some (by kernel_rfl))
 f285 := Tryz.func260.trans (congrArg some (by kernel_rfl))
 f286 := Tryz.func261.trans (congrArg some (by kernel_rfl))
 f317 := Tryz.func291.trans (congrArg some (by kernel_rfl))
 f318 := Tryz.func292.trans (congrArg some (by kernel_rfl))
 f319 := Tryz.func293.trans (congrArg some (by kernel_rfl))
 f320 := Tryz.func294.trans (congrArg some (by kernel_rfl))
 f337 := Tryz.func310.trans (congrArg some (by kernel_rfl))
 f338 := Tryz.func311.trans (congrArg some (by kernel_rfl))
 t0 := Tryz.underlying0
 a0 := Tryz.isAgg0
 z0 := Tryz.sizeOf0
 v0 := Tryz.zeroValue0
 t2 := Tryz.underlying2
 a2 := Tryz.isAgg2
 z2 := Tryz.sizeOf2
 v2 := Tryz.zeroValue2
 t3 := Tryz.underlying3
 a3 := Tryz.isAgg3
 z3 := Tryz.sizeOf3
 v3 := Tryz.zeroValue3
 t4 := Tryz.underlying4
 a4 := Tryz.isAgg4
 z4 := Tryz.sizeOf4
 v4 := Tryz.zeroValue4
 t5 := Tryz.underlying5
 a5 := Tryz.isAgg5
 z5 := Tryz.sizeOf5
 v5 := Tryz.zeroValue5
 t9 := Tryz.underlying9
 a9 := Tryz.isAgg9
 z9 := Tryz.sizeOf9
 v9 := Tryz.zeroValue9
 t20 := Tryz.underlying20
 a20 := Tryz.isAgg20
 z20 := Tryz.sizeOf20
 v20 := Tryz.zeroValue20
 t37 := Tryz.underlying85
 a37 := Tryz.isAgg85
 z37 := Tryz.sizeOf85
 v37 := Tryz.zeroValue85
 t46 := Tryz.underlying331
 a46 := Tryz.isAgg331
 z46 := Tryz.sizeOf331
 v46 := Tryz.zeroValue331
 t51 := Tryz.underlying396
 a51 := Tryz.isAgg396
 z51 := Tryz.sizeOf396
 v51 := Tryz.zeroValue396
 t53 := Tryz.underlying398
 a53 := Tryz.isAgg398
 z53 := Tryz.sizeOf398
 v53 := Tryz.zeroValue398
 t171 := Tryz.underlying404
 a171 := Tryz.isAgg404
 z171 := Tryz.sizeOf404
 v171 := Tryz.zeroValue404
 t173 := Tryz.underlying406
 a173 := Tryz.isAgg406
 z173 := Tryz.sizeOf406
 v173 := Tryz.zeroValue406
 t212 := Tryz.underlying440
 a212 := Tryz.isAgg440
 z212 := Tryz.sizeOf440
 v212 := Tryz.zeroValue440
 t213 := Tryz.underlying441
 a213 := Tryz.isAgg441
 z213 := Tryz.sizeOf441
 t232 := Tryz.underlying464
 a232 := Tryz.isAgg464
 z232 := Tryz.sizeOf464
 v232 := Tryz.zeroValue464
 t233 := Tryz.underlying465
 a233 := Tryz.isAgg465
 z233 := Tryz.sizeOf465
 v233 := Tryz.zeroValue465
 g17 := by kernel_rfl
 g18 := by kernel_rfl
 g19 := by kernel_rfl
 i0 := by kernel_rfl
 i2 := by kernel_rfl
 i3 := by kernel_rfl
 i4 := by kernel_rfl
 i5 := by kernel_rfl
 i9 := by kernel_rfl
 i20 := by kernel_rfl
 i37 := by kernel_rfl
 i46 := by kernel_rfl
 i51 := by kernel_rfl
 i53 := by kernel_rfl
 i171 := by kernel_rfl
 i173 := by kernel_rfl
 i212 := by kernel_rfl
 i232 := by kernel_rfl
 i233 := by kernel_rfl
 m17 := by kernel_rfl
 m18 := by kernel_rfl
 m19 := by kernel_rfl }
open Go.RowKit Go.Sort Go.Lib in
theorem Tryz.strconv_Itoa (n : Int) (h0 : -9223372036854775808 ≤ n) (h1 : n ≤ 9223372036854775807) (w : World) (htab : Lib.TabIs Tryz.prog w "internal/strconv.uint64pow10" .u64 Lib.pow10Tab) :
  Calls Tryz.prog 73 #[.int .i64 n] w fun e w' => e = .returned (.string ⟨(Lib.itoa n).toArray⟩) ∧ ∃ k os, w' = grow (w.drewN k) os := Any.strconv_Itoa Tryz.laysM171 n h0 h1 w htab
end Go.Proofs

namespace Go.Proofs
open Go.Shelf
def Tryz.lays156_ren : Go.Shelf.Ren := ⟨fun | 156 => 74 | 165 => 135 | 166 => 136 | 169 => 137 | 240 => 208 | 241 => 209 | 276 => 262 | 277 => 263 | n => n, fun | 31 => 33 | 9 => 9 | 3 => 3 | 4 => 4 | 0 => 0 | 20 => 20 | 72 => 243 | 76 => 246 | 70 => 241 | 37 => 85 | 75 => 245 | 127 => 366 | 164 => 408 | 5 => 5 | 80 => 73 | n => n, fun | n => n⟩
theorem Tryz.lays156 : Go.Proofs.Lays.n156 Tryz.prog Tryz.lays156_ren := {
 mixed := by kernel_rfl
 f156 := Tryz.func74.trans (congrArg some (by kernel_rfl))
 f165 := Tryz.func135.trans (congrArg some (by kernel_rfl))
 f166 := Tryz.func136.trans (congrArg some (by kernel_rfl))
 f169 := Tryz.func137.trans (congrArg some (by kernel_rfl))
 f240 := Tryz.func208.trans (congrArg some (by kernel_rfl))
 f241 := Tryz.func209.trans (congrArg some (by kernel_rfl))
 f276 := Tryz.func262.trans (congrArg some (by kernel_rfl))
 f277 := Tryz.func263.trans (congrArg some (by kernel_rfl))
 t0 := Tryz.underlying0
 a0 := Tryz.isAgg0
 z0 := Tryz.sizeOf0
 v0 := Tryz.zeroValue0
 t3 := Tryz.underlying3
 a3 := Tryz.isAgg3
 z3 := Tryz.sizeOf3
 v3 := Tryz.zeroValue3
 t4 := Tryz.underlying4
 a4 := Tryz.isAgg4
 z4 := Tryz.sizeOf4
 v4 := Tryz.zeroValue4
 t9 := Tryz.underlying9
 a9 := Tryz.isAgg9
 z9 := Tryz.sizeOf9
 v9 := Tryz.zeroValue9
 t20 := Tryz.underlying20
 a20 := Tryz.isAgg20
 z20 := Tryz.sizeOf20
 v20 := Tryz.zeroValue20
 t31 := Tryz.underlying33
 a31 := Tryz.isAgg33
 z31 := Tryz.sizeOf33
 v31 := Tryz.zeroValue33
 t37 := Tryz.underlying85
 a37 := Tryz.isAgg85
 z37 := Tryz.sizeOf85
 v37 := Tryz.zeroValue85
 t70 := Tryz.underlying241
 a70 := Tryz.isAgg241
 z70 := Tryz.sizeOf241
 v70 := Tryz.zeroValue241
 t72 := Tryz.underlying243
 a72 := Tryz.isAgg243
 z72 := Tryz.sizeOf243
 v72 := Tryz.zeroValue243
 t75 := Tryz.underlying245
 a75 := Tryz.isAgg245
 z75 := Tryz.sizeOf245
 v75 := Tryz.zeroValue245
 t76 := Tryz.underlying246
 a76 := Tryz.isAgg246
 z76 := Tryz.sizeOf246
 v76 := Tryz.zeroValue246
 t127 := Tryz.underlying366
 a127 := Tryz.isAgg366
 z127 := Tryz.sizeOf366
 v127 := Tryz.zeroValue366
 t164 := Tryz.underlying408
 a164 := Tryz.isAgg408
 z164 := Tryz.sizeOf408
 v164 := Tryz.zeroValue408 }
theorem Tryz.Builder_Extra_156 : Builder.Extra Tryz.prog Tryz.lays156_ren := {
 sizeBuilder := by kernel_rfl
 liesBuilder := by kernel_rfl
 t5 := Tryz.underlying5
 a5 := Tryz.isAgg5
 z5 := Tryz.sizeOf5
 v5 := Tryz.zeroValue5
 infoByte := by kernel_rfl
 cellsByte := by kernel_rfl
 sizeByte := by kernel_rfl
 neB5 := by decide }
open Go.RowKit in
theorem Tryz.strings_Join (bk o c : Nat) (xs : List ByteArray) (sep : ByteArray) (w : World)
  (hcells : ∀ (j : Nat) x, xs[j]? = some x → w.cell? ⟨bk, o + j, none⟩ = some (.string x))
  (hbk : bk < w.heap.size) (hN : xs.length ≤ 140737488355328) (hcap : xs.length ≤ c)
  (hlen : (Lib.join (xs.map (·.data.toList)) sep.data.toList).length ≤ 140737488355328) :
  Calls Tryz.prog 74 #[.slice (some ⟨bk, o, none⟩) xs.length c, .string sep] w fun e w' => e = .returned (.string ⟨(Lib.join (xs.map (·.data.toList)) sep.data.toList).toArray⟩) ∧ Below w.heap.size w w' := Any.strings_Join Tryz.lays156 Tryz.Builder_Extra_156 bk o c xs sep w hcells hbk hN hcap hlen
end Go.Proofs
namespace Go.Proofs.YtkmalcoocklikaaGreatDoor
open Go.Dm
attribute [local irreducible] L.load L.store L.chk L.new L.nonnil L.guard L.ite L.draw L.idx L.sem L.semR L.semU L.chkSem L.next L.call L.callV L.join L.alts L.loop L.begin L.endRound L.range
variable {w0 w : World} {E : List Seg}
abbrev bTab (w0 : World) := Tab Pr w0
theorem ze1 [bTab w0] (h : St w0 E w) {n : Int} (h0 : 0 ≤ n) (h1 : n ≤ 9223372036854775807) {k : ByteArray → PT} (hk : ∀ w', St w0 E w' → k (decD n.toNat) w') : L.call Pr z1W [I n] (.one (.one .str)) k w := by
 refine z4G (Tryz.strconv_Itoa n (by omega) h1 w h.tab) fun e w' ⟨he, m, os, hw⟩ => ⟨decD n.toNat, ?_, ?_⟩
 ·rw [he, ← zcK, Int.toNat_of_nonneg h0]; rfl
 ·subst hw
  exact hk _ ((h.drawn).grow os)
theorem zce (h : St w0 E w) (i : Nat) {s : Seg} (hi : nth E i = some s) {v : Sl} {l : List ByteArray} (hr : Rw eS z05 1 v l s) (hn : l.length < 1000000000) (hsz : (joinB l).size < 1000000000000) {k : ByteArray → PT} (hk : ∀ w', St w0 E w' → k (joinB l) w') :
  L.call Pr z3w [SlV v, .string z5n] (.one (.one .str)) k w := by
 refine zcJ (e := z05) (s := s) (v := v) (l := l) rfl encS (fun g off cap w h1 h2 h3 => Tryz.strings_Join g off cap l z5n w h1 h2 (by omega) h3 ?_) (fun p cap w => Any.strings_Join_none Tryz.lays156 Tryz.Builder_Extra_156 p cap z5n w) h i hi hr hk
 have : (joinB l).size = (Lib.join (l.map (·.data.toList)) [32]).length := by rw [← z1z, z4F]
 show (Lib.join (l.map (·.data.toList)) [32]).length ≤ _
 omega
def revOk (r : ByteArray) : Prop := r = s_ ∨ ∃ c g, shortB c.data.toList 16 = true ∧ 1 ≤ g ∧ g < 100 ∧ r = revB c g
def tagBad (t : ByteArray) : Bool := !decide (t = s_) && !shortB t.data.toList 8
def tgE (t : Tgt) : Int := if tagBad t.2.1 = true then 1 else if 0 ≤ @id Int t.2.2.1 ∧ @id Int t.2.2.1 ≤ 100 then 0 else 2
theorem zed (c : ByteArray) {g : Nat} (hg : g < 100) : revB c g ≠ s_ := fun e => by
 have := z6H c hg
 rw [e] at this
 have h0 : s_.size = 0 := rfl
 omega
theorem zd0 (h : St w0 E w) {t : Tgt} (hr : revOk t.1) {k : Int → PT} (hk : ∀ w', St w0 E w' → k (tgE t) w') : L.call Pr z3S [.agg #[.string t.1, .string t.2.1, I t.2.2.1]] (.one (.one (.int .i64))) k w := by
 refine z04 (z8n t) ?_
 unfold z5I
 refine nw h ?_; clear h; (try clear w); intro b1 w h
 (refine ldC h ?_)
 have fin : ∀ {w}, St w0 ([Cl b1 z0k [.string t.1, .string t.2.1, I t.2.2.1]] :: E) w →
   (L.ite (tagBad t.2.1) (fun w' => ∃ y, Value.int .i64 1 = RT.val (.one (.one (.int .i64))) y ∧ k y w') <|
    L.load (.one (.int .i64)) ((⟨b1, 0, none⟩ : Addr).add 2) fun (x13 : Int) =>
    L.callV Pr (.func (.func z0o) #[.agg #[.int .i64 0, .int .i64 100]] #[]) [.int .i64 x13] (.one (.one (.bool))) fun (x14 : Bool) =>
    L.ite (!x14) (fun w' => ∃ y, Value.int .i64 2 = RT.val (.one (.one (.int .i64))) y ∧ k y w') <|
    fun w' => ∃ y, Value.int .i64 0 = RT.val (.one (.one (.int .i64))) y ∧ k y w') w := by
  intro w h
  refine it (fun hb => ?_) (fun hb => ?_)
  ·have := hk w (dl0_ h)
   unfold tgE at this
   rw [if_pos hb] at this
   exact ⟨1, rfl, this⟩
  ·(refine ldC h ?_)
   refine z8g (fs := #[.agg #[.int .i64 0, .int .i64 100]]) (cs := #[]) z7j (z4y (0, 100, ()) t.2.2.1) ?_
   unfold z3k
   refine nw h ?_; clear h; (try clear w); intro b2 w h
   (dsimp only [setN, List.cons_append, List.nil_append] at h; refine ldC h ?_)
   have fin2 : ∀ {w}, ∀ b : Bool, (b = decide (0 ≤ @id Int t.2.2.1 ∧ @id Int t.2.2.1 ≤ 100)) → St w0 ([Cl b2 z79 [I 0, I 100]] :: [Cl b1 z0k [.string t.1, .string t.2.1, I t.2.2.1]] :: E) w → (∃ x, Value.bool b = RT.val (.one (.one .bool)) x ∧
     (L.ite (!x) (fun w' => ∃ y, Value.int .i64 2 = RT.val (.one (.one (.int .i64))) y ∧ k y w') <| fun w' => ∃ y, Value.int .i64 0 = RT.val (.one (.one (.int .i64))) y ∧ k y w') w) := by
    intro w b e h
    refine ⟨b, rfl, ?_⟩
    have := hk w (dl0_ (dl0_ h))
    unfold tgE at this
    rw [if_neg (by simp [hb])] at this
    refine it (fun hx => ?_) (fun hx => ?_)
    ·have hx : b = false := by simpa using hx
     rw [if_neg (of_decide_eq_false (e.symm.trans hx))] at this
     exact ⟨2, rfl, this⟩
    ·have hx : b = true := by simpa using hx
     rw [if_pos (of_decide_eq_true (e.symm.trans hx))] at this
     exact ⟨0, rfl, this⟩
   refine it (fun h0 => ?_) (fun h0 => ?_)
   ·have h0 := of_decide_eq_true h0
    (refine ldC h ?_)
    refine fin2 _ ?_ h
    exact decide_eq_decide.2 ⟨fun hh => ⟨h0, hh⟩, fun hh => hh.2⟩
   ·have h0 := of_decide_eq_false h0
    exact fin2 _ (decide_eq_false fun hh => h0 hh.1).symm h
 have tag : ∀ {w} {k4 : Bool × Unit → PT}, (∀ w', St w0 ([Cl b1 z0k [.string t.1, .string t.2.1, I t.2.2.1]] :: E) w' → k4 (tagBad t.2.1, ()) w') → St w0 ([Cl b1 z0k [.string t.1, .string t.2.1, I t.2.2.1]] :: E) w →
   (L.load (.one (.str)) ((⟨b1, 0, none⟩ : Addr).add 1) fun (x7 : ByteArray) =>
    L.ite (!(x7.toList == s_.toList)) (
     L.load (.one (.str)) ((⟨b1, 0, none⟩ : Addr).add 1) fun (x8 : ByteArray) =>
     L.call Pr z1e [.string x8] (.one (.one (.bool))) fun (x9 : Bool) =>
     k4 (!x9, ())) <|
    k4 (false, ())) w := by
  intro w k4 hk4 h
  (refine ldC h ?_)
  rw [z44]
  refine it (fun hb => ?_) (fun hb => ?_)
  ·have hb : decide (t.2.1 = s_) = false := by simpa using hb
   (refine ldC h ?_)
   refine zeF h z33 fun w h => ?_
   have := hk4 w h
   unfold tagBad at this
   rw [hb] at this
   exact this
  ·have hb : decide (t.2.1 = s_) = true := by simpa using hb
   have := hk4 w h
   unfold tagBad at this
   rw [hb] at this
   exact this
 rcases hr with hr | ⟨c, g, hc, h1, hg, hr⟩
 ·rw [hr] at h fin tag ⊢
  refine zd3 ?_
  refine z58 (fun z w => z = (tagBad t.2.1, ()) ∧ St w0 ([Cl b1 z0k [.string s_, .string t.2.1, I t.2.2.1]] :: E) w) (fun k4 hk4 => ?_) (fun z w ⟨hz, h⟩ => by subst hz; exact fin h)
  (refine ldC h ?_)
  refine itF (by simp) ?_
  exact tag (fun w h => hk4 _ w ⟨rfl, h⟩) h
 ·rw [hr] at h fin tag ⊢
  refine z9Q h z33 hc h1 hg fun w h => ?_
  refine z58 (fun z w => z = (tagBad t.2.1, ()) ∧ St w0 ([Cl b1 z0k [.string (revB c g), .string t.2.1, I t.2.2.1]] :: E) w) (fun k4 hk4 => ?_) (fun z w ⟨hz, h⟩ => by subst hz; exact fin h)
  (refine ldC h ?_)
  refine itT (by rw [z44]; simp [zed c hg]) (itF rfl ?_)
  exact tag (fun w h => hk4 _ w ⟨rfl, h⟩) h
abbrev tagIs (g : ByteArray) (x : Tgt) : Bool := decide (x.2.1 = g)
theorem zb1 {b : Nat} {t : Tgt} (h : St w0 ([Cl b z0k (eT t)] :: E) w) {v : Sl} {ts : List Tgt} (r : RdE w0 E eT v ts) (hn : ts.length < 1000000) {k : Bool → PT} (hk : ∀ w', St w0 ([Cl b z0k (eT t)] :: E) w' → k (ts.any (tagIs t.2.1)) w') :
  L.call Pr z0l [.slice v.a v.len v.cap, .func (.func z27) #[] #[.pointer (some ⟨b, 0, none⟩)]] (.one (.one .bool)) k w := by
 refine z04 (z1j v ⟨.func z27, #[], #[.pointer (some ⟨b, 0, none⟩)]⟩) ?_
 unfold z0D
 refine z04 (z1x v ⟨.func z27, #[], #[.pointer (some ⟨b, 0, none⟩)]⟩) ?_
 unfold z0M
 have hl := (r w (dl0_ h)).len
 refine z2h (fun q y w => ∃ i : Nat, y = ((i : Int), ()) ∧ q + i = ts.length ∧ (ts.take i).any (tagIs t.2.1) = false ∧ St w0 ([Cl b z0k (eT t)] :: E) w) ts.length ⟨0, rfl, rfl, rfl, h⟩ ?_
 clear h; (try clear w)
 rintro q y w ⟨i, rfl, hq, hno, h⟩ again hag
 dsimp only
 refine it (fun hb => ?_) (fun hb => ?_) <;> (try simp only [zB] at hb)
 ·have hi : i < ts.length := by omega
  have hx : ts[i]? = some ts[i] := List.getElem?_eq_getElem hi
  generalize ts[i] = x at hx
  have rr := r w (dl0_ h)
  refine rr.ix encT (by omega) (by simpa using hi) fun a ha => ?_
  rw [Int.toNat_natCast] at ha
  refine rr.lda encT ha hx rfl ?_
  refine z8g (fs := #[]) (cs := #[.pointer (some ⟨b, 0, none⟩)]) z9k (z9m x ⟨b, 0, none⟩) ?_
  unfold z6n
  have h : St w0 ([Cl b z0k [.string t.1, .string t.2.1, I t.2.2.1]] :: E) w := h
  refine nw h ?_; clear h; (try clear w); intro b1 w h
  (refine ldC h ?_; refine ldC h ?_)
  refine ⟨_, rfl, ?_⟩
  have h : St w0 ([Cl b z0k (eT t)] :: E) w := dl0_ h
  rw [z44]
  refine it (fun hc => ?_) (fun hc => ?_)
  ·refine ⟨_, rfl, _, rfl, ?_⟩
   have e : ts.any (tagIs t.2.1) = true := List.any_eq_true.2 ⟨x, List.mem_of_getElem? hx, hc⟩
   have := hk w h
   rw [e] at this
   rw [decide_eq_true (show (i : Int) ≥ 0 by omega)]
   exact this
  ·rw [wr (by omega) (by omega)]
   refine hag (q - 1) _ w (by omega) ⟨i + 1, by simp, by omega, ?_, h⟩
   rw [List.take_add_one, hx, List.any_append, hno]
   simpa using hc
 ·have e : ts.take i = ts := List.take_of_length_le (by omega)
  rw [e] at hno
  refine ⟨_, rfl, _, rfl, ?_⟩
  have := hk w h
  rw [hno] at this
  exact this
def twiceAt (ts : List Tgt) (i : Nat) : Bool := match ts[i]? with
 | some t => !decide (t.2.1 = s_) && (ts.take i).any (tagIs t.2.1)
 | none => false
def pct (t : Tgt) : Int := t.2.2.1
def allE (ts : List Tgt) : Int := if (List.range ts.length).any (twiceAt ts) = true then 5 else if (ts.map pct).sum = 100 then 0 else 4
theorem ze8 {l : List Tgt} (h : ∀ t ∈ l, 0 ≤ pct t ∧ pct t ≤ 100) : 0 ≤ (l.map pct).sum ∧ (l.map pct).sum ≤ 100 * l.length := by
 induction l with
 | nil => simp
 | cons t l ih =>
  have h1 := h t (by simp)
  have h2 := ih fun x hx => h x (by simp [hx])
  simp only [List.map_cons, List.sum_cons, List.length_cons]
  omega
theorem zdJ (h : St w0 E w) {v : Sl} {ts : List Tgt} (r : RdE w0 E eT v ts) (hvc : v.len ≤ v.cap) (hn : ts.length ≤ 1000) (hp : ∀ t ∈ ts, 0 ≤ pct t ∧ pct t ≤ 100) {k : Int → PT} (hk : ∀ w', St w0 E w' → k (allE ts) w') :
  L.call Pr z5X [.slice v.a v.len v.cap] (.one (.one (.int .i64))) k w := by
 refine z04 (zb2 v) ?_
 unfold z7N
 have hl := (r w h).len
 refine z2h (fun q y w => ∃ i : Nat, y = (((ts.take i).map pct).sum, (i : Int), ()) ∧ q + i = ts.length ∧ (List.range i).any (twiceAt ts) = false ∧ St w0 E w) ts.length ⟨0, rfl, rfl, rfl, h⟩ ?_
 clear h; (try clear w)
 rintro q y w ⟨i, rfl, hq, hno, h⟩ again hag
 dsimp only
 refine it (fun hb => ?_) (fun hb => ?_) <;> (try simp only [zB] at hb)
 ·have hi : i < ts.length := by omega
  have hx : ts[i]? = some ts[i] := List.getElem?_eq_getElem hi
  generalize ts[i] = t at hx
  have ht := hp t (List.mem_of_getElem? hx)
  have hs := ze8 (l := ts.take i) fun x hx => hp x (List.mem_of_mem_take hx)
  rw [List.length_take] at hs
  have es : ((ts.take (i + 1)).map pct).sum = ((ts.take i).map pct).sum + pct t := by rw [List.take_add_one, hx]; simp
  have tw : twiceAt ts i = (!decide (t.2.1 = s_) && (ts.take i).any (tagIs t.2.1)) := by unfold twiceAt; rw [hx]
  have next : ∀ {w}, twiceAt ts i = false → St w0 E w → again (IntKind.wrap .i64 (((ts.take i).map pct).sum + pct t), IntKind.wrap .i64 ((i : Int) + 1), ()) w := by
   intro w hf h
   rw [wr (by omega) (by omega), wr (by omega) (by omega)]
   refine hag (q - 1) _ w (by omega) ⟨i + 1, by rw [es]; simp, by omega, ?_, h⟩
   rw [List.range_succ, List.any_append, hno]; simp [hf]
  refine jd ?_
  have rr := r w h
  refine rr.ix encT (by omega) (by simpa using hi) fun a ha => ?_
  rw [Int.toNat_natCast] at ha
  refine rr.lda encT ha hx rfl ?_
  refine nw h ?_; clear h; (try clear w); intro b7 w h
  (refine stC h ?_; clear h; (try clear w); intro w h; dsimp only [putN, setN] at h; refine ldC h ?_; refine ldC h ?_)
  rw [z44]
  refine it (fun hc => ?_) (fun hc => ?_)
  ·refine gd (by omega) ?_
   have hc : decide (t.2.1 = s_) = false := by simpa using hc
   rw [hc] at tw
   have h : St w0 ([Cl b7 z0k (eT t)] :: E) w := h
   have r2 : RdE w0 E eT ⟨if Int.toNat ((v.cap : Nat) : Int) = Int.toNat (0 : Int) then v.a else Option.map (fun a : Addr => a.add (Int.toNat (0 : Int) * 3)) v.a, Int.toNat (i : Int) - Int.toNat (0 : Int), Int.toNat ((v.cap : Nat) : Int) - Int.toNat (0 : Int)⟩ (ts.take i) := by
    intro w h
    have := (r w h).cut encT 0 i (by omega) (by omega) hvc (v.cap - 0)
    simpa using this
   refine zb1 h r2 (by rw [List.length_take]; omega) fun w h => ?_
   refine it (fun hd => ?_) (fun hd => ?_)
   ·have e : (List.range ts.length).any (twiceAt ts) = true := List.any_eq_true.2 ⟨i, List.mem_range.2 hi, by rw [tw, hd]; rfl⟩
    have := hk w (dl0_ h)
    unfold allE at this
    rw [if_pos e] at this
    exact ⟨_, rfl, this⟩
   ·have hd : (ts.take i).any (tagIs t.2.1) = false := by simpa using hd
    exact next (by rw [tw, hd]; rfl) (dl0_ h)
  ·have hc : decide (t.2.1 = s_) = true := by simpa using hc
   exact next (by rw [tw, hc]; rfl) (dl0_ h)
 ·have e : ts.take i = ts := List.take_of_length_le (by omega)
  have ei : i = ts.length := by omega
  rw [e]
  rw [ei] at hno
  have := hk w h
  unfold allE at this
  rw [if_neg (by simp [hno])] at this
  refine it (fun hs => ?_) (fun hs => ?_) <;> (try simp only [zB] at hs)
  ·rw [if_neg hs] at this; exact ⟨_, rfl, this⟩
  ·rw [if_pos hs] at this; exact ⟨_, rfl, this⟩
def specE (a : ARt) : Int :=
 if shortB a.name.data.toList 16 = true ∧ shortB a.cfg.data.toList 16 = true then
  if 0 ≤ a.roll ∧ a.roll ≤ 60 then
   if 1 ≤ a.ts.length ∧ a.ts.length ≤ 6 then
    match a.ts.find? fun t => decide (tgE t ≠ 0) with
    | some t => tgE t
    | none => allE a.ts
   else 3
  else 2
 else 1
theorem ze5 {t : Tgt} (h : tgE t = 0) : 0 ≤ pct t ∧ pct t ≤ 100 := by
 unfold tgE at h
 split at h
 ·cases h
 ·split at h
  ·rename_i h2; exact h2
  ·cases h
theorem zdH (h : St w0 E w) {a : ARt} {v : Sl} (r : RdE w0 E eT v a.ts) (hvc : v.len ≤ v.cap) (hr : ∀ t ∈ a.ts, revOk t.1) {k : Int → PT} (hk : ∀ w', St w0 E w' → k (specE a) w') :
  L.call Pr z08 [.agg #[.string a.name, .string a.cfg, .slice v.a v.len v.cap, I a.roll]] (.one (.one (.int .i64))) k w := by
 refine z04 (z9n (a.name, a.cfg, v, a.roll, ())) ?_
 unfold z6o
 have hl := (r w h).len
 refine nw h ?_; clear h; (try clear w); intro b1 w h
 unfold specE at hk
 refine z58 (fun z w => z = (!(shortB a.name.data.toList 16 && shortB a.cfg.data.toList 16), ()) ∧ St w0 ([Cl b1 z3e [.string a.name, .string a.cfg, .slice v.a v.len v.cap, I a.roll]] :: E) w) (fun k2 hk2 => ?_) (fun z w ⟨hz, h⟩ => ?_)
 ·(dsimp only [setN, List.cons_append, List.nil_append] at h; refine ldC h ?_)
  refine z9h h z33 fun w h => ?_
  refine it (fun hc => ?_) (fun hc => ?_)
  ·have hc : shortB a.name.data.toList 16 = false := by simpa using hc
   rw [hc] at hk2 ⊢
   exact hk2 _ w ⟨rfl, h⟩
  ·have hc : shortB a.name.data.toList 16 = true := by simpa using hc
   rw [hc] at hk2
   (refine ldC h ?_)
   refine z9h h z33 fun w h => ?_
   exact hk2 _ w ⟨by simp, h⟩
 ·subst hz
  dsimp only
  have out : ∀ {w} {x : Int}, (∀ w', St w0 E w' → k x w') → St w0 ([Cl b1 z3e [.string a.name, .string a.cfg, .slice v.a v.len v.cap, I a.roll]] :: E) w → ∃ y, I x = RT.val (.one (.one (.int .i64))) y ∧ k y w := fun hx h => ⟨_, rfl, hx _ (dl0_ h)⟩
  refine it (fun hc => ?_) (fun hc => ?_)
  ·have hc : (shortB a.name.data.toList 16 && shortB a.cfg.data.toList 16) = false := (Bool.not_eq_true' _).mp hc
   rw [if_neg (fun hh => by rw [hh.1, hh.2] at hc; cases hc)] at hk
   exact out hk h
  rw [if_pos (by simpa using hc)] at hk
  (refine ldC h ?_)
  refine z3f h fun w h => ?_
  refine it (fun hc => ?_) (fun hc => ?_)
  ·have hc := of_decide_eq_false ((Bool.not_eq_true' _).mp hc)
   rw [if_neg hc] at hk
   exact out hk h
  rw [if_pos (by simpa using hc)] at hk
  (refine ldC h ?_)
  refine z3f h fun w h => ?_
  refine it (fun hc => ?_) (fun hc => ?_)
  ·have hc := of_decide_eq_false (show decide (1 ≤ ((v.len : Nat) : Int) ∧ ((v.len : Nat) : Int) ≤ 6) = false from (Bool.not_eq_true' _).mp hc)
   rw [if_neg (by omega)] at hk
   exact out hk h
  have hc := of_decide_eq_true (show decide (1 ≤ ((v.len : Nat) : Int) ∧ ((v.len : Nat) : Int) ≤ 6) = true by simpa using hc)
  rw [if_pos (by omega)] at hk
  (refine ldC h ?_)
  refine z2h (fun q y w => ∃ i : Nat, y = ((i : Int), ()) ∧ q + i = a.ts.length ∧ (a.ts.take i).find? (fun t => decide (tgE t ≠ 0)) = none ∧ St w0 ([Cl b1 z3e [.string a.name, .string a.cfg, .slice v.a v.len v.cap, I a.roll]] :: E) w) a.ts.length ⟨0, rfl, rfl, rfl, h⟩ ?_
  clear h; (try clear w)
  rintro q y w ⟨i, rfl, hq, hno, h⟩ again hag
  dsimp only
  refine it (fun hb => ?_) (fun hb => ?_) <;> (try simp only [zB] at hb)
  ·have hi : i < a.ts.length := by omega
   have hx : a.ts[i]? = some a.ts[i] := List.getElem?_eq_getElem hi
   have hdr : a.ts = a.ts.take i ++ a.ts[i] :: a.ts.drop (i + 1) := by rw [← List.drop_eq_getElem_cons hi, List.take_append_drop]
   generalize a.ts[i] = t at hx hdr
   have rr := r w (dl0_ h)
   refine rr.ix encT (by omega) (by simpa using hi) fun ad ha => ?_
   rw [Int.toNat_natCast] at ha
   refine rr.lda encT ha hx rfl ?_
   refine nw h ?_; clear h; (try clear w); intro b17 w h
   (refine stC h ?_; clear h; (try clear w); intro w h; dsimp only [putN, setN] at h; refine laC h ?_)
   refine zd0 (t := t) h (hr t (List.mem_of_getElem? hx)) fun w h => ?_
   have h := dl0_ h
   refine it (fun hc => ?_) (fun hc => ?_)
   ·have hc : tgE t ≠ 0 := by simpa using hc
    have e : a.ts.find? (fun t => decide (tgE t ≠ 0)) = some t := by
     rw [hdr, List.find?_append, hno]; simp [hc]
    rw [e] at hk
    exact out hk h
   ·have hc : tgE t = 0 := by simpa using hc
    rw [wr (by omega) (by omega)]
    refine hag (q - 1) _ w (by omega) ⟨i + 1, by simp, by omega, ?_, h⟩
    rw [List.take_add_one, hx, List.find?_append, hno]; simp [hc]
  ·have e : a.ts.take i = a.ts := List.take_of_length_le (by omega)
   rw [e] at hno
   rw [hno] at hk
   have hall : ∀ t ∈ a.ts, 0 ≤ pct t ∧ pct t ≤ 100 := fun t ht => ze5 (by simpa using List.find?_eq_none.1 hno t ht)
   (refine ldC h ?_)
   refine zdJ h (fun w h => r w (dl0_ h)) hvc (by omega) hall fun w h => ?_
   exact out hk h
theorem rt {v : Sl} {l : List Tgt} (r : Rd w eT v l) {n : Int} {x : Tgt} (hx : l[n.toNat]? = some x) (h0 : 0 ≤ n) {f : Nat} {lf : Lf} {u : Value} {y : lf.T} {kk : lf.T → PT} (hu : nth (eT x) f = some u) (hy : un2 lf u = some y) (hk : kk y w) :
  L.idx v.a n v.len 3 (fun a => L.load (.one lf) (a.add f) kk) w :=
 r.ix encT h0 (List.getElem?_eq_some_iff.1 hx).1 fun a ha => r.ld encT ha hx hu hy hk
theorem zdL (h : St w0 E w) {k : Option Addr → PT} (hk : ∀ b s w', ShS b ⟨[], [], 0⟩ s → St w0 (s :: E) w' → k (some ⟨b, 0, none⟩) w') : L.call Pr z54 [] (.one (.one .ptr)) k w := by
 refine z04 z9S ?_
 unfold z7e
 refine zdR h fun bc sc w hC h => ?_
 refine zdQ h fun br sr w hR h => ?_
 refine nw h ?_; clear h; (try clear w); intro b w h
 refine ⟨_, rfl, hk b _ w ⟨⟨by simp, by simp, fun x => by simp [tget, mget, noThg, Thg.gen], by simp, by simp⟩, bc, br, sc, sr, hC, hR, rfl⟩ ?_⟩
 have h := fr2_ (fr2_ (fr1_ h))
 exact h.glue3
def noCfg : Cfg := (s_, 0, 0, 0, 0, 0, ())
abbrev Shr := HT [.str, .int .i64]
def eSh (t : Shr) : List Value := [.string t.1, I t.2.1]
abbrev Tgo := HT [.str, .str]
def eTo (t : Tgo) : List Value := [.string t.1, .string t.2.1]
structure ATab where
 sh : List Shr
 tg : List Tgo
structure TabR (w0 : World) (E : List Seg) (p : HT [.slice, .slice]) (t : ATab) : Prop where
 sh : RdE w0 E eSh p.1 t.sh
 tg : RdE w0 E eTo p.2.1 t.tg
 nsh : p.1.a = none → t.sh = []
 ntg : p.2.1.a = none → t.tg = []
 fsh : t.sh.length < 100000
 ftg : t.tg.length < 100000
theorem TabR.there {p : HT [.slice, .slice]} {t : ATab} {s : Seg} (r : TabR w0 E p t) : TabR w0 (s :: E) p t := ⟨fun w h => r.sh w (dl0_ h), fun w h => r.tg w (dl0_ h), r.nsh, r.ntg, r.fsh, r.ftg⟩
def shT (s : Shr) : ByteArray := (s.1 ++ zco) ++ decD (@id Int s.2.1).toNat
def toT (s : Tgo) : ByteArray := (s.1 ++ zcn) ++ s.2.1
def tabParts (t : ATab) : List ByteArray := t.sh.map shT ++ t.tg.map toT
def tabText (t : ATab) : ByteArray := joinB (tabParts t)
end Go.Proofs.YtkmalcoocklikaaGreatDoor

namespace Go.Proofs
open Go.Shelf
end Go.Proofs
namespace Go.Proofs.YtkmalcoocklikaaGreatDoor
open Go.Dm
attribute [local irreducible] L.load L.store L.chk L.new L.nonnil L.guard L.ite L.draw L.idx L.sem L.semR L.semU L.chkSem L.next L.call L.callV L.join L.alts L.loop L.begin L.endRound L.range
variable {w0 w : World} {E : List Seg}
abbrev Wy := HT [.slice, .slice, .int .i64, .int .i64, .slice, .slice]
abbrev eWy : E1 := .agg [.slice, .slice, .int .i64, .int .i64, .slice, .slice]
def vWy (t : Wy) : Value := eWy.val t
structure AWay where
 fr : List Shr
 to : List Shr
 since : Int
 whole : Int
 ns : List Shr
 ng : List Tgo
abbrev WBd (l : List Shr) : Prop := ∀ s ∈ l, 0 ≤ @id Int s.2.1 ∧ @id Int s.2.1 ≤ 1000
structure AWay.Ok (a : AWay) : Prop where
 fr : WBd a.fr
 to : WBd a.to
 ns : WBd a.ns
 lf : a.fr.length < 100000
 lt : a.to.length < 100000
 ln : a.ns.length < 100000
 lg : a.ng.length < 100000
structure WyE where
 k : ByteArray
 t : Wy
 a : AWay
def WyE.ok (P : List Seg) (x : WyE) : Prop :=
 (∃ s ∈ P, Rw eSh z3d 2 x.t.1 x.a.fr s) ∧ (∃ s ∈ P, Rw eSh z3d 2 x.t.2.1 x.a.to s) ∧ x.t.2.2.1 = x.a.since ∧ x.t.2.2.2.1 = x.a.whole ∧ (∃ s ∈ P, Rw eSh z3d 2 x.t.2.2.2.2.1 x.a.ns s) ∧ (∃ s ∈ P, Rw eTo z9O 2 x.t.2.2.2.2.2.1 x.a.ng s)
abbrev WyE.kt (x : WyE) : ByteArray × Wy := (x.k, x.t)
abbrev WyE.ka (x : WyE) : ByteArray × AWay := (x.k, x.a)
abbrev ARoll := List (ByteArray × AWay)
def RolS (b : Nat) (m : ARoll) (s : Seg) : Prop := ∃ r sm, ∃ (P : List Seg) (Q : List WyE), MpS Value.string vWy r (Q.map WyE.kt) sm ∧ (∀ x ∈ Q, x.ok P) ∧ m = Q.map WyE.ka ∧ s = [Cl b z5A [.map (some r)]] ++ (sm ++ P.flatten)
theorem zdM (h : St w0 E w) {k : Option Addr → PT} (hk : ∀ b s w', RolS b [] s → St w0 (s :: E) w' → k (some ⟨b, 0, none⟩) w') : L.call Pr z5Y [] (.one (.one .ptr)) k w := by
 refine z04 zb3 ?_
 unfold z7O
 refine MpS.new h Value.string vWy fun r s w hm h => ?_
 refine nw h ?_; clear h; (try clear w); intro b w h
 exact ⟨_, rfl, hk b _ w ⟨r, s, [], [], hm, by simp, rfl, by simp⟩ h.glue⟩
instance : DecidableEq Shr := inferInstanceAs (DecidableEq (ByteArray × Int × Unit))
instance : DecidableEq Tgo := inferInstanceAs (DecidableEq (ByteArray × ByteArray × Unit))
structure WyR (P : List Seg) (t : Wy) (a : AWay) : Prop where
 fr : ∃ s ∈ P, Rw eSh z3d 2 t.1 a.fr s
 to : ∃ s ∈ P, Rw eSh z3d 2 t.2.1 a.to s
 since : t.2.2.1 = a.since
 whole : t.2.2.2.1 = a.whole
theorem zstr (w : World) : (zeroValue z05).run Pr w = .ok ((E1.one .str).val s_) w := by
 have h : (Pr.info? z05).map (·.zero) = some (some (.string s_)) := by kernel_rfl
 cases hi : Pr.info? z05 with
 | none => rw [hi] at h; cases h
 | some i => rw [hi] at h; simp only [Option.map_some, Option.some.injEq] at h; exact zv hi h w
def ordI (m : List (ByteArray × Int)) : List (HT [.str, (.int .i64)]) := (ssort (m.map (·.1))).map fun k => (k, (mget m k).getD (0 : Int), ())
def ordS (m : List (ByteArray × ByteArray)) : List (HT [.str, .str]) := (ssort (m.map (·.1))).map fun k => (k, (mget m k).getD s_, ())
def tgtOf (a : ABook) (cfg : ByteArray) (t : Tgt) : ByteArray × Int :=
 if t.1 = s_ then (if bkReady a cfg = s_ then (s_, 9) else (bkReady a cfg, 0)) else if bkHas a t.1 = true then (if bkProved a t.1 = true then (t.1, 0) else (s_, 9)) else (s_, 6)
abbrev rtV (r : ARt) (v : Sl) : Value := .agg #[.string r.name, .string r.cfg, .slice v.a v.len v.cap, I r.roll]
abbrev MSI := List (ByteArray × Int)
abbrev MSS := List (ByteArray × ByteArray)
def resGo (a : ABook) (cfg : ByteArray) : List Tgt → MSI → MSS → Int × MSI × MSS
 | [], ws, ts => (0, ws, ts)
 | t :: l, ws, ts => if (tgtOf a cfg t).2 = 0 then resGo a cfg l (mset ws (tgtOf a cfg t).1 ((mget ws (tgtOf a cfg t).1).getD 0 + pct t)) (if t.2.1 = s_ then ts else mset ts t.2.1 (tgtOf a cfg t).1) else ((tgtOf a cfg t).2, ws, ts)
abbrev posW (x : Shr) : Bool := decide (@id Int x.2.1 > 0)
def resolve (a : ABook) (r : ARt) : ATab × Int :=
 if (resGo a r.cfg r.ts [] []).1 = 0 then (⟨(ordI (resGo a r.cfg r.ts [] []).2.1).filter posW, ordS (resGo a r.cfg r.ts [] []).2.2⟩, 0) else (⟨[], []⟩, (resGo a r.cfg r.ts [] []).1)
structure AEv where
 kind : Int
 name : ByteArray
 tag : ByteArray
 n : Int
 draw : Int
 c : Cfg
 r : ARt
 v : Sl
abbrev EvT := HT [.int .i64, .str, .str, .int .i64, .int .i64, .str, .int .i64, .int .i64, .int .i64, .int .i64, .int .i64, .str, .str, .slice, .int .i64]
abbrev AEv.t (e : AEv) : EvT := (e.kind, e.name, e.tag, e.n, e.draw, e.c.1, e.c.2.1, e.c.2.2.1, e.c.2.2.2.1, e.c.2.2.2.2.1, e.c.2.2.2.2.2.1, e.r.name, e.r.cfg, e.v, e.r.roll, ())
abbrev evV (e : AEv) : Value := .agg #[I e.kind, .string e.name, .string e.tag, I e.n, I e.draw, .string e.c.1, I e.c.2.1, I e.c.2.2.1, I e.c.2.2.2.1, I e.c.2.2.2.2.1, I e.c.2.2.2.2.2.1, .string e.r.name, .string e.r.cfg, .slice e.v.a e.v.len e.v.cap, I e.r.roll]
abbrev Has := HT [.bool, .bool, .bool, .bool, .bool, .bool]
def shp (k : Int) : Has × Bool :=
 if k = 1 then ((true, false, false, false, true, false, ()), true) else if k = 2 then ((true, false, false, false, false, true, ()), true) else if k = 3 then ((true, true, false, true, false, false, ()), true)
 else if k = 4 then ((true, true, true, true, false, false, ()), true) else if k = 5 ∨ k = 6 ∨ k = 7 ∨ k = 8 then ((true, false, false, false, false, false, ()), true) else if k = 9 then ((false, false, false, false, false, false, ()), true)
 else if k = 10 ∨ k = 11 ∨ k = 12 ∨ k = 13 then ((false, true, false, false, false, false, ()), true) else ((false, false, false, false, false, false, ()), false)
theorem zdK (h : St w0 E w) {x : Int} {k : Has × Bool × Unit → PT} (hk : ∀ w', St w0 E w' → k ((shp x).1, (shp x).2, ()) w') : L.call Pr z3T [I x] (.tup [.agg [.bool, .bool, .bool, .bool, .bool, .bool], .one .bool]) k w := by
 refine z04 (z8q x) ?_
 unfold z5L
 unfold shp at hk
 refine nw h ?_; clear h; (try clear w); intro b1 w h
 ((try dsimp only [setN, List.cons_append, List.nil_append] at h); repeat' (first | refine nn ?_ | (refine dr h ?_; clear h; (try clear w); intro w h) | refine ldC h ?_ | refine laC h ?_ | refine ckC h ?_ | (refine stC h ?_; clear h; (try clear w); intro w h; (try dsimp only [putN, setN] at h)) | rw [z22] | refine jd ?_ | (refine it (fun hc => ?_) (fun hc => ?_) <;> (try simp only [zB] at hc))))
 all_goals exact ⟨(_, _, ()), rfl, eqk (hk w (dl0_ h)) (by clear h hk; simp_all)⟩
theorem zdO {t : Bool} {x : Int} {k : Bool → PT} (hk : k (t || decide (x = 0)) w) : L.call Pr z1Y [.bool t, I x] (.one (.one .bool)) k w := by
 refine z04 (z6D t x) ?_
 unfold z4d
 cases t with
 | true => exact itT rfl ⟨true, rfl, hk⟩
 | false => exact itF rfl ⟨_, rfl, eqk hk (by rw [Bool.false_or, Bool.eq_iff_iff]; simp)⟩
theorem zdN {t : Bool} {x : ByteArray} {k : Bool → PT} (hk : k (t || decide (x = s_)) w) : L.call Pr z1f [.bool t, .string x] (.one (.one .bool)) k w := by
 refine z04 (z5h t x) ?_
 unfold z3l
 cases t with
 | true => exact itT rfl ⟨true, rfl, hk⟩
 | false => exact itF rfl ⟨_, rfl, eqk hk (by rw [z44, Bool.false_or])⟩
theorem zdP (h : St w0 E w) {t : Bool} {c : Cfg} {k : Bool → PT} (hk : ∀ w', St w0 E w' → k (t || sameC c noCfg) w') : L.call Pr z1g [.bool t, .agg (Cfg.cells c).toArray] (.one (.one .bool)) k w := by
 refine z04 (z41 t c) ?_
 unfold z2n
 refine nw h ?_; clear h; (try clear w); intro b1 w h
 refine nw h ?_; clear h; (try clear w); intro b2 w h
 cases t with
 | true => exact itT rfl ⟨true, rfl, hk w (dl0_ (dl0_ h))⟩
 | false =>
  refine itF rfl ?_
  (refine laC h ?_; refine laC h ?_)
  unfold L.chkSem
  refine ⟨zes c noCfg w, _, rfl, ?_⟩
  exact hk w (dl0_ (dl0_ h))
def bareE (r : ARt) (n : Nat) : Bool := decide (r.name = s_) && (decide (r.cfg = s_) && (decide (r.roll = 0) && decide (n = 0)))
theorem zeE (h : St w0 E w) {r : ARt} {v : Sl} {k : Bool → PT} (hk : ∀ w', St w0 E w' → k (bareE r v.len) w') : L.call Pr z4m [rtV r v] (.one (.one .bool)) k w := by
 refine z04 (z9q (r.name, r.cfg, v, r.roll, ())) ?_
 unfold z6r
 refine nw h ?_; clear h; (try clear w); intro b1 w h
 (dsimp only [setN, List.cons_append, List.nil_append] at h; refine ldC h ?_)
 rw [z44]
 unfold bareE at hk
 cases h1 : decide (r.name = s_) with
 | false => exact itF rfl ⟨false, rfl, by rw [h1] at hk; exact hk w (dl0_ h)⟩
 | true =>
  refine itT rfl ?_
  (refine ldC h ?_)
  rw [z44]
  cases h2 : decide (r.cfg = s_) with
  | false => exact itF rfl ⟨false, rfl, by rw [h1, h2] at hk; exact hk w (dl0_ h)⟩
  | true =>
   refine itT rfl ?_
   (refine ldC h ?_)
   refine it (fun h3 => ?_) (fun h3 => ?_)
   ·(refine ldC h ?_)
    have h3 : decide (r.roll = 0) = true := by simpa using h3
    rw [h1, h2, h3] at hk
    refine ⟨_, rfl, eqk (hk w (dl0_ h)) ?_⟩
    rw [Bool.eq_iff_iff]; simp
   ·have h3 : decide (r.roll = 0) = false := by simpa using h3
    rw [h1, h2, h3] at hk
    exact ⟨false, rfl, hk w (dl0_ h)⟩
def wiB (n a b : Int) : Bool := decide (a ≤ n) && decide (n ≤ b)
theorem z3I {n a b : Int} {k : Bool → PT} (hk : k (wiB n a b) w) : L.call Pr z0d [I n, I a, I b] (.one (.one .bool)) k w := by
 refine z04 (z7t n a b) ?_
 unfold z4X
 unfold wiB at hk
 refine it (fun h1 => ?_) (fun h1 => ?_)
 ·have h1 : decide (a ≤ n) = true := h1
  rw [h1] at hk
  exact ⟨_, rfl, hk⟩
 ·have h1 : decide (a ≤ n) = false := h1
  rw [h1] at hk
  exact ⟨_, rfl, hk⟩
def numE (e : AEv) : Bool := if e.kind = 1 ∨ e.kind = 2 then wiB e.n 0 2147483647 else if e.kind = 3 then wiB e.n 1 2 else wiB e.n 1 2147483647
theorem zb0 (h : St w0 E w) {e : AEv} {k : Bool → PT} (hk : ∀ w', St w0 E w' → k (numE e) w') : L.call Pr z3x [evV e] (.one (.one .bool)) k w := by
 refine z04 (z7u e.t) ?_
 unfold z4Y
 unfold numE at hk
 refine nw h ?_; clear h; (try clear w); intro b1 w h
 (dsimp only [setN, List.cons_append, List.nil_append] at h; refine ldC h ?_)
 refine jd ?_
 refine it (fun h1 => ?_) (fun h1 => ?_)
 ·have h1' : e.kind = 1 := by simpa using h1
  refine itT h1 ?_
  (refine ldC h ?_)
  refine z3I ⟨_, rfl, ?_⟩
  rw [if_pos (.inl h1')] at hk
  exact hk w (dl0_ h)
 ·have h1' : ¬ e.kind = 1 := by simpa using h1
  refine it (fun h2 => ?_) (fun h2 => ?_)
  ·have h2' : e.kind = 2 := by simpa using h2
   (refine ldC h ?_)
   refine z3I ⟨_, rfl, ?_⟩
   rw [if_pos (.inr h2')] at hk
   exact hk w (dl0_ h)
  ·have h2' : ¬ e.kind = 2 := by simpa using h2
   rw [if_neg (fun hh => hh.elim h1' h2')] at hk
   refine it (fun h3 => ?_) (fun h3 => ?_)
   ·have h3' : e.kind = 3 := by simpa using h3
    rw [if_pos h3'] at hk
    (refine ldC h ?_)
    exact z3I ⟨_, rfl, hk w (dl0_ h)⟩
   ·have h3' : ¬ e.kind = 3 := by simpa using h3
    rw [if_neg h3'] at hk
    (refine ldC h ?_)
    exact z3I ⟨_, rfl, hk w (dl0_ h)⟩
def RevN (n : ByteArray) : Prop := ∃ c g, shortB c.data.toList 16 = true ∧ 1 ≤ g ∧ g < 100 ∧ n = revB c g
def namedE (e : AEv) : Bool := if e.kind = 12 ∨ e.kind = 13 then true else shortB e.name.data.toList 16
theorem zca (h : St w0 E w) {e : AEv} (hr : e.kind = 12 ∨ e.kind = 13 → RevN e.name) {k : Bool → PT} (hk : ∀ w', St w0 E w' → k (namedE e) w') : L.call Pr z2U [evV e] (.one (.one .bool)) k w := by
 refine z04 (z8r e.t) ?_
 unfold z5M
 unfold namedE at hk
 refine nw h ?_; clear h; (try clear w); intro b1 w h
 (dsimp only [setN, List.cons_append, List.nil_append] at h; refine ldC h ?_)
 refine it (fun h1 => ?_) (fun h1 => ?_)
 ·have h1' : e.kind = 12 := by simpa using h1
  obtain ⟨c, g, hc, g1, g2, en⟩ := hr (.inl h1')
  rw [if_pos (.inl h1')] at hk
  (refine ldC h ?_)
  rw [en]
  exact z9Q h z33 hc g1 g2 fun w h => ⟨_, rfl, hk w (dl0_ h)⟩
 ·have h1' : ¬ e.kind = 12 := by simpa using h1
  (refine ldC h ?_)
  refine it (fun h2 => ?_) (fun h2 => ?_)
  ·have h2' : e.kind = 13 := by simpa using h2
   obtain ⟨c, g, hc, g1, g2, en⟩ := hr (.inr h2')
   rw [if_pos (.inr h2')] at hk
   (refine ldC h ?_)
   rw [en]
   exact z9Q h z33 hc g1 g2 fun w h => ⟨_, rfl, hk w (dl0_ h)⟩
  ·have h2' : ¬ e.kind = 13 := by simpa using h2
   rw [if_neg (fun hh => hh.elim h1' h2')] at hk
   (refine ldC h ?_)
   exact z9h h z33 fun w h => ⟨_, rfl, hk w (dl0_ h)⟩
def noneE (s : Has) (e : AEv) : Bool :=
 (s.1 || decide (e.n = 0)) && ((s.2.1 || decide (e.name = s_)) && ((s.2.2.1 || decide (e.tag = s_)) && ((s.2.2.2.1 || decide (e.draw = 0)) && ((s.2.2.2.2.1 || sameC e.c noCfg) && (s.2.2.2.2.2.1 || bareE e.r e.v.len)))))
def chkS (s : Has) (e : AEv) : Int :=
 if noneE s e = false then 2 else if s.1 = true ∧ numE e = false then 2 else if s.2.1 = true ∧ namedE e = false then 1
 else if s.2.2.1 = true ∧ e.tag ≠ s_ ∧ shortB e.tag.data.toList 8 = false then 1 else if s.2.2.2.1 = true ∧ wiB e.draw 0 2147483647 = false then 2
 else if s.2.2.2.2.1 = true then specC e.c else if s.2.2.2.2.2.1 = true then specE e.r else 0
def chkEv (e : AEv) : Int := if (shp e.kind).2 = false then 12 else chkS (shp e.kind).1 e
theorem zbl (k : Int) : (shp k).1 = (true, false, false, false, true, false, ()) ∨ (shp k).1 = (true, false, false, false, false, true, ()) ∨ (shp k).1 = (true, true, false, true, false, false, ()) ∨ (shp k).1 = (true, true, true, true, false, false, ()) ∨
  (shp k).1 = (true, false, false, false, false, false, ()) ∨ (shp k).1 = (false, false, false, false, false, false, ()) ∨ (shp k).1 = (false, true, false, false, false, false, ()) := by
 unfold shp
 repeat' split
 all_goals simp
theorem z9g (h : St w0 E w) {e : AEv} (hn : e.kind = 12 ∨ e.kind = 13 → RevN e.name) (rd : RdE w0 E eT e.v e.r.ts) (hvc : e.v.len ≤ e.v.cap) (hrv : ∀ t ∈ e.r.ts, revOk t.1) {k : Int → PT} (hk : ∀ w', St w0 E w' → k (chkEv e) w') :
  L.call Pr z3U [evV e] (.one (.one (.int .i64))) k w := by
 refine z04 (z8s e.t) ?_
 unfold z5N
 unfold chkEv at hk
 refine nw h ?_; clear h; (try clear w); intro b1 w h
 (dsimp only [setN, List.cons_append, List.nil_append] at h; refine ldC h ?_)
 refine zdK h fun w h => ?_
 have hs := zbl e.kind
 generalize (shp e.kind).1 = s at *
 generalize (shp e.kind).2 = t at *
 refine nw h ?_; clear h; (try clear w); intro b4 w h
 (refine stC h ?_; clear h; (try clear w); intro w h; dsimp only [putN, setN] at h)
 cases t with
 | false => exact itT rfl ⟨12, rfl, by rw [if_pos rfl] at hk; exact hk w (dl0_ (dl0_ h))⟩
 | true =>
  refine itF rfl ?_
  rw [if_neg (by decide)] at hk
  unfold chkS at hk
  have rd' : ∀ {s1 s2 : Seg} {w}, St w0 (s1 :: s2 :: E) w → Rd w eT e.v e.r.ts := fun h => rd _ (dl0_ (dl0_ h))
  rcases hs with rfl | rfl | rfl | rfl | rfl | rfl | rfl
  all_goals repeat' (first | refine nn ?_ | (refine dr h ?_; clear h; (try clear w); intro w h) | refine ldC h ?_ | refine laC h ?_ | refine ckC h ?_ | (refine stC h ?_; clear h; (try clear w); intro w h; (try dsimp only [putN, setN] at h)) | rw [z22] | refine jd ?_ | refine itT rfl ?_ | refine itF rfl ?_ | refine zdO ?_ | refine zdN ?_ | (refine zdP (c := e.c) h fun w h => ?_) | (refine zeE (r := e.r) (v := e.v) h fun w h => ?_) | (refine zb0 (e := e) h fun w h => ?_) | (refine zca (e := e) h hn fun w h => ?_) | (refine zeF h z33 fun w h => ?_) | refine z3I ?_ | (refine zdI (c := e.c) h fun w h => ?_) | (refine zdH (a := e.r) (v := e.v) h (fun w h => rd' h) hvc hrv fun w h => ?_) | (refine it (fun hc => ?_) (fun hc => ?_)))
  all_goals exact ⟨_, rfl, eqk (hk w (dl0_ (dl0_ h))) (by clear hk h rd rd' hrv hn hvc; (try simp only [z44] at *); simp_all [noneE])⟩
end Go.Proofs.YtkmalcoocklikaaGreatDoor

namespace Go.Proofs
open Go.Shelf
def Tryz.lays189_ren : Go.Shelf.Ren := ⟨fun | 189 => 113 | 125 => 185 | 257 => 184 | 128 => 245 | 129 => 246 | 294 => 236 | 295 => 237 | 296 => 238 | 297 => 239 | 298 => 240 | 299 => 241 | 216 => 242 | 300 => 243 | 301 => 244 | 328 => 276 | 329 => 277 | 330 => 278 | 331 => 279 | 332 => 280 | 215 => 281 | 343 => 297 | n => n, fun | 28 => 24 | 3 => 3 | 46 => 331 | 0 => 0 | 51 => 396 | 53 => 398 | 4 => 4 | 183 => 390 | 182 => 389 | 131 => 273 | 5 => 5 | 9 => 9 | 218 => 421 | 222 => 425 | 228 => 443 | 229 => 46 | n => n, fun | n => n⟩
theorem Tryz.lays189 : Go.Proofs.Lays.n189 Tryz.prog Tryz.lays189_ren := {
 mixed := by kernel_rfl
 f125 := Tryz.func185.trans (congrArg some (by kernel_rfl))
 f128 := Tryz.func245.trans (congrArg some (by kernel_rfl))
 f129 := Tryz.func246.trans (congrArg some (by kernel_rfl))
 f189 := Tryz.func113.trans (congrArg some (by kernel_rfl))
 f215 := Tryz.func281.trans (congrArg some (by kernel_rfl))
 f216 := Tryz.func242.trans (congrArg some (by kernel_rfl))
 f257 := Tryz.func184.trans (congrArg some (by kernel_rfl))
 f294 := Tryz.func236.trans (congrArg some (by kernel_rfl))
 f295 := Tryz.func237.trans (congrArg some (by kernel_rfl))
 f296 := Tryz.func238.trans (congrArg some (by kernel_rfl))
 f297 := Tryz.func239.trans (congrArg some (by kernel_rfl))
 f298 := Tryz.func240.trans (congrArg some (by kernel_rfl))
 f299 := Tryz.func241.trans (congrArg some (by kernel_rfl))
 f300 := Tryz.func243.trans (congrArg some (by kernel_rfl))
 f301 := Tryz.func244.trans (congrArg some (by kernel_rfl))
 f328 := Tryz.func276.trans (congrArg some (by kernel_rfl))
 f329 := Tryz.func277.trans (congrArg some (by kernel_rfl))
 f330 := Tryz.func278.trans (congrArg some (by kernel_rfl))
 f331 := Tryz.func279.trans (congrArg some (by kernel_rfl))
 f332 := Tryz.func280.trans (congrArg some (by kernel_rfl))
 f343 := Tryz.func297.trans (congrArg some (by kernel_rfl))
 t0 := Tryz.underlying0
 a0 := Tryz.isAgg0
 z0 := Tryz.sizeOf0
 v0 := Tryz.zeroValue0
 t3 := Tryz.underlying3
 a3 := Tryz.isAgg3
 z3 := Tryz.sizeOf3
 v3 := Tryz.zeroValue3
 t4 := Tryz.underlying4
 a4 := Tryz.isAgg4
 z4 := Tryz.sizeOf4
 v4 := Tryz.zeroValue4
 t5 := Tryz.underlying5
 a5 := Tryz.isAgg5
 z5 := Tryz.sizeOf5
 v5 := Tryz.zeroValue5
 t9 := Tryz.underlying9
 a9 := Tryz.isAgg9
 z9 := Tryz.sizeOf9
 v9 := Tryz.zeroValue9
 t28 := Tryz.underlying24
 a28 := Tryz.isAgg24
 z28 := Tryz.sizeOf24
 v28 := Tryz.zeroValue24
 t46 := Tryz.underlying331
 a46 := Tryz.isAgg331
 z46 := Tryz.sizeOf331
 v46 := Tryz.zeroValue331
 t51 := Tryz.underlying396
 a51 := Tryz.isAgg396
 z51 := Tryz.sizeOf396
 v51 := Tryz.zeroValue396
 t53 := Tryz.underlying398
 a53 := Tryz.isAgg398
 z53 := Tryz.sizeOf398
 v53 := Tryz.zeroValue398
 t131 := Tryz.underlying273
 a131 := Tryz.isAgg273
 z131 := Tryz.sizeOf273
 v131 := Tryz.zeroValue273
 t182 := Tryz.underlying389
 a182 := Tryz.isAgg389
 z182 := Tryz.sizeOf389
 v182 := Tryz.zeroValue389
 t183 := Tryz.underlying390
 a183 := Tryz.isAgg390
 z183 := Tryz.sizeOf390
 v183 := Tryz.zeroValue390
 t218 := Tryz.underlying421
 a218 := Tryz.isAgg421
 z218 := Tryz.sizeOf421
 v218 := Tryz.zeroValue421
 t222 := Tryz.underlying425
 a222 := Tryz.isAgg425
 z222 := Tryz.sizeOf425
 v222 := Tryz.zeroValue425
 t228 := Tryz.underlying443
 a228 := Tryz.isAgg443
 z228 := Tryz.sizeOf443
 v228 := Tryz.zeroValue443
 t229 := Tryz.underlying46
 a229 := Tryz.isAgg46
 z229 := Tryz.sizeOf46
 v229 := Tryz.zeroValue46 }
open Go.Sort Go.RowKit in
theorem Tryz.slices_Sort_int (blk off cap : Nat) (zs : List Int) (w : World) (hH : Holds (Value.int .i64) w blk off zs.toArray) (hblk : blk < w.heap.size) (hsz : zs.length < 4611686018427387904) :
  Calls Tryz.prog 113 #[.slice (some ⟨blk, off, none⟩) zs.length cap] w fun e w' =>
   e = .returned (.tuple #[]) ∧ ∃ n os, w' = grow (putRow (Value.int .i64) (Sort.ahead w n) blk off (zs.mergeSort fun x y => decide (x ≤ y)).toArray) os := Any.slices_Sort_int Tryz.lays189 blk off cap zs w hH hblk hsz
end Go.Proofs
namespace Go.Proofs.YtkmalcoocklikaaGreatDoor
open Go.Dm
attribute [local irreducible] L.load L.store L.chk L.new L.nonnil L.guard L.ite L.draw L.idx L.sem L.semR L.semU L.chkSem L.next L.call L.callV L.join L.alts L.loop L.begin L.endRound L.range
variable {w0 w : World} {E : List Seg}
def isort (l : List Int) : List Int := l.mergeSort fun x y => decide (x ≤ y)
theorem z4E (l : List Int) : (isort l).Perm l := List.mergeSort_perm ..
theorem z8b (l : List Int) : (isort l).Pairwise (· ≤ ·) := by
 have := List.pairwise_mergeSort (le := fun x y : Int => decide (x ≤ y)) (fun a b c h1 h2 => by simp only [decide_eq_true_eq] at *; omega) (fun a b => by simp only [Bool.or_eq_true, decide_eq_true_eq]; omega) l
 exact this.imp fun h => by simpa using h
theorem zcN {l m : List Int} (h : l.Perm m) : isort l = isort m :=
 List.Perm.eq_of_pairwise (fun a b _ _ h1 h2 => by omega) (z8b l) (z8b m) (((z4E l).trans h).trans (z4E m).symm)
theorem zcM {l m : List Int} (h : l.Perm m) (hm : m.Pairwise (· ≤ ·)) : isort l = m :=
 List.Perm.eq_of_pairwise (fun a b _ _ h1 h2 => by omega) (z8b l) hm ((z4E l).trans h)
theorem z6U (l : List Int) : (isort l).length = l.length := (z4E l).length_eq
theorem ze0 (h : St w0 E w) (i : Nat) {s : Seg} (hi : nth E i = some s) {v : Sl} {l : List Int} (hr : Rw eI z0g 1 v l s) (hn : l.length < 1000000000) {k : Unit → PT} (hk : ∀ s' w', Rw eI z0g 1 v (isort l) s' → St w0 (setN E i s') w' → k () w') :
  L.call Pr z2F [.slice v.a v.len v.cap] (.tup []) k w :=
 zbj (encv := Value.int .i64) (fun _ => rfl) encI (isort l) (z6U l) (fun g off cap w h1 h2 => Tryz.slices_Sort_int g off cap l w h1 h2 (by omega)) (fun p cap w => Any.slices_Sort_int_none Tryz.lays189 p cap w) h i hi hr hk
def unI : Value → Int
 | .int _ n => n
 | _ => 0
abbrev KI : Int → Value := Value.int .i64
def vOne (x : ByteArray × Option Addr) : Value := .agg #[.string x.1, .pointer x.2]
theorem zb8 : Pr.underlying z24 = some (.map z0g z9N) := by kernel_rfl
theorem z34 : Pr.underlying z0e = some (.map z0g z0g) := by kernel_rfl
theorem zdn : Pr.underlying z0g = some (.int .i64) := by kernel_rfl
theorem mkI : MK Pr z0g KI := zeh zdn
theorem zi (w : World) : (zeroValue z0g).run Pr w = .ok ((E1.one (.int .i64)).val (0 : Int)) w := by
 have h : (Pr.info? z0g).map (·.zero) = some (some (I 0)) := by kernel_rfl
 cases hi : Pr.info? z0g with
 | none => rw [hi] at h; cases h
 | some i => rw [hi] at h; simp only [Option.map_some, Option.some.injEq] at h; exact zv hi h w
structure APod where
 st : Int
 conc : Int
 reqs : List Int
def insI (x : Int) : List Int → List Int
 | [] => [x]
 | y :: l => if y < x then y :: insI x l else x :: y :: l
structure APod.Ok (p : APod) : Prop where
 pw : p.reqs.Pairwise (· < ·)
 dr : p.st = 3 → p.reqs ≠ []
 dead : p.st = 4 → p.reqs = []
 few : p.reqs.length < 100000000
def podKill (p : APod) : APod × List Int × Int := if p.st = 4 then (p, [], 9) else ({ p with st := 4, reqs := [] }, p.reqs, 0)
def podTake (p : APod) (id : Int) : APod × Int :=
 if p.st ≠ 2 then (p, 9) else if id ∈ p.reqs then (p, 5) else if (p.reqs.length : Int) ≥ p.conc then (p, 8) else ({ p with reqs := insI id p.reqs }, 0)
theorem z6V (x : Int) (l : List Int) : (insI x l).Perm (x :: l) := by
 induction l with
 | nil => exact .refl _
 | cons y l ih =>
  simp only [insI]
  split
  ·exact (ih.cons y).trans (.swap ..)
  ·exact .refl _
def BagIs (m : List (Int × Bool)) (reqs : List Int) : Prop := (∀ p ∈ m, p.2 = true) ∧ (m.map (·.1)).Perm reqs
theorem BagIs.get {m : List (Int × Bool)} {reqs : List Int} (h : BagIs m reqs) (id : Int) : ((mget m id).map fun x => x).getD false = decide (id ∈ reqs) := by
 cases hg : mget m id with
 | none =>
  have := z1H.1 hg
  rw [h.2.mem_iff] at this
  simp [this]
 | some b =>
  have hm := z3V hg
  have hb := h.1 _ hm
  simp only at hb
  subst hb
  have : id ∈ reqs := h.2.mem_iff.1 (List.mem_map_of_mem (f := (·.1)) hm)
  simp [this]
theorem BagIs.len {m : List (Int × Bool)} {reqs : List Int} (h : BagIs m reqs) : m.length = reqs.length := by
 have := h.2.length_eq
 simpa using this
theorem BagIs.put {m : List (Int × Bool)} {reqs : List Int} (h : BagIs m reqs) {id : Int} (hn : id ∉ reqs) : BagIs (mset m id true) (insI id reqs) := by
 have hg : mget m id = none := z1H.2 (fun hm => hn (h.2.mem_iff.1 hm))
 rw [z3F hg]
 refine ⟨fun p hp => ?_, ?_⟩
 ·rcases List.mem_append.1 hp with hp | hp
  ·exact h.1 p hp
  ·simp at hp; subst hp; rfl
 ·rw [List.map_append]
  refine List.Perm.trans ?_ (z6V id reqs).symm
  exact List.perm_append_comm.trans (h.2.cons id)
theorem mdel_perm : ∀ {m : List (Int × Bool)} {k : Int}, ((mdel m k).map (·.1)).Perm ((m.map (·.1)).erase k)
 | [], k => by simp [mdel]
 | p :: m, k => by
  simp only [mdel]
  by_cases e : p.1 = k
  ·rw [if_pos e]; subst e; simp
  ·rw [if_neg e, List.map_cons, List.map_cons, List.erase_cons_tail (by simpa using e)]
   exact (mdel_perm (m := m) (k := k)).cons _
theorem za9 {κ υ : Type} [DecidableEq κ] : ∀ {m : List (κ × υ)} {k : κ} {p : κ × υ}, p ∈ mdel m k → p ∈ m
 | q :: m, k, p, h => by
  simp only [mdel] at h
  split at h
  ·exact List.mem_cons_of_mem _ h
  ·rcases List.mem_cons.1 h with rfl | h
   ·exact List.mem_cons_self ..
   ·exact List.mem_cons_of_mem _ (za9 h)
theorem BagIs.take {m : List (Int × Bool)} {reqs : List Int} (h : BagIs m reqs) (id : Int) : BagIs (mdel m id) (reqs.erase id) :=
 ⟨fun p hp => h.1 p (za9 hp), mdel_perm.trans (h.2.erase id)⟩
def PodS (b : Nat) (p : APod) (s : Seg) : Prop := p.Ok ∧ ∃ r m sm, MpS KI Value.bool r m sm ∧ BagIs m p.reqs ∧ s = [Cl b zc1 [I p.st, .map (some r), I p.conc]] ++ sm
theorem z8k (h : St w0 E w) {v : Sl} {l : List Int} (r : Rd w eI v l) (hn : l.length < 1000000000000) (h64 : v.a = none → l = []) {k : Sl → PT}
  (hk : ∀ (v' : Sl) s' w', Rw eI z0g 1 v' l s' → (v'.a = none ↔ v.a = none) → St w0 (s' :: E) w' → k v' w') : L.call Pr z0x [SlV v] (.one (.one .slice)) k w := by
 refine z04 (z2v _) ?_
 unfold z1t
 exact z6K (K := fun v w' => ∃ x, v = RT.val (.one (.one .slice)) x ∧ k x w') encI elI h r (by omega) hn h64 fun v' s' w' h1 h2 h3 => ⟨v', rfl, hk v' s' w' h1 h2 h3⟩
theorem Rw.nil_of {α : Type} {enc : α → List Value} {e size : Nat} {v : Sl} {l : List α} {s : Seg} (hE : Enc enc size) (hr : Rw enc e size v l s) (h : v.a = none) : l = [] := by
 have := Rw.len hE hr
 unfold Rw at hr
 generalize fl enc l = cs at hr
 cases hr with
 | nil => simpa using this.symm
 | mk => cases h
structure AHeld where
 id : Int
 rev : ByteArray
 pod : APod
structure AFleet where
 room : Int
 last : Int
 l : List AHeld
structure AFleet.Ok (f : AFleet) : Prop where
 pw : f.l.Pairwise (fun x y => x.id < y.id)
 rng : ∀ x ∈ f.l, 0 < x.id ∧ x.id ≤ f.last
 live : ∀ x ∈ f.l, x.pod.st = 1 ∨ x.pod.st = 2 ∨ x.pod.st = 3
 once : f.l.Pairwise (fun x y => ∀ q ∈ x.pod.reqs, q ∉ y.pod.reqs)
 few : f.l.length < 100000000
 lo : 0 ≤ f.last
 hi : f.last < 4611686018427387904
abbrev Tr := AHeld × Nat × Seg
abbrev trS (t : Tr) : Seg := t.2.2
def ent (t : Tr) : Int × (ByteArray × Option Addr) := (t.1.id, t.1.rev, some ⟨t.2.1, 0, none⟩)
def fFind (l : List AHeld) (id : Int) : Option AHeld := l.find? fun x => decide (x.id = id)
def fWhere (l : List AHeld) (q : Int) : Option AHeld := l.find? fun x => decide (q ∈ x.pod.reqs)
structure FlR (F : AFleet) (L : List Tr) (mA : List (Int × (ByteArray × Option Addr))) (mW : List (Int × Int)) : Prop where
 l : F.l = L.map (·.1)
 ps : ∀ t ∈ L, PodS t.2.1 t.1.pod t.2.2
 all : mA.Perm (L.map ent)
 wth : ∀ q, mget mW q = (fWhere F.l q).map (·.id)
abbrev flB (b : Nat) (rA rW : Nat) (F : AFleet) : Seg := [Cl b z5B [.map (some rA), .map (some rW), I F.room, I F.last]]
def FlS (b : Nat) (F : AFleet) (s : Seg) : Prop := F.Ok ∧ ∃ rA rW mA mW sA sW L, MpS KI vOne rA mA sA ∧ MpS KI KI rW mW sW ∧ FlR F L mA mW ∧ s = flB b rA rW F ++ (sA ++ (sW ++ (L.map trS).flatten))
theorem FlR.ids {F : AFleet} {L : List Tr} {mA mW} (hr : FlR F L mA mW) (ok : F.Ok) : L.Pairwise (fun x y => x.1.id < y.1.id) := by
 have := ok.pw; rw [hr.l, List.pairwise_map] at this; exact this
theorem FlR.keys {F : AFleet} {L : List Tr} {mA mW} (hr : FlR F L mA mW) (ok : F.Ok) : isort (mA.map (·.1)) = L.map (·.1.id) := by
 refine zcM ?_ ?_
 ·have := hr.all.map (·.1); rw [List.map_map] at this; exact this
 ·rw [List.pairwise_map]; exact (hr.ids ok).imp fun h => by omega
theorem FlR.len {F : AFleet} {L : List Tr} {mA mW} (hr : FlR F L mA mW) : mA.length = F.l.length := by rw [hr.all.length_eq, hr.l]; simp
theorem FlR.nd {F : AFleet} {L : List Tr} {mA mW} (hr : FlR F L mA mW) (ok : F.Ok) : (mA.map (·.1)).Nodup := by
 have := hr.all.map (·.1); rw [List.map_map] at this
 rw [this.nodup_iff]
 have h := (hr.ids ok).imp (S := fun x y => x.1.id ≠ y.1.id) fun h => by omega
 exact List.pairwise_map.2 h
theorem FlR.get {F : AFleet} {L : List Tr} {mA mW} (hr : FlR F L mA mW) (ok : F.Ok) {t : Tr} (ht : t ∈ L) : mget mA t.1.id = some (t.1.rev, some ⟨t.2.1, 0, none⟩) :=
 z57 (hr.nd ok) (hr.all.mem_iff.2 (List.mem_map_of_mem (f := ent) ht))
theorem FlR.at {F : AFleet} {L : List Tr} {mA mW} (hr : FlR F L mA mW) {id : Int} {x : AHeld} (h : fFind F.l id = some x) : ∃ A t B, L = A ++ t :: B ∧ t.1 = x ∧ x.id = id := by
 have h1 := List.mem_of_find?_eq_some h
 have h2 := List.find?_some h
 rw [hr.l] at h1
 obtain ⟨t, ht, rfl⟩ := List.mem_map.1 h1
 obtain ⟨A, B, e⟩ := List.append_of_mem ht
 exact ⟨A, t, B, e, rfl, by simpa using h2⟩
theorem zeD (h : St w0 E w) {room : Int} {k : Option Addr → PT} (hk : ∀ b s w', FlS b ⟨room, 0, []⟩ s → St w0 (s :: E) w' → k (some ⟨b, 0, none⟩) w') : L.call Pr z56 [I room] (.one (.one .ptr)) k w := by
 refine z04 (z9V _) ?_
 unfold z7h
 refine MpS.new h KI vOne fun r1 s1 w hm1 h => ?_
 refine MpS.new h KI KI fun r2 s2 w hm2 h => ?_
 refine nw h ?_; clear h; (try clear w); intro b w h
 refine ⟨_, rfl, hk b _ w ⟨⟨by simp, by simp, by simp, by simp, by simp, by simp, by simp⟩, r1, r2, [], [], s1, s2, [], hm1, hm2, ⟨rfl, by simp, .refl _, fun q => rfl⟩, rfl⟩ ?_⟩
 have h := fr2_ (fr2_ (fr1_ h))
 exact h.eq (by simp)
theorem zdW (h : St w0 E w) (i : Nat) {b : Nat} {F : AFleet} {s : Seg} (hi : nth E i = some s) (hf : FlS b F s) {k : Int → PT} (hk : k F.l.length w) : L.call Pr z2f [.pointer (some ⟨b, 0, none⟩)] (.one (.one (.int .i64))) k w := by
 obtain ⟨ok, rA, rW, mA, mW, sA, sW, L, hA, hW, hr, rfl⟩ := hf
 refine z04 (z5R _) ?_
 unfold z3u
 have h : St w0 (flB b rA rW F :: sA :: sW :: (L.map trS).flatten :: delN E i) w := (h.front i hi).eq (by simp)
 ((try dsimp only [setN, List.cons_append, List.nil_append] at h); repeat (first | refine nn ?_ | (refine dr h ?_; clear h; (try clear w); intro w h) | refine ldC h ?_ | refine laC h ?_ | refine ckC h ?_ | (refine stC h ?_; clear h; (try clear w); intro w h; (try dsimp only [putN, setN] at h)) | rw [z22]))
 refine MpS.len zb8 h 1 rfl hA ⟨_, rfl, ?_⟩
 rw [hr.len]; exact hk
abbrev revP (rev : ByteArray) (t : Tr) : Bool := decide (t.1.rev = rev)
def revs (l : List AHeld) (rev : ByteArray) : List AHeld := l.filter fun x => decide (x.rev = rev)
theorem FlR.revs {F : AFleet} {L : List Tr} {mA mW} (hr : FlR F L mA mW) (rev : ByteArray) : revs F.l rev = (L.filter (revP rev)).map (·.1) := by
 unfold YtkmalcoocklikaaGreatDoor.revs; rw [hr.l, List.filter_map]; rfl
def isUp (x : AHeld) : Bool := decide (x.pod.st ≠ 3)
def spStep (a : Int × Int × Int) (x : AHeld) : Int × Int × Int :=
 if x.pod.st = 3 then a else if x.pod.st < a.2.1 ∨ (x.pod.st = a.2.1 ∧ (x.pod.reqs.length : Int) ≤ a.2.2) then (x.id, x.pod.st, x.pod.reqs.length) else a
def look (x : AHeld) : Int × Int × Int := (x.id, x.pod.st, x.pod.reqs.length)
def fUpd (l : List AHeld) (id : Int) (g : APod → APod) : List AHeld := l.filterMap fun x => if x.id = id then (if (g x.pod).st = 4 then none else some { x with pod := g x.pod }) else some x
theorem z7L {l : List AHeld} {id : Int} {g : APod → APod} (h : ∀ y ∈ l, y.id ≠ id) : fUpd l id g = l := by
 unfold fUpd
 induction l with
 | nil => rfl
 | cons y l ih =>
  rw [List.filterMap_cons, if_neg (h y (by simp))]
  simp only
  rw [ih fun z hz => h z (by simp [hz])]
theorem z9K {A B : List AHeld} {x : AHeld} {g : APod → APod} (h : (A ++ x :: B).Pairwise (fun x y => x.id < y.id)) : fUpd (A ++ x :: B) x.id g = A ++ ((if (g x.pod).st = 4 then [] else [{ x with pod := g x.pod }]) ++ B) := by
 rw [List.pairwise_append, List.pairwise_cons] at h
 have hA : fUpd A x.id g = A := z7L fun y hy => by have := h.2.2 y hy x (by simp); omega
 have hB : fUpd B x.id g = B := z7L fun y hy => by have := h.2.1.1 y hy; omega
 unfold fUpd at *
 rw [List.filterMap_append, hA, List.filterMap_cons, if_pos rfl]
 congr 1
 split <;> rename_i hc
 ·split at hc
  ·rename_i h4; rw [if_pos h4, hB]; rfl
  ·cases hc
 ·split at hc
  ·cases hc
  ·rename_i h4; cases hc; rw [if_neg h4, hB]; rfl
theorem zaR {l : List AHeld} {id : Int} {x : AHeld} (h : fFind l id = some x) : x ∈ l ∧ x.id = id := ⟨List.mem_of_find?_eq_some h, by simpa using List.find?_some h⟩
theorem z9J {l : List AHeld} {q : Int} (h : fWhere l q = none) : ∀ x ∈ l, q ∉ x.pod.reqs := fun x hx => by simpa using List.find?_eq_none.1 h x hx
theorem AFleet.Ok.upd {F : AFleet} (ok : F.Ok) {id : Int} {x : AHeld} (hx : fFind F.l id = some x) (g : APod → APod) (hst : (g x.pod).st = 1 ∨ (g x.pod).st = 2 ∨ (g x.pod).st = 3 ∨ (g x.pod).st = 4)
  (hq : ∀ q ∈ (g x.pod).reqs, q ∈ x.pod.reqs ∨ fWhere F.l q = none) : ({ F with l := fUpd F.l id g } : AFleet).Ok := by
 obtain ⟨hm, rfl⟩ := zaR hx
 obtain ⟨A, B, hl⟩ := List.append_of_mem hm
 have pw := ok.pw
 have rng := ok.rng
 have live := ok.live
 have once := ok.once
 have few := ok.few
 have hno : ∀ q, fWhere F.l q = none → ∀ y ∈ A ++ x :: B, q ∉ y.pod.reqs := fun q h => by rw [hl] at h; exact z9J h
 rw [hl] at pw rng live once few
 have e : fUpd F.l x.id g = A ++ ((if (g x.pod).st = 4 then [] else [{ x with pod := g x.pod }]) ++ B) := by rw [hl]; exact z9K pw
 by_cases h4 : (g x.pod).st = 4
 ·rw [if_pos h4, List.nil_append] at e
  have hs : (A ++ B).Sublist (A ++ x :: B) := List.Sublist.append (List.Sublist.refl _) (List.sublist_cons_self ..)
  refine ⟨?_, ?_, ?_, ?_, ?_, ok.lo, ok.hi⟩
  ·rw [show ({ F with l := fUpd F.l x.id g } : AFleet).l = A ++ B from e]; exact pw.sublist hs
  ·rw [show ({ F with l := fUpd F.l x.id g } : AFleet).l = A ++ B from e]; exact fun y hy => rng y (hs.subset hy)
  ·rw [show ({ F with l := fUpd F.l x.id g } : AFleet).l = A ++ B from e]; exact fun y hy => live y (hs.subset hy)
  ·rw [show ({ F with l := fUpd F.l x.id g } : AFleet).l = A ++ B from e]; exact once.sublist hs
  ·rw [show ({ F with l := fUpd F.l x.id g } : AFleet).l = A ++ B from e]; exact Nat.lt_of_le_of_lt hs.length_le few
 ·rw [if_neg h4, List.singleton_append] at e
  have e : ({ F with l := fUpd F.l x.id g } : AFleet).l = A ++ { x with pod := g x.pod } :: B := e
  refine ⟨?_, ?_, ?_, ?_, ?_, ok.lo, ok.hi⟩
  ·rw [e]; rw [List.pairwise_append, List.pairwise_cons] at pw ⊢
   exact ⟨pw.1, pw.2.1, fun a ha b hb => by
    rcases List.mem_cons.1 hb with rfl | hb
    ·exact pw.2.2 a ha x (by simp)
    ·exact pw.2.2 a ha b (by simp [hb])⟩
  ·rw [e]; intro y hy
   rcases List.mem_append.1 hy with hy | hy
   ·exact rng y (by simp [hy])
   ·rcases List.mem_cons.1 hy with rfl | hy
    ·exact rng x (by simp)
    ·exact rng y (by simp [hy])
  ·rw [e]; intro y hy
   rcases List.mem_append.1 hy with hy | hy
   ·exact live y (by simp [hy])
   ·rcases List.mem_cons.1 hy with rfl | hy
    ·simp only; omega
    ·exact live y (by simp [hy])
  ·rw [e]; rw [List.pairwise_append, List.pairwise_cons] at once ⊢
   refine ⟨once.1, ⟨fun b hb q hq1 hq2 => ?_, once.2.1.2⟩, fun a ha b hb q hq1 hq2 => ?_⟩
   ·rcases hq q hq1 with h | h
    ·exact once.2.1.1 b hb q h hq2
    ·exact hno q h b (by simp [hb]) hq2
   ·rcases List.mem_cons.1 hb with rfl | hb
    ·rcases hq q hq2 with h | h
     ·exact once.2.2 a ha x (by simp) q hq1 h
     ·exact hno q h a (by simp [ha]) hq1
    ·exact once.2.2 a ha b (by simp [hb]) q hq1 hq2
  ·rw [e]; simp only [List.length_append, List.length_cons] at few ⊢; exact few
theorem zaa : ∀ {m : List (Int × (ByteArray × Option Addr))} {k : Int}, (m.map (·.1)).Nodup → mdel m k = m.filter fun p => decide (p.1 ≠ k)
 | [], k, _ => rfl
 | p :: m, k, h => by
  rw [List.map_cons, List.nodup_cons] at h
  simp only [mdel]
  by_cases e : p.1 = k
  ·rw [if_pos e, List.filter_cons_of_neg (by simp [e])]
   symm
   rw [List.filter_eq_self]
   intro y hy
   have : y.1 ≠ k := fun e2 => h.1 (by rw [e, ← e2]; exact List.mem_map_of_mem (f := (·.1)) hy)
   simpa using this
  ·rw [if_neg e, List.filter_cons_of_pos (by simpa using e), zaa h.2]
theorem FlR.upd {F : AFleet} {A B : List Tr} {t : Tr} {mA mW mW'} (hr : FlR F (A ++ t :: B) mA mW) (ok : F.Ok) (g : APod → APod) {s' : Seg} (hp : PodS t.2.1 (g t.1.pod) s') (h4 : (g t.1.pod).st ≠ 4)
  (hW : ∀ q, mget mW' q = (fWhere (fUpd F.l t.1.id g) q).map (·.id)) : FlR { F with l := fUpd F.l t.1.id g } (A ++ ({ t.1 with pod := g t.1.pod }, t.2.1, s') :: B) mA mW' := by
 have pw := ok.pw
 rw [hr.l, List.map_append, List.map_cons] at pw
 refine ⟨?_, ?_, ?_, hW⟩
 ·show fUpd F.l t.1.id g = _
  rw [hr.l, List.map_append, List.map_cons, z9K pw, if_neg h4]
  simp
 ·intro y hy
  rcases List.mem_append.1 hy with hy | hy
  ·exact hr.ps y (by simp [hy])
  ·rcases List.mem_cons.1 hy with rfl | hy
   ·exact hp
   ·exact hr.ps y (by simp [hy])
 ·have := hr.all
  simp only [List.map_append, List.map_cons] at this ⊢
  exact this
theorem FlR.del {F : AFleet} {A B : List Tr} {t : Tr} {mA mW mW'} (hr : FlR F (A ++ t :: B) mA mW) (ok : F.Ok) (g : APod → APod) (h4 : (g t.1.pod).st = 4)
  (hW : ∀ q, mget mW' q = (fWhere (fUpd F.l t.1.id g) q).map (·.id)) : FlR { F with l := fUpd F.l t.1.id g } (A ++ B) (mdel mA t.1.id) mW' := by
 have pw := ok.pw
 have ids := hr.ids ok
 rw [hr.l, List.map_append, List.map_cons] at pw
 refine ⟨?_, ?_, ?_, hW⟩
 ·show fUpd F.l t.1.id g = _
  rw [hr.l, List.map_append, List.map_cons, z9K pw, if_pos h4]
  simp
 ·intro y hy
  rcases List.mem_append.1 hy with hy | hy
  ·exact hr.ps y (by simp [hy])
  ·exact hr.ps y (by simp [hy])
 ·rw [zaa (hr.nd ok)]
  refine (hr.all.filter _).trans ?_
  rw [List.pairwise_append, List.pairwise_cons] at ids
  rw [List.map_append, List.map_cons, List.filter_append, List.filter_cons_of_neg (by simp [ent]), List.map_append]
  have fa : ∀ {l : List Tr}, (∀ y ∈ l, y.1.id ≠ t.1.id) → (l.map ent).filter (fun p => decide (p.1 ≠ t.1.id)) = l.map ent := fun {l} h => by
   rw [List.filter_eq_self]
   intro p hp
   obtain ⟨y, hy, rfl⟩ := List.mem_map.1 hp
   exact decide_eq_true (h y hy)
  rw [fa (fun y hy => by have := ids.2.2 y hy t (by simp); omega), fa (fun y hy => by have := ids.2.1.1 y hy; omega)]
def grow1 (rev : ByteArray) (conc : Int) (F : AFleet) : AFleet := { F with l := F.l ++ [⟨F.last + 1, rev, ⟨1, conc, []⟩⟩], last := F.last + 1 }
def grow (rev : ByteArray) (conc : Int) : Nat → AFleet → AFleet
 | 0, F => F
 | n + 1, F => grow1 rev conc (grow rev conc n F)
section
variable {F : AFleet} {rev : ByteArray} {conc : Int}
theorem zbL (n : Nat) : (grow rev conc n F).room = F.room := by
 induction n with
 | zero => rfl
 | succ n ih => simp only [grow, grow1, ih]
theorem zcO (n : Nat) : (grow rev conc n F).l.length = F.l.length + n := by
 induction n with
 | zero => rfl
 | succ n ih => simp only [grow, grow1, List.length_append, ih, List.length_singleton]; omega
def SpOk (l : List AHeld) (a : Int × Int × Int) : Prop := (a = (0, 3, 0) ∧ ∀ y ∈ l, isUp y = false) ∨ ∃ x ∈ l, a = (x.id, x.pod.st, (x.pod.reqs.length : Int)) ∧ isUp x = true
theorem SpOk.step {l : List AHeld} {a : Int × Int × Int} {x : AHeld} (h : SpOk l a) (hx : x.pod.st = 1 ∨ x.pod.st = 2 ∨ x.pod.st = 3) : SpOk (l ++ [x]) (spStep a x) := by
 unfold spStep
 by_cases h3 : x.pod.st = 3
 ·rw [if_pos h3]
  rcases h with ⟨rfl, h⟩ | ⟨y, hy, h⟩
  ·refine .inl ⟨rfl, fun y hy => ?_⟩
   rcases List.mem_append.1 hy with hy | hy
   ·exact h y hy
   ·simp at hy; subst hy; simp [isUp, h3]
  ·exact .inr ⟨y, by simp [hy], h⟩
 ·rw [if_neg h3]
  have hup : isUp x = true := by simp [isUp, h3]
  by_cases hc : x.pod.st < a.2.1 ∨ (x.pod.st = a.2.1 ∧ (x.pod.reqs.length : Int) ≤ a.2.2)
  ·rw [if_pos hc]; exact .inr ⟨x, by simp, rfl, hup⟩
  ·rw [if_neg hc]
   rcases h with ⟨rfl, h⟩ | ⟨y, hy, h⟩
   ·exact absurd (.inl (by simp only; omega)) hc
   ·exact .inr ⟨y, by simp [hy], h⟩
theorem SpOk.all : ∀ {l2 l1 : List AHeld} {a : Int × Int × Int}, SpOk l1 a → (∀ x ∈ l2, x.pod.st = 1 ∨ x.pod.st = 2 ∨ x.pod.st = 3) → SpOk (l1 ++ l2) (l2.foldl spStep a)
 | [], l1, a, h, _ => by simpa using h
 | x :: l2, l1, a, h, hx => by
  have := SpOk.all (l2 := l2) (h.step (hx x (by simp))) (fun y hy => hx y (by simp [hy]))
  simpa using this
end
end Go.Proofs.YtkmalcoocklikaaGreatDoor
namespace Go.Proofs.YtkmalcoocklikaaGreatDoor
open Go.Dm
attribute [local irreducible] L.load L.store L.chk L.new L.nonnil L.guard L.ite L.draw L.idx L.sem L.semR L.semU L.chkSem L.next L.call L.callV L.join L.alts L.loop L.begin L.endRound L.range
variable {w0 w : World} {E : List Seg}
def eC (p : Int × Int) : List Value := [I p.1, I p.2]
theorem encC : Enc eC 2 := ⟨fun _ => rfl, fun _ => rfl, by decide⟩
theorem Rw.stC {v : Sl} {l : List (Int × Int)} {s : Seg} {e : Nat} (h : St w0 E w) (k : Nat) (hi : nth E k = some s) (hr : Rw eC e 2 v l s) {i : Nat} {a : Addr} (ha : ElA v 2 i a) (hx : i < l.length) (y : Int × Int) {kk : PT}
  (hk : ∀ s' w', Rw eC e 2 v (l.set i y) s' → St w0 (setN E k s') w' → kk w') : L.store a [I y.1, I y.2] kk w := by
 obtain ⟨a0, hv, rfl⟩ := ha
 have hx0 : l[i]? = some l[i] := List.getElem?_eq_getElem hx
 generalize l[i] = x at hx0
 have e1 : setN (fl eC l) (i * 2 + 0) (I y.1) = fl eC (l.set i (y.1, x.2)) := zal encC hx0 (by decide) rfl
 have e2 : setN (fl eC (l.set i (y.1, x.2))) (i * 2 + 1) (I y.2) = fl eC ((l.set i (y.1, x.2)).set i y) := zal encC (x := (y.1, x.2)) (by simp [hx]) (by decide) rfl
 rw [List.set_set] at e2
 have hset : setN (setN (fl eC l) (i * 2 + 0) (I y.1)) (i * 2 + 1) (I y.2) = fl eC (l.set i y) := by rw [e1, e2]
 have hlt : i * 2 + 1 < (fl eC l).length := by rw [z45 encC]; omega
 unfold Rw at hr hk
 rw [← hset] at hk
 have hlen2 : (setN (setN (fl eC l) (i * 2 + 0) (I y.1)) (i * 2 + 1) (I y.2)).length = (fl eC l).length := by rw [z1a, z1a]; simp
 have hlen1 : (setN (fl eC l) (i * 2 + 0) (I y.1)).length = (fl eC l).length := by rw [z1a]; simp
 generalize fl eC l = xs at *
 cases hr with
 | nil => cases hv
 | mk g n cap pre xs spare post h1 h2 h3 h4 =>
  cases hv
  rw [z1u]
  have hn : ∀ j, j ≤ 1 → ∃ c, nth (pre ++ (xs ++ (spare ++ post))) (pre.length + (i * 2 + j)) = some c := fun j hj => by
   rw [z1B, z2w (by omega), z06]
   exact ⟨_, List.getElem?_eq_getElem (by omega)⟩
  refine stx [I y.1, I y.2] h k hi ?_ rfl fun w' h => hk _ w' (Row.mk g n cap pre _ spare post (by rw [hlen2]; exact h1) (by rw [hlen2]; exact h2) h3 h4) ?_
  ·obtain ⟨c0, hc0⟩ := hn 0 (by omega)
   obtain ⟨c1, hc1⟩ := hn 1 (by omega)
   simp only [Nat.add_zero] at hc0
   simp [hasN, hc0, hc1, Nat.add_assoc]
  ·simp only [putN] at h
   have q1 : setN (xs ++ (spare ++ post)) (i * 2 + 0) (I y.1) = setN xs (i * 2 + 0) (I y.1) ++ (spare ++ post) := z3P (by omega)
   have q2 : setN (setN xs (i * 2 + 0) (I y.1) ++ (spare ++ post)) (i * 2 + 1) (I y.2) = setN (setN xs (i * 2 + 0) (I y.1)) (i * 2 + 1) (I y.2) ++ (spare ++ post) := z3P (by omega)
   rw [show pre.length + i * 2 = pre.length + (i * 2 + 0) from rfl, z3q, q1, show pre.length + (i * 2 + 0) + 1 = pre.length + (i * 2 + 1) by omega, z3q, q2] at h
   exact h
def can (x : AHeld) : Bool := decide (x.pod.st = 2 ∧ (x.pod.reqs.length : Int) < x.pod.conc)
def pickStep (b : Option AHeld) (x : AHeld) : Option AHeld := match b with
 | none => if can x = true then some x else none
 | some y => if can x = true ∧ x.pod.reqs.length < y.pod.reqs.length then some x else some y
def fPick (l : List AHeld) (rev : ByteArray) : Option AHeld := (revs l rev).foldl pickStep none
def key (x : AHeld) : Int × Int := (x.pod.reqs.length, x.id)
def fTake (F : AFleet) (rev : ByteArray) (q : Int) : AFleet × Int × Bool :=
 if (fWhere F.l q).isSome then (F, 0, false) else match fPick F.l rev with
 | none => (F, 0, false)
 | some x => ({ F with l := fUpd F.l x.id fun p => (podTake p q).1 }, x.id, true)
theorem FlR.same {F : AFleet} {A B : List Tr} {t : Tr} {mA mW} (hr : FlR F (A ++ t :: B) mA mW) {s' : Seg} (hp : PodS t.2.1 t.1.pod s') : FlR F (A ++ (t.1, t.2.1, s') :: B) mA mW := by
 refine ⟨by rw [hr.l]; simp, fun y hy => ?_, by have := hr.all; simp only [List.map_append, List.map_cons] at this ⊢; exact this, hr.wth⟩
 rcases List.mem_append.1 hy with hy | hy
 ·exact hr.ps y (by simp [hy])
 ·rcases List.mem_cons.1 hy with rfl | hy
  ·exact hp
  ·exact hr.ps y (by simp [hy])
def fKill (F : AFleet) (id : Int) : AFleet × List Int × Int := match fFind F.l id with
 | none => (F, [], 6)
 | some x => ({ F with l := fUpd F.l id fun p => (podKill p).1 }, x.pod.reqs, 0)
def eH (p : Int × Int) : List Value := [I p.1, I p.2]
theorem encH : Enc eH 2 := ⟨fun _ => rfl, fun _ => rfl, by decide⟩
theorem elH : El Pr z0K z19 2 16 (.agg #[I 0, I 0]) := zcW (by kernel_rfl) (by kernel_rfl) rfl (by decide)
def LnS (b : Nat) (room : Int) (l : List (Int × Int)) (s : Seg) : Prop := ∃ v sr, Rw eH z19 2 v l sr ∧ s = [Cl b z77 [SlV v, I room]] ++ sr
def lLate (l : List (Int × Int)) (now : Int) : List Int := (l.filter fun x => x.2 ≤ now).map (·.1)
def lRest (l : List (Int × Int)) (now : Int) : List (Int × Int) := l.filter fun x => !decide (x.2 ≤ now)
theorem zex (h : St w0 E w) (i : Nat) {b : Nat} {room : Int} {l : List (Int × Int)} {s : Seg} (hi : nth E i = some s) (hl : LnS b room l s) {k : Int → PT} (hk : k l.length w) : L.call Pr z38 [.pointer (some ⟨b, 0, none⟩)] (.one (.one (.int .i64))) k w := by
 obtain ⟨v, sr, hr, rfl⟩ := hl
 refine z04 (z7k _) ?_
 unfold z4t
 have h := (h.front i hi).split
 (refine nn ?_; refine ldC h ?_)
 refine ⟨_, rfl, ?_⟩
 rw [Rw.len encH hr]; exact hk
theorem zdl (h : St w0 E w) {b : Nat} {k : FV → PT} (hk : ∀ c w', St w0 ([Cl c z1m [.pointer (some ⟨b, 0, none⟩)]] :: E) w' → k ⟨.func z0S, #[], #[.pointer (some ⟨c, 0, none⟩)]⟩ w') :
  L.call Pr z1b [.pointer (some ⟨b, 0, none⟩)] (.one (.one .func)) k w := by
 refine z04 (z5e _) ?_
 unfold z3h
 refine nw h ?_; clear h; (try clear w); intro c w h
 exact ⟨_, rfl, hk c w h⟩
def argH (l : List (Int × Int)) (m : Nat) : TT [.one (.int .i64), .one (.int .i64)] := (((l[m]?).getD (0, 0)).1, ((l[m]?).getD (0, 0)).2, ())
theorem zdi {b c T : Nat} {rm : Value} {v : Sl} {l : List (Int × Int)} {sr : Seg} (hr : Rw eH z19 2 v l sr) (hn : l.length < 1000000000) :
  Yld Pr w0 [[Cl c z1m [.pointer (some ⟨b, 0, none⟩)]], [Cl b T [SlV v, rm]], sr] (.func (.func z0S) #[] #[.pointer (some ⟨c, 0, none⟩)]) l.length fun m => TV _ (argH l m) := by
 intro yv R J Jd F w h hJ step fin fin2
 have hlen := Rw.len encH hr
 refine ⟨z4w, z4x yv ⟨c, 0, none⟩ ?_⟩
 unfold z2G
 (dsimp only [setN, List.cons_append, List.nil_append] at h; refine ldC h ?_; refine nn ?_; refine ldC h ?_)
 refine z2h (fun q y w => ∃ (m : Nat) (F : List Seg), @Eq Int y.1 m ∧ q + m = l.length ∧ J m F ∧ St w0 ([Cl c z1m [.pointer (some ⟨b, 0, none⟩)]] :: [Cl b T [SlV v, rm]] :: sr :: F) w) l.length ⟨0, F, rfl, rfl, hJ, h⟩ ?_
 rintro q ⟨y, ⟨⟩⟩ w ⟨m, F, hy, hq, hJ, h⟩ again hag
 simp only at hy
 subst hy
 refine it (fun hb => ?_) (fun hb => ?_) <;> (try simp only [zB] at hb)
 ·have hm : m < l.length := by omega
  have hx : l[m]? = some l[m] := List.getElem?_eq_getElem hm
  refine Rw.ix encH hr (by omega) (by simpa using hm) fun a ha => ?_
  refine Rw.lda encH h 2 rfl hr ha (x := l[m]) (by simpa using hx) rfl ?_
  refine nw h ?_; clear h; (try clear w); intro b2 w h
  (refine stC h ?_; clear h; (try clear w); intro w h; dsimp only [putN, setN] at h; refine ldC h ?_; refine ldC h ?_)
  have h := dl0_ h
  have ea : TV _ (argH l m) = [I l[m].1, I l[m].2] := by simp [argH, hx]; rfl
  have step := step m F w hm hJ h
  simp only [ea] at step
  refine cv (FCall.mono step fun u w' hu => ?_)
  rcases hu with ⟨rfl, F', h, hJ⟩ | ⟨rfl, hd⟩
  ·refine ⟨true, rfl, itF rfl (hag (q - 1) _ _ (by omega) ⟨m + 1, F', ?_, by omega, hJ, h⟩)⟩
   show IntKind.wrap .i64 _ = _
   rw [wr (by omega) (by omega)]; omega
  ·exact ⟨false, rfl, itT rfl (fin2 w' hd)⟩
 ·have e : m = l.length := by omega
  subst e
  exact fin F w hJ h
theorem zbZ {l : List (Int × Int)} {m : Nat} {x : Int × Int} (hx : l[m]? = some x) : argH l m = (x.1, x.2, ()) := by simp [argH, hx]
theorem St.setN_same {s : Seg} (i : Nat) (hi : nth E i = some s) (h : St w0 (setN E i s) w) : St w0 E w := by rwa [z3z hi] at h
theorem zeQ (h : St w0 E w) (i : Nat) {b : Nat} {room : Int} {l : List (Int × Int)} {s : Seg} (hi : nth E i = some s) (hl : LnS b room l s) (hn : l.length < 1000000000) {k : Sl → PT}
  (hk : ∀ v s' w', Rw eI z0g 1 v (l.map (·.1)) s' → St w0 (s' :: E) w' → k v w') : L.call Pr z39 [.pointer (some ⟨b, 0, none⟩)] (.one (.one .slice)) k w := by
 have hl' := hl
 obtain ⟨v, sr, hr, rfl⟩ := hl
 refine z04 (z7l _) ?_
 unfold z4u
 refine zex h i hi hl' ?_
 refine mk0 elI encI h (by omega) (by omega) (by omega) fun v2 s2 w hr2 h => ?_
 refine nw h ?_; clear h; (try clear w); intro b3 w h
 (refine stC h ?_; clear h; (try clear w); intro w h; dsimp only [putN, setN] at h; refine nn ?_)
 refine zdl h fun c w h => ?_
 have h := (h.front (i + 3) hi).split
 have h := fr2_ (fr1_ (fr1_ h))
 refine za5 (zdi hr hn) h (fun m F => ∃ v2 s2, F = [Cl b3 z1i [SlV v2]] :: s2 :: delN E i ∧ Rw eI z0g 1 v2 ((l.take m).map (·.1)) s2)
  (fun j G => False) ⟨_, _, rfl, hr2⟩ ?_ ?_ ?_
 ·rintro m F w lv lp d R hm ⟨v2, s2, rfl, hr2⟩ h hN hE
  have hx : l[m]? = some l[m] := List.getElem?_eq_getElem hm
  rw [zbZ hx]
  (dsimp only [setN, List.cons_append, List.nil_append] at h; refine ldC h ?_)
  refine nw h ?_; clear h; (try clear w); intro b12 w h
  refine Rw.app encI elI h 6 rfl hr2 l[m].1 rfl (by simp; omega) (by simp; omega) fun v' s' w hr h => ?_
  (dsimp only [setN, List.cons_append, List.nil_append] at h; refine stC h ?_; clear h; (try clear w); intro w h; dsimp only [putN, setN] at h)
  refine hN _ w ⟨v', s', rfl, ?_⟩ h
  rw [List.take_add_one, hx, List.map_append]
  exact hr
 ·rintro d F w ⟨v2, s2, rfl, hr2⟩ h
  refine jumpN ?_
  (dsimp only [setN, List.cons_append, List.nil_append] at h; refine ldC h ?_)
  (first | refine um0_ h ?_ | refine um1_ h ?_ | refine um2_ h ?_ | refine um3_ h ?_ | refine um4_ h ?_ | refine um5_ h ?_ | refine um6_ h ?_ | refine um7_ h ?_ | refine um8_ h ?_ | refine um9_ h ?_ | refine zbb h ?_ | refine zba h ?_); clear h; (try clear w); intro w h
  rw [List.take_length] at hr2
  refine ⟨v2, rfl, hk _ s2 w hr2 ?_⟩
  have h := fr3_ (fr3_ (fr4_ h))
  have h := dl3_ (dl4_ h)
  have h := St.back (i + 1) (E := s2 :: E) hi h.glue
  have h := St.setN_same (i + 1) (E := s2 :: E) hi h
  exact h
 ·rintro d j F w hf; exact hf.elim
theorem z7H {l : List (Int × Int)} {now : Int} {m : Nat} {x : Int × Int} (hx : l[m]? = some x) : lLate (l.take (m + 1)) now = lLate (l.take m) now ++ (if x.2 ≤ now then [x.1] else []) := by
 simp only [lLate, List.take_add_one, hx, List.filter_append, List.map_append]
 congr 1
 by_cases h : x.2 ≤ now <;> simp [h]
theorem z7G {l : List (Int × Int)} {now : Int} {m : Nat} {x : Int × Int} (hx : l[m]? = some x) : lRest (l.take (m + 1)) now = lRest (l.take m) now ++ (if x.2 ≤ now then [] else [x]) := by
 simp only [lRest, List.take_add_one, hx, List.filter_append]
 congr 1
 by_cases h : x.2 ≤ now <;> simp [h]
theorem z91 (l : List (Int × Int)) (now : Int) : (lLate l now).length ≤ l.length := by
 unfold lLate; rw [List.length_map]; exact List.length_filter_le ..
theorem z90 (l : List (Int × Int)) (now : Int) : (lRest l now).length ≤ l.length := List.length_filter_le ..
theorem zeG (h : St w0 E w) (i : Nat) {b : Nat} {room : Int} {l : List (Int × Int)} {s : Seg} (hi : nth E i = some s) (hl : LnS b room l s) (hn : l.length < 1000000000) {now : Int} {k : Sl → PT}
  (hk : ∀ v s' s2 w', LnS b room (lRest l now) s' → Rw eI z0g 1 v (lLate l now) s2 → St w0 (s2 :: setN E i s') w' → k v w') : L.call Pr z2I [.pointer (some ⟨b, 0, none⟩), I now] (.one (.one .slice)) k w := by
 obtain ⟨v, sr, hr, rfl⟩ := hl
 refine z04 (z6x _ _) ?_
 unfold z47
 (refine nn ?_)
 refine z04 (z5d _ _) ?_
 unfold z3g
 have h := (h.front i hi).split
 refine nw h ?_; clear h; (try clear w); intro b1 w h
 refine nw h ?_; clear h; (try clear w); intro b2 w h
 refine nw h ?_; clear h; (try clear w); intro b3 w h
 refine zdl h fun c w h => ?_
 have h := fr2_ (fr5_ (fr5_ h))
 have h : St w0 ([Cl c z1m [.pointer (some ⟨b, 0, none⟩)]] :: [Cl b z77 [SlV v, I room]] :: sr :: [Cl b3 z0K [SlV ⟨none, 0, 0⟩]] :: [] :: [Cl b2 z1i [SlV ⟨none, 0, 0⟩]] :: [] :: [Cl b1 z0g [I now]] :: delN E i) w := h.eq (by simp)
 refine za5 (zdi hr hn) h (fun m F => ∃ v2 s2 v3 s3, F = [Cl b3 z0K [SlV v3]] :: s3 :: [Cl b2 z1i [SlV v2]] :: s2 :: [Cl b1 z0g [I now]] :: delN E i ∧ Rw eI z0g 1 v2 (lLate (l.take m) now) s2 ∧ Rw eH z19 2 v3 (lRest (l.take m) now) s3)
  (fun j G => False) ⟨_, _, _, _, rfl, Rw.nil, Rw.nil⟩ ?_ ?_ ?_
 ·rintro m F w lv lp d R hm ⟨v2, s2, v3, s3, rfl, hr2, hr3⟩ h hN hE
  have hx : l[m]? = some l[m] := List.getElem?_eq_getElem hm
  have n2 := z91 (l.take m) now
  have n3 := z90 (l.take m) now
  simp only [List.length_take] at n2 n3
  rw [zbZ hx]
  (dsimp only [setN, List.cons_append, List.nil_append] at h; refine ldC h ?_)
  refine it (fun hb => ?_) (fun hb => ?_) <;> (try simp only [zB] at hb)
  ·(refine ldC h ?_)
   refine nw h ?_; clear h; (try clear w); intro b12 w h
   refine Rw.app encI elI h 8 rfl hr2 l[m].1 rfl (by omega) (by omega) fun v' s' w hr' h => ?_
   (dsimp only [setN, List.cons_append, List.nil_append] at h; refine stC h ?_; clear h; (try clear w); intro w h; dsimp only [putN, setN] at h)
   refine hN _ w ⟨v', s', v3, s3, rfl, ?_, ?_⟩ h
   ·rw [z7H hx, if_pos hb]; exact hr'
   ·rw [z7G hx, if_pos hb, List.append_nil]; exact hr3
  ·(refine ldC h ?_)
   refine nw h ?_; clear h; (try clear w); intro b15 w h
   refine Rw.app encH elH h 6 rfl hr3 l[m] rfl (by omega) (by omega) fun v' s' w hr' h => ?_
   (dsimp only [setN, List.cons_append, List.nil_append] at h; refine stC h ?_; clear h; (try clear w); intro w h; dsimp only [putN, setN] at h)
   refine hN _ w ⟨v2, s2, v', s', rfl, ?_, ?_⟩ h
   ·rw [z7H hx, if_neg hb, List.append_nil]; exact hr2
   ·rw [z7G hx, if_neg hb]; exact hr'
 ·rintro d F w ⟨v2, s2, v3, s3, rfl, hr2, hr3⟩ h
  refine jumpN ?_
  rw [List.take_length] at hr2 hr3
  have n2 := z91 l now
  (dsimp only [setN, List.cons_append, List.nil_append] at h; refine ldC h ?_; refine nn ?_; refine stC h ?_; clear h; (try clear w); intro w h; dsimp only [putN, setN] at h; refine ldC h ?_)
  refine z8k h (hr2.rd encI h 7 rfl) (by omega) (Rw.nil_of encI hr2) fun v' s' w hr' _ h => ?_
  (first | refine um0_ h ?_ | refine um1_ h ?_ | refine um2_ h ?_ | refine um3_ h ?_ | refine um4_ h ?_ | refine um5_ h ?_ | refine um6_ h ?_ | refine um7_ h ?_ | refine um8_ h ?_ | refine um9_ h ?_ | refine zbb h ?_ | refine zba h ?_); clear h; (try clear w); intro w h
  refine ⟨v', rfl, v', rfl, hk v' _ s' w ⟨v3, s3, hr3, rfl⟩ hr' ?_⟩
  have h := fr3_ (fr5_ h)
  have h := dl3_ (dl4_ (dl5_ (dl6_ (dl7_ (dl8_ h)))))
  exact St.back (i + 1) (E := s' :: E) hi h.glue
 ·rintro d j F w hf; exact hf.elim
def vReq (x : ByteArray × Int) : Value := .agg #[.string x.1, I x.2]
abbrev Fate := HT [.int .i64, .int .i64, .int .i64, .str]
abbrev eFate : E1 := .agg [.int .i64, .int .i64, .int .i64, .str]
abbrev Fate.cells (f : Fate) : List Value := [I f.1, I f.2.1, I f.2.2.1, .string f.2.2.2.1]
theorem encF : Enc Fate.cells 4 := ⟨fun _ => rfl, fun _ => rfl, by decide⟩
theorem elF : El Pr z0a z0w 4 40 (.agg #[I 0, I 0, I 0, .string s_]) := zcW (by kernel_rfl) (by kernel_rfl) rfl (by decide)
structure AGate where
 all : List (Int × (ByteArray × Int))
 lines : List (ByteArray × List (Int × Int))
 room : Int
 pat : Int
structure AGate.Ok (G : AGate) : Prop where
 few : G.all.length < 100000000
 lo : 0 ≤ G.room
 hi : G.room ≤ 1000000
 ln : ∀ x ∈ G.lines, (x.2.length : Int) ≤ G.room
 nd : (G.lines.map (·.1)).Nodup
 nda : (G.all.map (·.1)).Nodup
 fl : G.lines.length < 100000000
structure LnE where
 k : ByteArray
 b : Nat
 l : List (Int × Int)
 sg : Seg
abbrev LnE.kp (x : LnE) : ByteArray × Option Addr := (x.k, some ⟨x.b, 0, none⟩)
abbrev LnE.ka (x : LnE) : ByteArray × List (Int × Int) := (x.k, x.l)
abbrev gtB (b bf rA rL c : Nat) (room pat : Int) : Seg := [Cl b z7a [.pointer (some ⟨bf, 0, none⟩), .map (some rA), .map (some rL), .func (.func z6j) #[] #[.pointer (some ⟨c, 0, none⟩)], I room, I pat]]
structure GtR (G : AGate) (rA rL : Nat) (sA sL : Seg) (Q : List LnE) : Prop where
 all : MpS KI vReq rA G.all sA
 lns : MpS Value.string Value.pointer rL (Q.map LnE.kp) sL
 each : ∀ x ∈ Q, LnS x.b G.room x.l x.sg
 abs : G.lines = Q.map LnE.ka
def GtS (b bf : Nat) (G : AGate) (s : Seg) : Prop := G.Ok ∧ ∃ rA rL c sA sL, ∃ Q : List LnE, GtR G rA rL sA sL Q ∧
 s = gtB b bf rA rL c G.room G.pat ++ ([Cl c z0g [I G.room]] ++ (sA ++ (sL ++ (Q.map LnE.sg).flatten)))
theorem z7S : Pr.underlying z0y = some (.map z0g z0p) := by kernel_rfl
theorem z9s : Pr.underlying z0i = some (.map z05 z2V) := by kernel_rfl
theorem zcf : Pr.underlying z05 = some .string := by kernel_rfl
theorem mkS' : MK Pr z05 Value.string := zdf zcf
theorem zln (w : World) : (zeroValue z2V).run Pr w = .ok ((E1.one .ptr).val none) w := by
 have h : (Pr.info? z2V).map (·.zero) = some (some (.pointer none)) := by kernel_rfl
 cases hi : Pr.info? z2V with
 | none => rw [hi] at h; cases h
 | some i => rw [hi] at h; simp only [Option.map_some, Option.some.injEq] at h; exact zv hi h w
theorem zeB (h : St w0 E w) {bf : Nat} {room pat : Int} (h0 : 0 ≤ room) (h1 : room ≤ 1000000) {k : Option Addr → PT} (hk : ∀ b s w', GtS b bf ⟨[], [], room, pat⟩ s → St w0 (s :: E) w' → k (some ⟨b, 0, none⟩) w') :
  L.call Pr z60 [.pointer (some ⟨bf, 0, none⟩), I room, I pat] (.one (.one .ptr)) k w := by
 refine z04 (zb5 _ _ _) ?_
 unfold z7Q
 refine nw h ?_; clear h; (try clear w); intro c w h
 refine MpS.new h KI vReq fun rA sA w hA h => ?_
 refine MpS.new h Value.string Value.pointer fun rL sL w hL h => ?_
 (refine ldC h ?_)
 refine nw h ?_; clear h; (try clear w); intro b w h
 refine ⟨_, rfl, hk b _ w ⟨⟨by simp, h0, h1, by simp, by simp, by simp, by simp⟩, rA, rL, c, sA, sL, [], ⟨hA, hL, by simp, rfl⟩, rfl⟩ ?_⟩
 have h := fr3_ (fr3_ (fr2_ (fr1_ h)))
 exact h.eq (by simp)
def fset (f : Fate) (id : Int) : Fate := (id, f.2.1, f.2.2.1, f.2.2.2.1, ())
theorem zeA {b bf rA rL c : Nat} {room pat : Int} {sA : Seg} {all : List (Int × (ByteArray × Int))} (hA : MpS KI vReq rA all sA) (h : St w0 (gtB b bf rA rL c room pat :: sA :: E) w) {id : Int} {rev : ByteArray} {f : Fate} {k : eFate.T → PT}
  (hk : ∀ sA' w', MpS KI vReq rA (mset all id (rev, f.2.1)) sA' → St w0 (gtB b bf rA rL c room pat :: sA' :: E) w' → k (fset f id) w') :
  L.call Pr z3b [.pointer (some ⟨b, 0, none⟩), I id, .string rev, .agg (Fate.cells f).toArray] (.one eFate) k w := by
 refine z04 (z7m _ _ _ f) ?_
 unfold z4v
 refine nw h ?_; clear h; (try clear w); intro b1 w h
 refine nw h ?_; clear h; (try clear w); intro b2 w h
 (refine stC h ?_; clear h; (try clear w); intro w h; dsimp only [putN, setN] at h; refine dr h ?_; clear h; (try clear w); intro w h; refine nn ?_; refine ldC h ?_; refine ldC h ?_)
 refine MpS.set mkI z7S h 3 rfl hA (rev, f.2.1) rfl fun sA' w hA' h => ?_
 have h : St w0 ([Cl b2 z0w [I 0, I 0, I 0, .string s_]] :: [Cl b1 z0w [I id, I f.2.1, I f.2.2.1, .string f.2.2.2.1]] :: gtB b bf rA rL c room pat :: sA' :: E) w := h
 (refine laC h ?_; refine stC h ?_; clear h; (try clear w); intro w h; dsimp only [putN, setN] at h; refine laC h ?_)
 exact ⟨fset f id, rfl, hk sA' w hA' (dl0_ (dl0_ h))⟩
theorem zez (h : St w0 E w) {s : ByteArray} {k : eFate.T → PT} (hk : ∀ w', St w0 E w' → k (0, 4, 0, s, ()) w') : L.call Pr z5Z [.string s] (.one eFate) k w := by
 refine z04 (zb4 _) ?_
 unfold z7P
 refine nw h ?_; clear h; (try clear w); intro b1 w h
 (refine stC h ?_; clear h; (try clear w); intro w h; dsimp only [putN, setN] at h; refine laC h ?_)
 exact ⟨_, rfl, hk w (dl0_ h)⟩
theorem z8c {G : AGate} {b bf rA rL c : Nat} {sA sL : Seg} {Q : List LnE} (ok : G.Ok) (hr : GtR G rA rL sA sL Q) (h : St w0 (gtB b bf rA rL c G.room G.pat :: [Cl c z0g [I G.room]] :: sA :: sL :: (Q.map LnE.sg).flatten :: E) w) :
  ∃ s, GtS b bf G s ∧ St w0 (s :: E) w := ⟨_, ⟨ok, rA, rL, c, sA, sL, Q, hr, rfl⟩, h.glue5⟩
def lineOf (ls : List (ByteArray × List (Int × Int))) (rev : ByteArray) : List (Int × Int) := (mget ls rev).getD []
theorem zag {Q : List LnE} {rev : ByteArray} : mget (Q.map LnE.kp) rev = (lfind LnE.k Q rev).map fun x => some ⟨x.b, 0, none⟩ := z4n (key := LnE.k) (fun x : LnE => (some ⟨x.b, 0, none⟩ : Option Addr)) rev Q
theorem zah {Q : List LnE} {rev : ByteArray} : mget (Q.map LnE.ka) rev = (lfind LnE.k Q rev).map LnE.l := z4n (key := LnE.k) LnE.l rev Q
theorem z4C {G : AGate} (ok : G.Ok) (rev : ByteArray) : ((lineOf G.lines rev).length : Int) ≤ G.room := by
 unfold lineOf
 cases h : mget G.lines rev with
 | none => simp; exact ok.lo
 | some l => exact ok.ln _ (z3V h)
theorem AGate.Ok.line {G : AGate} (ok : G.Ok) (hl : G.lines.length < 90000000) (rev : ByteArray) {l : List (Int × Int)} (h : (l.length : Int) ≤ G.room) : ({ G with lines := mset G.lines rev l } : AGate).Ok := by
 refine ⟨ok.few, ok.lo, ok.hi, fun x hx => ?_, z9G ok.nd, ok.nda, ?_⟩
 ·rcases z2D hx with rfl | hx
  ·exact h
  ·exact ok.ln x hx
 ·have := z87 G.lines rev l; simp only; omega
theorem AGate.Ok.req {G : AGate} (ok : G.Ok) (hn : G.all.length < 90000000) (id : Int) (x : ByteArray × Int) : ({ G with all := mset G.all id x } : AGate).Ok := by
 refine ⟨?_, ok.lo, ok.hi, ok.ln, ok.nd, z9G ok.nda, ok.fl⟩
 have := z87 G.all id x; simp only; omega
abbrev podsMost : Int := 20
structure FFew (F : AFleet) : Prop where
 r : F.room ≤ podsMost
 l : (F.l.length : Int) ≤ max F.room 0
 q : ∀ x ∈ F.l, x.pod.reqs.length ≤ 1000 ∧ x.pod.conc ≤ 1000
theorem z8d {l : List AHeld} {id : Int} {g : APod → APod} {y : AHeld} (h : y ∈ fUpd l id g) : y ∈ l ∨ ∃ x ∈ l, x.id = id ∧ y = { x with pod := g x.pod } := by
 unfold fUpd at h
 obtain ⟨x, hx, hy⟩ := List.mem_filterMap.1 h
 split at hy
 ·rename_i e
  split at hy
  ·cases hy
  ·cases hy; exact .inr ⟨x, hx, e, rfl⟩
 ·cases hy; exact .inl hx
theorem zcS (l : List AHeld) (id : Int) (g : APod → APod) : (fUpd l id g).length ≤ l.length := List.length_filterMap_le ..
theorem FFew.upd {F : AFleet} (h : FFew F) (id : Int) (g : APod → APod) (hg : ∀ x ∈ F.l, x.id = id → (g x.pod).reqs.length ≤ 1000 ∧ (g x.pod).conc ≤ 1000) : FFew { F with l := fUpd F.l id g } := by
 refine ⟨h.r, ?_, fun y hy => ?_⟩
 ·have := h.l; have := zcS F.l id g; simp only; omega
 ·rcases z8d hy with hy | ⟨x, hx, hid, rfl⟩
  ·exact h.q y hy
  ·exact hg x hx hid
theorem z9A {p : APod} {q : Int} (h : p.reqs.length ≤ 1000 ∧ p.conc ≤ 1000) : (podTake p q).1.reqs.length ≤ 1000 ∧ (podTake p q).1.conc ≤ 1000 := by
 unfold podTake; split
 ·exact h
 ·split
  ·exact h
  ·split
   ·exact h
   ·rename_i h3
    have := (z6V q p.reqs).length_eq
    simp only [List.length_cons] at this
    refine ⟨?_, h.2⟩
    simp only; omega
theorem FFew.take {F : AFleet} (h : FFew F) (rev : ByteArray) (q : Int) : FFew (fTake F rev q).1 := by
 unfold fTake; split
 ·exact h
 ·split
  ·exact h
  ·exact h.upd _ _ fun x hx _ => z9A (h.q x hx)
theorem FFew.kill {F : AFleet} (h : FFew F) (id : Int) : FFew (fKill F id).1 := by
 unfold fKill; split
 ·exact h
 ·refine h.upd _ _ fun x hx _ => ?_
  unfold podKill; split
  ·exact h.q x hx
  ·exact ⟨by simp, (h.q x hx).2⟩
theorem FFew.grow1 {F : AFleet} (h : FFew F) (rev : ByteArray) {conc : Int} (hc : conc ≤ 1000) (hl : (F.l.length : Int) + 1 ≤ max F.room 0) : FFew (YtkmalcoocklikaaGreatDoor.grow1 rev conc F) := by
 refine ⟨h.r, ?_, fun x hx => ?_⟩
 ·simp only [YtkmalcoocklikaaGreatDoor.grow1, List.length_append, List.length_cons, List.length_nil]; omega
 ·rcases List.mem_append.1 hx with hx | hx
  ·exact h.q x hx
  ·simp at hx; subst hx; exact ⟨by simp, hc⟩
theorem FFew.grow (rev : ByteArray) {conc : Int} (hc : conc ≤ 1000) : ∀ (n : Nat) {F : AFleet}, FFew F → (F.l.length : Int) + n ≤ max F.room 0 → FFew (YtkmalcoocklikaaGreatDoor.grow rev conc n F)
 | 0, _, h, _ => h
 | n + 1, F, h, hl => by
  have h1 := FFew.grow rev hc n h (by omega)
  refine h1.grow1 rev hc ?_
  rw [zcO, zbL]; omega
theorem zbC {A B : List LnE} {x : LnE} {s' : Seg} {l' : List (Int × Int)} {ls : List (ByteArray × List (Int × Int))} {rev : ByteArray} {l : List (Int × Int)} (e : (A ++ x :: B).map LnE.ka = mset ls rev l) (hx : x.k = rev) (hnd : ((A ++ x :: B).map LnE.ka).map (·.1) |>.Nodup) :
  (A ++ (⟨x.k, x.b, l', s'⟩ : LnE) :: B).map LnE.ka = mset ls rev l' := by
 have h1 : mget ((A ++ x :: B).map LnE.ka) rev = some x.l := z57 hnd (by rw [← hx]; exact List.mem_map_of_mem (f := LnE.ka) (by simp))
 have h2 : mset ((A ++ x :: B).map LnE.ka) rev l' = (A ++ (⟨x.k, x.b, l', s'⟩ : LnE) :: B).map LnE.ka := by
  clear e h1
  induction A with
  | nil => simp [mset, hx]
  | cons y A ih =>
   have hne : y.k ≠ rev := by
    intro e
    have := hnd
    simp only [List.cons_append, List.map_cons, List.nodup_cons] at this
    refine this.1 ?_
    rw [e, ← hx]
    simp
   simp only [List.cons_append, List.map_cons, mset]
   rw [if_neg hne]
   congr 1
   refine ih ?_
   have := hnd
   simp only [List.cons_append, List.map_cons, List.nodup_cons] at this
   exact this.2
 rw [← h2, e, z8X]
abbrev Alls := List (Int × (ByteArray × Int))
theorem zd2 (h : St w0 E w) {v : Sl} {l : List Fate} (r : Rd w Fate.cells v l) (hn : l.length < 1000000000) (h64 : v.a = none → l = []) {k : Sl → PT}
  (hk : ∀ v' s' w', Rw Fate.cells z0w 4 v' l s' → St w0 (s' :: E) w' → k v' w') : L.call Pr z0B [SlV v] (.one (.one .slice)) k w := by
 refine z04 (z2a v) ?_
 unfold z12
 exact z6K (K := fun v w' => ∃ x, v = RT.val (.one (.one .slice)) x ∧ k x w') encF elF h r (by omega) (by omega) h64 fun v' s' w' h1 h2 h3 => ⟨v', rfl, hk v' s' w' h1 h3⟩
theorem zbK {b bf : Nat} {G : AGate} {sg : Seg} (hg : GtS b bf G sg) (h : St w0 (sg :: E) w) : ∃ rA rL c sA sL, ∃ Q : List LnE, GtR G rA rL sA sL Q ∧ St w0 (gtB b bf rA rL c G.room G.pat :: [Cl c z0g [I G.room]] :: sA :: sL :: (Q.map LnE.sg).flatten :: E) w := by
 obtain ⟨ok, rA, rL, c, sA, sL, Q, hr, rfl⟩ := hg
 exact ⟨rA, rL, c, sA, sL, Q, hr, h.split5⟩
def sameReq (a b : ByteArray × Int) : Bool := (a.1 == b.1) && ((a.2 == b.2) && true)
theorem zcT (a b : ByteArray × Int) (w : World) : (Op.equalIn 10000 z0p (.agg #[.string a.1, I a.2]) (.agg #[.string b.1, I b.2])).run Pr w = .ok (sameReq a b) w := by
 have hS : Pr.underlying z0p = some (.struct (Pr.fieldsOf z0p)) := by kernel_rfl
 have hp : Pr.stoodInHeld z0p = false := by kernel_rfl
 obtain ⟨a1, a2⟩ := a
 obtain ⟨b1, b2⟩ := b
 rw [show (10000 : Nat) = 9999 + 1 from rfl, run_equalIn_agg w 9999 z0p _ _ hS hp]
 have u3 := Tryz.underlying3
 have i3 := Tryz.isAgg3
 have z3 := Tryz.sizeOf3
 have u9 := Tryz.underlying9
 have i9 := Tryz.isAgg9
 have z9 := Tryz.sizeOf9
 simp only [Program.fieldsOf, Tryz.underlying191]
 go_simp
 have e : (ByteArray.toList a1 = ByteArray.toList b1) ↔ (@BEq.beq ByteArray _ a1 b1) = true := by rw [beq_toListBytes]; simp
 unfold sameReq
 by_cases h1 : (@BEq.beq ByteArray _ a1 b1) = true
 ·rw [if_pos (e.2 h1)]
  simp only [show (a1 == b1) = true from h1, Bool.true_and]
  by_cases h2 : @Eq Int a2 b2
  ·cases h2; simp
  ·simp [h2]
 ·rw [if_neg (fun h => h1 (e.1 h))]
  have : (a1 == b1) = false := by simpa using h1
  simp [this]
theorem z6O (a b : ByteArray × Int) : sameReq a b = true ↔ a = b := by
 obtain ⟨a1, a2⟩ := a
 obtain ⟨b1, b2⟩ := b
 have e : (@BEq.beq ByteArray _ a1 b1) = true ↔ a1 = b1 := zev
 unfold sameReq
 simp only [Bool.and_eq_true, beq_iff_eq, and_true, Prod.mk.injEq]
 exact and_congr e Iff.rfl
theorem zeo (a b : ByteArray × Int) (w : World) : (do eqGuard .eql z0p (.tmp 0) (.tmp 0) (.agg #[.string a.1, I a.2]) (.agg #[.string b.1, I b.2]); binOp .eql z0p (.agg #[.string a.1, I a.2]) (.agg #[.string b.1, I b.2]) : Sem Value).run Pr w = .ok (.bool (sameReq a b)) w :=
 zdg (by kernel_rfl) (zcT a b w)
def gWith (all : Alls) (rev : ByteArray) : List Int := isort ((all.filter fun p => decide (p.2 = (rev, 1))).map (·.1))
def gWait (G : AGate) (rev : ByteArray) : List Int := (lineOf G.lines rev).map (·.1)
def unReq : Value → ByteArray × Int
 | .agg ⟨.string s :: .int _ n :: _⟩ => (s, n)
 | _ => (s_, 0)
theorem zc8 {sg : Seg} (h : St w0 (sg :: E) w) {b bf : Nat} {G : AGate} (hg : GtS b bf G sg) {rev : ByteArray} {k : Sl × Sl × Unit → PT}
  (hk : ∀ v1 v2 s1 s2 sg' w', Rw eI z0g 1 v1 (gWait G rev) s1 → Rw eI z0g 1 v2 (gWith G.all rev) s2 → GtS b bf G sg' → St w0 (s1 :: s2 :: sg' :: E) w' → k (v1, v2, ()) w') :
  L.call Pr z2d [.pointer (some ⟨b, 0, none⟩), .string rev] (.tup [.one .slice, .one .slice]) k w := by
 have ok := hg.1
 have hfew := ok.few
 refine z04 (z5P _ _) ?_
 unfold z3s
 obtain ⟨rA, rL, c, sA, sL, Q, hr, h⟩ := zbK hg h
 (refine nn ?_; refine ldC h ?_)
 have h := fr2_ h
 have h : St w0 (sA :: [] :: gtB b bf rA rL c G.room G.pat :: [Cl c z0g [I G.room]] :: sL :: (Q.map LnE.sg).flatten :: E) w := h.eq (by simp)
 refine mapRange (kv := KI) (vv := vReq) unI (fun _ => rfl) unReq (fun _ => rfl) z7S (lk := .int .i64) (ev := .agg [.str, .int .i64]) (fun x => x) (fun _ => rfl) (fun x : ByteArray × Int => (x.1, x.2, ())) (fun _ => rfl) hr.all h
  (fun seen y F => ∃ v sv, y = (v, ()) ∧ Rw eI z0g 1 v ((seen.filter fun p => decide (p.2 = (rev, (1 : Int)))).map (·.1)) sv ∧ F = sv :: gtB b bf rA rL c G.room G.pat :: [Cl c z0g [I G.room]] :: sL :: (Q.map LnE.sg).flatten :: E)
  (y0 := (⟨none, 0, 0⟩, ())) ⟨_, [], rfl, Rw.nil, rfl⟩ ?_ ?_
 ·rintro seen id x y F X w again hsl hmem hnew ⟨v, sv, rfl, hv, rfl⟩ h hN
  have hfl := List.length_filter_le (fun p : Int × (ByteArray × Int) => decide (p.2 = (rev, 1))) seen
  have h : St w0 (sA :: sv :: (gtB b bf rA rL c G.room G.pat :: [Cl c z0g [I G.room]] :: sL :: (Q.map LnE.sg).flatten :: E ++ X)) w := h
  refine nw h ?_; clear h; (try clear w); intro b16 w h
  (dsimp only [setN, List.cons_append, List.nil_append] at h; refine stC h ?_; clear h; (try clear w); intro w h; dsimp only [putN, setN] at h; refine laC h ?_)
  unfold L.chkSem
  refine ⟨zeo x (rev, 1) w, ?_⟩
  refine it (fun hc => ?_) (fun hc => ?_)
  ·have hc : x = (rev, 1) := (z6O x (rev, 1)).1 hc
   refine nw h ?_; clear h; (try clear w); intro b18 w h
   refine Rw.app (l := (seen.filter fun p => decide (p.2 = (rev, (1 : Int)))).map (·.1)) encI elI h 2 rfl hv id rfl (by rw [List.length_map]; omega) (by rw [List.length_map]; omega) fun v' sv' w hv' h => ?_
   have h : St w0 ([Cl b16 z0p [.string x.1, I x.2]] :: sA :: sv' :: (gtB b bf rA rL c G.room G.pat :: [Cl c z0g [I G.room]] :: sL :: (Q.map LnE.sg).flatten :: E ++ X)) w := h
   refine hN (v', ()) _ w ⟨v', sv', rfl, ?_, rfl⟩ (dl0_ h)
   rw [List.filter_append, List.map_append]
   simpa [hc] using hv'
  ·have hc : ¬ x = (rev, 1) := fun e => by
    have : sameReq x (rev, 1) = true := (z6O _ _).2 e
    unfold sameReq at this; rw [this] at hc; cases hc
   refine hN (v, ()) _ w ⟨v, sv, rfl, ?_, rfl⟩ (dl0_ h)
   rw [List.filter_append, List.map_append]
   simpa [hc] using hv
 ·rintro seen y F w hp ⟨v, sv, rfl, hv, rfl⟩ h
  have hfl := List.length_filter_le (fun p : Int × (ByteArray × Int) => decide (p.2 = (rev, 1))) seen
  rw [hp.length_eq] at hfl
  (try dsimp only)
  refine ze0 h 1 rfl hv (by rw [List.length_map]; omega) fun sv w hv h => ?_
  have e1 : isort ((seen.filter fun p => decide (p.2 = (rev, (1 : Int)))).map (·.1)) = gWith G.all rev := zcN ((hp.filter _).map _)
  rw [e1] at hv
  have h : St w0 (sA :: sv :: gtB b bf rA rL c G.room G.pat :: [Cl c z0g [I G.room]] :: sL :: (Q.map LnE.sg).flatten :: E) w := h
  have hgl : (gWith G.all rev).length < 1000000000 := by
   rw [← e1, z6U, List.length_map]; omega
  have fin : ∀ {v1 : Sl} {s1 : Seg} {w}, Rw eI z0g 1 v1 (gWait G rev) s1 → St w0 (s1 :: sA :: sv :: gtB b bf rA rL c G.room G.pat :: [Cl c z0g [I G.room]] :: sL :: (Q.map LnE.sg).flatten :: E) w →
    L.call Pr z0x [.slice v.a v.len v.cap] (.one (.one .slice)) (fun x14 w' => ∃ z, Value.tuple #[.slice v1.a v1.len v1.cap, .slice x14.a x14.len x14.cap] = RT.val (.tup [.one .slice, .one .slice]) z ∧ k z w') w := by
   intro v1 s1 w h1 h
   refine z8k h (Rw.rd encI h 2 rfl hv) (by omega) (fun h0 => Rw.nil_of encI hv h0) fun v2 s2 w h2 _ h => ⟨(v1, v2, ()), rfl, ?_⟩
   have h := dl3_ h
   have h := fr6_ (fr6_ (fr4_ (fr6_ (fr6_ (fr1_ h)))))
   obtain ⟨sg', hg', h⟩ := z8c ok hr h
   have h := fr2_ (fr2_ h)
   exact hk v1 v2 s1 s2 sg' w h1 h2 hg' h
  refine jd ?_
  (refine nn ?_; refine ldC h ?_)
  refine MpS.get2 mkS' z9s zln (fun x : Option Addr => x) (fun _ => rfl) h 4 rfl hr.lns ?_
  (try dsimp only)
  have e2 := zag (Q := Q) (rev := rev)
  have e3 := zah (Q := Q) (rev := rev)
  rw [← hr.abs] at e3
  cases hf : lfind LnE.k Q rev with
  | none =>
   rw [hf] at e2 e3
   simp only [Option.map_none] at e2 e3
   rw [e2]
   refine itF rfl ?_
   refine fin (v1 := ⟨none, 0, 0⟩) (s1 := []) ?_ h.nil
   unfold gWait lineOf; rw [e3]; exact Rw.nil
  | some x =>
   rw [hf] at e2 e3
   simp only [Option.map_some] at e2 e3
   rw [e2]
   refine itT rfl ?_
   obtain ⟨A, B, rfl, hx⟩ := z89 hf
   have hlx := hr.each x (by simp)
   have hlen := z4C ok rev
   have hhi := ok.hi
   have elo : lineOf G.lines rev = x.l := by unfold lineOf; rw [e3]; rfl
   rw [elo] at hlen
   have h := fr5_ h
   have h := h.pick
   refine zeQ h 0 rfl hlx (by omega) fun v1 s1 w h1 h => ?_
   have h : St w0 (s1 :: x.sg :: ((A ++ B).map LnE.sg).flatten :: sA :: sv :: gtB b bf rA rL c G.room G.pat :: [Cl c z0g [I G.room]] :: sL :: E) w := h
   have h := fr2_ (fr2_ h)
   have h : St w0 (LnE.sg x :: ((A ++ B).map LnE.sg).flatten :: s1 :: sA :: sv :: gtB b bf rA rL c G.room G.pat :: [Cl c z0g [I G.room]] :: sL :: E) w := h
   have h := h.place
   have h := fr6_ (fr6_ (fr6_ (fr6_ (fr6_ (fr6_ h)))))
   refine fin (v1 := v1) ?_ h
   unfold gWait; rw [elo]; exact h1
theorem zdV {sg : Seg} (h : St w0 (sg :: E) w) {b bf : Nat} {G : AGate} (hg : GtS b bf G sg) {rev : ByteArray} {k : Int → PT}
  (hk : ∀ sg' w', GtS b bf G sg' → St w0 (sg' :: E) w' → k (((gWait G rev).length : Int) + (gWith G.all rev).length) w') :
  L.call Pr z2M [.pointer (some ⟨b, 0, none⟩), .string rev] (.one (.one (.int .i64))) k w := by
 have ok := hg.1
 refine z04 (z6C _ _) ?_
 unfold z4c
 refine zc8 h hg fun v1 v2 s1 s2 sg' w h1 h2 hg' h => ?_
 have e1 := Rw.len encI h1
 have e2 := Rw.len encI h2
 have hlen := z4C ok rev
 have hhi := ok.hi
 have hfew := ok.few
 have h3 : (gWait G rev).length = (lineOf G.lines rev).length := List.length_map ..
 have h4 : (gWith G.all rev).length ≤ G.all.length := by unfold gWith; rw [z6U, List.length_map]; exact List.length_filter_le ..
 refine ⟨_, rfl, ?_⟩
 (try dsimp only)
 rw [e1, e2, wr (by omega) (by omega)]
 exact hk sg' w hg' (dl0_ (dl0_ h))
end Go.Proofs.YtkmalcoocklikaaGreatDoor
namespace Go.Proofs.YtkmalcoocklikaaGreatDoor
open Go.Dm
theorem zdr {P : Program} {r : RT} {s : Sem Value} {k : r.T → PT} {w : World} (x : r.T) (h : s.run P w = .ok (r.val x) w) (hk : k x w) : L.semR P r s k w := ⟨x, h, hk⟩
attribute [local irreducible] L.load L.store L.chk L.new L.nonnil L.guard L.ite L.draw L.idx L.sem L.semR L.semU L.chkSem L.next L.call L.callV L.join L.alts L.loop L.begin L.endRound L.range
variable {w0 w : World} {E : List Seg}
theorem ze7 (n : Int) (w : World) : (Instr.typeAssert (.iface z0g (I n)) z5a z05 true).run Pr w = .ok (.tuple #[.string s_, .bool false]) w := by
 have hz := zstr w
 have hz : (zeroValue z05).run Pr w = .ok (.string s_) w := hz
 simp only [Instr.typeAssert]
 rw [Sem.run_bind, run_underlying z33]
 simp only [Result.andThen_ok]
 rw [if_neg (by decide)]
 simp only [if_true]
 rw [Sem.run_bind, hz]
 rfl
def lineB (word : ByteArray) (l : List ByteArray) : ByteArray := joinB (word :: l)
theorem zaf {word : ByteArray} {l : List ByteArray} (h : ∀ x ∈ word :: l, x.size ≤ 100000000) (hl : l.length ≤ 1000) : (lineB word l).size < 1000000000000 := by
 have := zai 100000000 (word :: l) h
 unfold lineB
 simp only [List.length_cons] at this
 have e : (l.length + 1) * (100000000 + 1) ≤ 1001 * (100000000 + 1) := Nat.mul_le_mul_right _ (by omega)
 omega
theorem z9c : ∀ (k : Nat) (g : Nat), g < 10 ^ (k + 1) → (Lib.decDigits g).length ≤ k + 1
 | 0, g, h => by rw [Lib.decDigits_one (by simpa using h)]; simp
 | k + 1, g, h => by
  by_cases h1 : g < 10
  ·rw [Lib.decDigits_one h1]; simp
  ·rw [Lib.decDigits, dif_neg h1, List.length_append]
   have := z9c k (g / 10) (by rw [Nat.div_lt_iff_lt_mul (by decide)]; rw [Nat.pow_succ] at h; exact h)
   simp only [List.length_singleton]
   omega
theorem zbU {x : Int} (h0 : 0 ≤ x) (h1 : x ≤ 9000000000000000000) : (decD x.toNat).size ≤ 100 := by
 have := z9c 18 x.toNat (by have : (10 : Nat) ^ (18 + 1) = 10000000000000000000 := by decide
                            omega)
 have e : (decD x.toNat).size = (Lib.decDigits x.toNat).length := by rw [← z1z, zbV]
 omega
theorem zdS (h : St w0 E w) {word : ByteArray} {v : Sl} {l : List ByteArray} (r : RdE w0 E eS v l) (hl : l.length ≤ 1000) (hs : ∀ x ∈ word :: l, x.size ≤ 100000000) {k : ByteArray → PT} (hk : ∀ w', St w0 E w' → k (lineB word l) w') :
  L.call Pr z0q [.string word, SlV v] (.one (.one .str)) k w := by
 refine z04 (z4L _ v) ?_
 unfold z2N
 have hlen := Rd.len (r w h)
 refine nw h ?_; clear h; (try clear w); intro b1 w h
 refine z2h (fun q y w => ∃ (j : Nat) (s1 : Seg), @Eq Int y.2.1 j ∧ q + j = l.length ∧ Rw eS z05 1 y.1 (word :: l.take j) s1 ∧ St w0 (s1 :: E) w) l.length ⟨0, _, rfl, rfl, Rw.lit b1 [word] encS rfl rfl (by decide), h⟩ ?_
 clear h; (try clear w)
 rintro q ⟨vo, y, ⟨⟩⟩ w ⟨j, s1, hy, hq, r1, h⟩ again hag
 (try dsimp only)
 simp only at hy r1
 subst hy
 refine it (fun hb => ?_) (fun hb => ?_) <;> (try simp only [zB] at hb)
 ·have hj : j < l.length := by omega
  have hx : l[j]? = some l[j] := List.getElem?_eq_getElem hj
  have et : l.take (j + 1) = l.take j ++ [l[j]] := by rw [List.take_succ, hx]; rfl
  have rr := r w (dl0_ h)
  generalize l[j] = x at hx et
  refine jd ?_
  refine rr.ix encS (by omega) (by simpa using hj) fun a ha => ?_
  refine rr.ld0 encS ha (by simpa using hx) rfl rfl ?_
  refine itT rfl ?_
  refine nw h ?_; clear h; (try clear w); intro b8 w h
  refine Rw.app encS elS h 0 rfl r1 x rfl (by simp; omega) (by simp; omega) fun v' s1' w r1' h => ?_
  refine hag (q - 1) _ w (by omega) ⟨j + 1, s1', ?_, by omega, by rw [et]; exact r1', h⟩
  show IntKind.wrap .i64 _ = _
  rw [wr (by omega) (by omega)]; omega
 ·have e : l.take j = l := List.take_of_length_le (by omega)
  rw [e] at r1
  refine zce h 0 rfl r1 (by simp; omega) (zaf hs hl) fun w h => ⟨_, rfl, hk w (dl0_ h)⟩
theorem zc6 [bTab w0] (h : St w0 E w) {word : ByteArray} {v : Sl} {l : List Int} (r : RdE w0 E eI v l) (hl : l.length ≤ 1000) (hw : word.size ≤ 100000000) (hs : ∀ x ∈ l, 0 ≤ x ∧ x ≤ 9000000000000000000) {k : ByteArray → PT} (hk : ∀ w', St w0 E w' → k (lineB word (l.map fun x => decD x.toNat)) w') :
  L.call Pr z0h [.string word, SlV v] (.one (.one .str)) k w := by
 refine z04 (z68 _ v) ?_
 unfold z3J
 have hlen := Rd.len (r w h)
 let f : Int → ByteArray := fun x => decD x.toNat
 refine nw h ?_; clear h; (try clear w); intro b1 w h
 refine z2h (fun q y w => ∃ (j : Nat) (s1 : Seg), @Eq Int y.2.1 j ∧ q + j = l.length ∧ Rw eS z05 1 y.1 (word :: (l.take j).map f) s1 ∧ St w0 (s1 :: E) w) l.length ⟨0, _, rfl, rfl, Rw.lit b1 [word] encS rfl rfl (by decide), h⟩ ?_
 clear h; (try clear w)
 rintro q ⟨vo, y, ⟨⟩⟩ w ⟨j, s1, hy, hq, r1, h⟩ again hag
 (try dsimp only)
 simp only at hy r1
 subst hy
 refine it (fun hb => ?_) (fun hb => ?_) <;> (try simp only [zB] at hb)
 ·have hj : j < l.length := by omega
  have hx : l[j]? = some l[j] := List.getElem?_eq_getElem hj
  have et : (l.take (j + 1)).map f = (l.take j).map f ++ [f l[j]] := by rw [List.take_succ, hx, List.map_append]; rfl
  have hxs := hs l[j] (List.getElem_mem hj)
  have rr := r w (dl0_ h)
  generalize l[j] = x at hx et hxs
  refine jd ?_
  refine rr.ix encI (by omega) (by simpa using hj) fun a ha => ?_
  refine rr.ld0 encI ha (by simpa using hx) rfl rfl ?_
  refine zdr (s_, false, ()) (ze7 x w) ?_
  refine itF rfl (itT rfl ?_)
  refine ze1 h hxs.1 (by omega) fun w h => ?_
  refine nw h ?_; clear h; (try clear w); intro b8 w h
  refine Rw.app encS elS h 0 rfl r1 (f x) rfl (by simp; omega) (by simp; omega) fun v' s1' w r1' h => ?_
  refine hag (q - 1) _ w (by omega) ⟨j + 1, s1', ?_, by omega, by rw [et]; exact r1', h⟩
  show IntKind.wrap .i64 _ = _
  rw [wr (by omega) (by omega)]; omega
 ·have e : l.take j = l := List.take_of_length_le (by omega)
  rw [e] at r1
  refine zce h 0 rfl r1 (by simp; omega) (zaf (fun x hx => ?_) (by simpa using hl)) fun w h => ⟨_, rfl, hk w (dl0_ h)⟩
  rcases List.mem_cons.1 hx with rfl | hx
  ·exact hw
  ·obtain ⟨y, hy, rfl⟩ := List.mem_map.1 hx
   have := zbU (hs y hy).1 (hs y hy).2
   show (decD y.toNat).size ≤ _
   omega
end Go.Proofs.YtkmalcoocklikaaGreatDoor
namespace Go.Proofs.YtkmalcoocklikaaGreatDoor
open Go.Dm
attribute [local irreducible] L.load L.store L.chk L.new L.nonnil L.guard L.ite L.draw L.idx L.sem L.semR L.semU L.chkSem L.next L.call L.callV L.join L.alts L.loop L.begin L.endRound L.range
variable {w0 w : World} {E : List Seg}
def errB (e : Int) : ByteArray :=
 if e = 0 then s_ok else if e = 1 then zd8 else if e = 2 then zec else if e = 3 then zda else if e = 4 then zea else if e = 5 then zbp else if e = 6 then zd7 else if e ≤ 6 then z7Z
 else if e = 7 then zbs else if e = 8 then zdc else if e = 9 then zbr else if e = 10 then zeb else if e = 11 then zd9 else if e = 12 then zdb else z7Z
theorem zcL {c : Prop} [Decidable c] {a b : ByteArray} {n : Nat} (h1 : a.size ≤ n) (h2 : b.size ≤ n) : (if c then a else b).size ≤ n := by split <;> assumption
theorem zbM (e : Int) : (errB e).size ≤ 100 := by
 unfold errB
 repeat' (first | (show ByteArray.size _ ≤ _; decide) | apply zcL)
theorem zcb {e : Int} {k : ByteArray → PT} (hk : k (errB e) w) : L.call Pr z1L [I e] (.one (.one .str)) k w := by
 refine z04 (z6d e) ?_
 unfold z3O
 unfold errB at hk
 refine it (fun h1 => ?_) (fun h1 => ?_)
 ·have h1 : e ≤ 6 := by simpa using h1
  refine z04 (z9W e) ?_
  unfold z7i
  repeat' (first | refine it (fun hc => ?_) (fun hc => ?_))
  all_goals refine ⟨_, rfl, _, rfl, ?_⟩
  all_goals exact eqk hk (by clear hk; simp_all)
 ·have h1 : ¬ e ≤ 6 := by simpa using h1
  refine z04 (zb6 e) ?_
  unfold z7R
  have n0 : ¬ e = 0 := by omega
  have n1 : ¬ e = 1 := by omega
  have n2 : ¬ e = 2 := by omega
  have n3 : ¬ e = 3 := by omega
  have n4 : ¬ e = 4 := by omega
  have n5 : ¬ e = 5 := by omega
  have n6 : ¬ e = 6 := by omega
  rw [if_neg n0, if_neg n1, if_neg n2, if_neg n3, if_neg n4, if_neg n5, if_neg n6, if_neg h1] at hk
  repeat' (first | refine it (fun hc => ?_) (fun hc => ?_))
  all_goals refine ⟨_, rfl, _, rfl, ?_⟩
  all_goals exact eqk hk (by clear hk; simp_all)
theorem lineS1 {b : Nat} {x word : ByteArray} (h : St w0 ([Cl b z05 [.string x]] :: E) w) (h1 : word.size ≤ 100000000) (h2 : x.size ≤ 100000000) {k : ByteArray → PT} (hk : ∀ w', St w0 E w' → k (lineB word [x]) w') :
  L.call Pr z0q [.string word, .slice (some ⟨b, 0, none⟩) 1 1] (.one (.one .str)) k w :=
 zdS (v := ⟨some ⟨b, 0, none⟩, 1, 1⟩) (l := [x]) h (Rw.re encS 0 rfl (Rw.lit b [x] encS rfl rfl (by decide))) (by simp) (fun y hy => by
  rcases List.mem_cons.1 hy with rfl | hy
  ·exact h1
  ·rw [List.mem_singleton.1 hy]; exact h2) fun w h => hk w (dl0_ h)
theorem lineI1 [bTab w0] {b : Nat} {x : Int} {word : ByteArray} (h : St w0 ([Cl b z0g [I x]] :: E) w) (h1 : word.size ≤ 100000000) (h0 : 0 ≤ x) (h2 : x ≤ 9000000000000000000) {k : ByteArray → PT} (hk : ∀ w', St w0 E w' → k (lineB word [decD x.toNat]) w') :
  L.call Pr z0h [.string word, .slice (some ⟨b, 0, none⟩) 1 1] (.one (.one .str)) k w :=
 zc6 (v := ⟨some ⟨b, 0, none⟩, 1, 1⟩) (l := [x]) h (Rw.re encI 0 rfl (Rw.lit b [x] encI rfl rfl (by decide))) (by simp) h1 (fun y hy => by rw [List.mem_singleton.1 hy]; exact ⟨h0, h2⟩) fun w h => hk w (dl0_ h)
theorem lineI2 [bTab w0] {b : Nat} {x y : Int} {word : ByteArray} (h : St w0 ([Cl b z0g [I x, I y]] :: E) w) (h1 : word.size ≤ 100000000) (h0 : 0 ≤ x ∧ x ≤ 9000000000000000000) (h2 : 0 ≤ y ∧ y ≤ 9000000000000000000) {k : ByteArray → PT} (hk : ∀ w', St w0 E w' → k (lineB word [decD x.toNat, decD y.toNat]) w') :
  L.call Pr z0h [.string word, .slice (some ⟨b, 0, none⟩) 2 2] (.one (.one .str)) k w :=
 zc6 (v := ⟨some ⟨b, 0, none⟩, 2, 2⟩) (l := [x, y]) h (Rw.re encI 0 rfl (Rw.lit b [x, y] encI rfl rfl (by decide))) (by simp) h1 (fun z hz => by
  rcases List.mem_cons.1 hz with rfl | hz
  ·exact h0
  ·rw [List.mem_singleton.1 hz]; exact h2) fun w h => hk w (dl0_ h)
def refusedB (e : Int) : List ByteArray := [lineB s_refused [errB e]]
theorem zc5 (h : St w0 E w) {e : Int} {k : Sl → PT} (hk : ∀ v s' w', Rw eS z05 1 v (refusedB e) s' → St w0 (s' :: E) w' → k v w') : L.call Pr z2J [I e] (.one (.one .slice)) k w := by
 refine z04 (z6y e) ?_
 unfold z48
 refine zcb ?_
 refine nw h ?_; clear h; (try clear w); intro b2 w h
 refine lineS1 h (by decide) (by have := zbM e; omega) fun w h => ?_
 refine nw h ?_; clear h; (try clear w); intro b4 w h
 exact ⟨⟨some ⟨b4, 0, none⟩, 1, 1⟩, rfl, hk _ _ w (Rw.lit b4 [_] encS rfl rfl (by decide)) h⟩
theorem zbD {word x : ByteArray} : (lineB word [x]).size = word.size + 1 + x.size := by
 unfold lineB
 rw [z7I, z92, ByteArray.size_append, ByteArray.size_append]
 rfl
def fateB (f : Fate) : ByteArray :=
 if f.2.1 = 1 then lineB zd6 [decD (@id Int f.1).toNat, decD (@id Int f.2.2.1).toNat] else if f.2.1 = 2 then lineB zbo [decD (@id Int f.1).toNat] else if f.2.1 = 3 then lineB zdd [decD (@id Int f.1).toNat]
 else lineB (lineB s_refused [decD (@id Int f.1).toNat]) [f.2.2.2.1]
structure Fate.Ok (f : Fate) : Prop where
 id : 0 ≤ @id Int f.1 ∧ @id Int f.1 ≤ 9000000000000000000
 pod : 0 ≤ @_root_.id Int f.2.2.1 ∧ @_root_.id Int f.2.2.1 ≤ 9000000000000000000
 why : f.2.2.2.1.size ≤ 1000
theorem zeC [bTab w0] (h : St w0 E w) {f : Fate} (ok : f.Ok) {k : ByteArray → PT} (hk : ∀ w', St w0 E w' → k (fateB f) w') : L.call Pr z3R [.agg f.cells.toArray] (.one (.one .str)) k w := by
 obtain ⟨fi, fw, fp, fy, ⟨⟩⟩ := f
 obtain ⟨o1, o2, o3⟩ := ok
 simp only [id] at o1 o2
 refine z04 (z8m (fi, fw, fp, fy, ())) ?_
 unfold z5H
 unfold fateB at hk
 refine nw h ?_; clear h; (try clear w); intro b1 w h
 (dsimp only [setN, List.cons_append, List.nil_append] at h; refine ldC h ?_)
 refine it (fun h1 => ?_) (fun h1 => ?_)
 ·rw [if_pos (by simpa using h1)] at hk
  (refine ldC h ?_; refine ldC h ?_)
  refine nw h ?_; clear h; (try clear w); intro b5 w h
  exact lineI2 h (by decide) o1 o2 fun w h => ⟨_, rfl, hk w (dl0_ h)⟩
 rw [if_neg (by simpa using h1)] at hk
 refine it (fun h2 => ?_) (fun h2 => ?_)
 ·rw [if_pos (by simpa using h2)] at hk
  (refine ldC h ?_)
  refine nw h ?_; clear h; (try clear w); intro b5 w h
  exact lineI1 h (by decide) o1.1 o1.2 fun w h => ⟨_, rfl, hk w (dl0_ h)⟩
 rw [if_neg (by simpa using h2)] at hk
 refine it (fun h3 => ?_) (fun h3 => ?_)
 ·rw [if_pos (by simpa using h3)] at hk
  (refine ldC h ?_)
  refine nw h ?_; clear h; (try clear w); intro b5 w h
  exact lineI1 h (by decide) o1.1 o1.2 fun w h => ⟨_, rfl, hk w (dl0_ h)⟩
 rw [if_neg (by simpa using h3)] at hk
 have hd := zbU o1.1 o1.2
 have hb : (lineB s_refused [decD (@id Int fi).toNat]).size ≤ 100000000 := by rw [zbD]; have : s_refused.size = 7 := rfl; simp only [id]; omega
 dsimp only at o3
 refine jd ?_
 (refine dr h ?_; clear h; (try clear w); intro w h; refine ldC h ?_; refine ldC h ?_)
 refine alts2 ?_ ?_
 ·refine nw h ?_; clear h; (try clear w); intro b17 w h
  (refine ckC h ?_)
  refine alts2 ?_ ?_
  ·refine lineI1 h (by decide) o1.1 o1.2 fun w h => ?_
   (refine ckC h ?_)
   refine nw h ?_; clear h; (try clear w); intro b19 w h
   (refine ckC h ?_)
   exact lineS1 h hb (by omega) fun w h => ⟨_, rfl, hk w (dl0_ h)⟩
  ·refine nw h ?_; clear h; (try clear w); intro b21 w h
   (refine ckC h ?_)
   have h := fr1_ h
   refine lineI1 h (by decide) o1.1 o1.2 fun w h => ?_
   (refine ckC h ?_)
   exact lineS1 h hb (by omega) fun w h => ⟨_, rfl, hk w (dl0_ h)⟩
 ·refine nw h ?_; clear h; (try clear w); intro b24 w h
  (refine ckC h ?_)
  refine nw h ?_; clear h; (try clear w); intro b25 w h
  (refine ckC h ?_)
  refine lineI1 h (by decide) o1.1 o1.2 fun w h => ?_
  (refine ckC h ?_)
  exact lineS1 h hb (by omega) fun w h => ⟨_, rfl, hk w (dl0_ h)⟩
theorem zdG [bTab w0] {c : Nat} {v : Sl} {fs : List Fate} {sv : Seg} (hr : Rw Fate.cells z0w 4 v fs sv) (hok : ∀ f ∈ fs, f.Ok) (hn : fs.length < 1000000000) :
  YldX Pr w0 [[Cl c z0a [SlV v]], sv] (.func (.func z1k) #[] #[.pointer (some ⟨c, 0, none⟩)]) (fs.map fateB).length fun i => TV _ (argS (fs.map fateB) i) := by
 intro yv R J Jd G w h hJ step fin fin2
 refine ⟨z6w, z6z yv ⟨c, 0, none⟩ ?_⟩
 unfold z49
 have h : St w0 ([Cl c z0a [SlV v]] :: sv :: G) w := h
 have hlen := Rw.len encF hr
 (refine ldC h ?_)
 refine z2h (fun q y w => ∃ (j : Nat) (G : List Seg), @Eq Int y.1 j ∧ q + j = fs.length ∧ J j G ∧ St w0 ([Cl c z0a [SlV v]] :: sv :: G) w) fs.length ⟨0, G, rfl, rfl, hJ, h⟩ ?_
 clear hJ
 clear h; (try clear w)
 rintro q ⟨y, ⟨⟩⟩ w ⟨j, G, hy, hq, hJ, h⟩ again hag
 (try dsimp only)
 simp only at hy
 subst hy
 refine it (fun hb => ?_) (fun hb => ?_) <;> (try simp only [zB] at hb)
 ·have hj : j < fs.length := by omega
  have hx : fs[j]? = some fs[j] := List.getElem?_eq_getElem hj
  have ho := hok fs[j] (List.getElem_mem hj)
  generalize fs[j] = x at hx ho
  have next : ∀ {G w}, J (j + 1) G → St w0 ([Cl c z0a [SlV v]] :: sv :: G) w → again (IntKind.wrap .i64 ((j : Int) + 1), ()) w := by
   intro G w hJ h
   refine hag (q - 1) _ w (by omega) ⟨j + 1, G, ?_, by omega, hJ, h⟩
   show IntKind.wrap .i64 _ = _
   rw [wr (by omega) (by omega)]; omega
  refine Rw.ix encF hr (by omega) (by simpa using hj) fun a ha => ?_
  refine Rw.lda encF h 1 rfl hr ha (x := x) (by simpa using hx) rfl ?_
  refine nw h ?_; clear h; (try clear w); intro b6 w h
  (refine stC h ?_; clear h; (try clear w); intro w h; dsimp only [putN, setN] at h; refine laC h ?_)
  refine zeC (f := x) h ho fun w h => ?_
  have h := dl0_ h
  have hat : (fs.map fateB)[j]? = some (fateB x) := by rw [List.getElem?_map, hx]; rfl
  have step := step j G [] w (by simpa using hj) hJ (by simpa using h)
  simp only [zbY hat] at step
  refine cv (FCall.mono step fun u w' hu => ?_)
  rcases hu with ⟨rfl, G', h, hJ⟩ | ⟨rfl, hd⟩
  ·exact ⟨true, rfl, itF rfl (next hJ (by simpa using h))⟩
  ·exact ⟨false, rfl, itT rfl (fin2 w' hd)⟩
 ·have e : j = fs.length := by omega
  subst e
  exact fin G w (by simpa using hJ) h
theorem zey [bTab w0] {s2 sv : Seg} (h : St w0 (s2 :: sv :: E) w) {v1 v2 : Sl} {fs : List Fate} {l : List ByteArray} (hr : Rw Fate.cells z0w 4 v1 fs sv) (hok : ∀ f ∈ fs, f.Ok) (hn : fs.length < 100000000) (hl : l.length < 100000000) (h2 : Rw eS z05 1 v2 l s2) {k : Sl → PT}
  (hk : ∀ v s w', Rw eS z05 1 v (l ++ fs.map fateB) s → St w0 (s :: sv :: E) w' → k v w') : L.call Pr z3Q [SlV v1, SlV v2] (.one (.one .slice)) k w := by
 refine z04 (z8l v1 v2) ?_
 unfold z5G
 refine nw h ?_; clear h; (try clear w); intro b1 w h
 refine z04 (z7r v1) ?_
 unfold z4V
 refine nw h ?_; clear h; (try clear w); intro c w h
 refine ⟨⟨.func z1k, #[], #[.pointer (some ⟨c, 0, none⟩)]⟩, rfl, ?_⟩
 have h : St w0 ([[Cl c z0a [SlV v1]], sv] ++ ([Cl b1 z0b [SlV v2]] :: s2 :: E)) w := by
  have h := fr3_ (fr3_ (fr2_ (fr2_ h)))
  exact h
 refine z8M (zdG hr hok (by omega)) h (fun m G => ∃ vv s, G = [Cl b1 z0b [SlV vv]] :: s :: E ∧ Rw eS z05 1 vv (l ++ (fs.map fateB).take m) s) (fun j G => False) ⟨v2, s2, rfl, by simpa using h2⟩ ?_ ?_ ?_
 ·rintro m G X w lv lp d R hm ⟨vv, so, rfl, hr2⟩ h hN hE
  have hx : (fs.map fateB)[m]? = some (fs.map fateB)[m] := List.getElem?_eq_getElem hm
  have h : St w0 ([Rec lv lp .busy none] :: [DfM d] :: [Cl c z0a [SlV v1]] :: sv :: [Cl b1 z0b [SlV vv]] :: so :: (E ++ X)) w := h
  have et : l ++ (fs.map fateB).take (m + 1) = (l ++ (fs.map fateB).take m) ++ [(fs.map fateB)[m]] := by rw [List.take_add_one, hx, Option.toList_some, List.append_assoc]
  have hlm : (l ++ (fs.map fateB).take m).length < 300000000 := by rw [List.length_append, List.length_take, List.length_map]; omega
  rw [zbY hx]
  generalize (fs.map fateB)[m] = x at et hx
  dsimp only
  (refine ldC h ?_)
  refine nw h ?_; clear h; (try clear w); intro b9 w h
  refine Rw.app encS elS h 5 rfl hr2 x rfl (by omega) (by omega) fun v' s' w hr' h => ?_
  (dsimp only [setN, List.cons_append, List.nil_append] at h; refine stC h ?_; clear h; (try clear w); intro w h; dsimp only [putN, setN] at h)
  exact hN _ w ⟨v', s', rfl, by rw [et]; exact hr'⟩ h
 ·rintro d G w ⟨vv, so, rfl, hr2⟩ h
  rw [List.take_length] at hr2
  have h : St w0 ([DfM d] :: [Cl c z0a [SlV v1]] :: sv :: [Cl b1 z0b [SlV vv]] :: so :: E) w := h
  refine jumpN ?_
  (refine ldC h ?_)
  refine zax h (Rw.rd encS h 4 rfl hr2) (by rw [List.length_append, List.length_map]; omega) (Rw.nil0 encS hr2) fun v' s' w hr' hi h => ?_
  (first | refine um0_ h ?_ | refine um1_ h ?_ | refine um2_ h ?_ | refine um3_ h ?_ | refine um4_ h ?_ | refine um5_ h ?_ | refine um6_ h ?_ | refine um7_ h ?_ | refine um8_ h ?_ | refine um9_ h ?_ | refine zbb h ?_ | refine zba h ?_); clear h; (try clear w); intro w h
  refine ⟨v', rfl, hk v' s' w hr' ?_⟩
  have h := dl1_ (dl3_ (dl4_ h))
  exact h
 ·rintro d j G w hf; exact hf.elim
def gCnt (all : Alls) (q : Int) : Nat := (all.filter fun p => decide (p.2.2 = q)).length
theorem zc9 {sg : Seg} (h : St w0 (sg :: E) w) {b bf : Nat} {G : AGate} (hg : GtS b bf G sg) {k : Int × Int × Int × Int × Unit → PT}
  (hk : ∀ sg' w', GtS b bf G sg' → St w0 (sg' :: E) w' → k ((G.all.length : Int), (gCnt G.all 2 : Int), (gCnt G.all 1 : Int), (gCnt G.all 3 : Int) + gCnt G.all 4, ()) w') :
  L.call Pr z2e [.pointer (some ⟨b, 0, none⟩)] (.tup [.one (.int .i64), .one (.int .i64), .one (.int .i64), .one (.int .i64)]) k w := by
 have ok := hg.1
 have hfew := ok.few
 refine z04 (z5Q _) ?_
 unfold z3t
 refine MpS.new h KI KI fun rM sM w hM h => ?_
 have h := fr1_ h
 obtain ⟨rA, rL, c, sA, sL, Q, hr, h⟩ := zbK hg h
 ((try dsimp only [setN, List.cons_append, List.nil_append] at h); repeat (first | refine nn ?_ | (refine dr h ?_; clear h; (try clear w); intro w h) | refine ldC h ?_ | refine laC h ?_ | refine ckC h ?_ | (refine stC h ?_; clear h; (try clear w); intro w h; (try dsimp only [putN, setN] at h)) | rw [z22]))
 have h := fr3_ (fr5_ h)
 refine mapRange (kv := KI) (vv := vReq) unI (fun _ => rfl) unReq (fun _ => rfl) z7S (lk := .int .i64) (ev := .agg [.str, .int .i64]) (fun x => x) (fun _ => rfl) (fun x : ByteArray × Int => (x.1, x.2, ())) (fun _ => rfl) hr.all h
  (fun seen y F => ∃ mm sm, MpS KI KI rM mm sm ∧ (∀ q, (mget mm q).getD 0 = ((gCnt seen q : Nat) : Int)) ∧ F = sm :: gtB b bf rA rL c G.room G.pat :: [Cl c z0g [I G.room]] :: sL :: (Q.map LnE.sg).flatten :: E)
  (y0 := ()) ⟨[], sM, hM, fun q => rfl, rfl⟩ ?_ ?_
 ·rintro seen id x ⟨⟩ F X w again hsl hmem hnew ⟨mm, sm, hm, hc, rfl⟩ h hN
  have h : St w0 (sA :: sm :: (gtB b bf rA rL c G.room G.pat :: [Cl c z0g [I G.room]] :: sL :: (Q.map LnE.sg).flatten :: E ++ X)) w := h
  refine nw h ?_; clear h; (try clear w); intro b16 w h
  ((try dsimp only [setN, List.cons_append, List.nil_append] at h); repeat (first | refine nn ?_ | (refine dr h ?_; clear h; (try clear w); intro w h) | refine ldC h ?_ | refine laC h ?_ | refine ckC h ?_ | (refine stC h ?_; clear h; (try clear w); intro w h; (try dsimp only [putN, setN] at h)) | rw [z22]))
  refine MpS.get mkI z34 zi (fun x : Int => x) (fun _ => rfl) h 2 rfl hm ?_
  have hcx := hc x.2
  have hle : gCnt seen x.2 ≤ seen.length := List.length_filter_le ..
  have e : ((mget mm x.2).map fun x : Int => x).getD 0 = ((gCnt seen x.2 : Nat) : Int) := by rw [← hcx]; cases mget mm x.2 <;> rfl
  rw [e, wr (by omega) (by omega)]
  refine MpS.set mkI z34 h 2 rfl hm (((gCnt seen x.2 : Nat) : Int) + 1) rfl fun sm' w hm' h => ?_
  refine hN () _ w ⟨_, sm', hm', fun q => ?_, rfl⟩ (dl0_ h)
  rw [z5t]
  unfold gCnt
  rw [List.filter_append, List.length_append]
  by_cases hq : x.2 = q
  ·subst hq; simp [gCnt]
  ·rw [if_neg hq]; have := hc q; unfold gCnt at this; simp [hq, this]
 ·rintro seen ⟨⟩ F w hp ⟨mm, sm, hm, hc, rfl⟩ h
  have hcc : ∀ q, gCnt seen q = gCnt G.all q := fun q => (hp.filter _).length_eq
  have hle3 : gCnt G.all 3 ≤ G.all.length := List.length_filter_le ..
  have hle4 : gCnt G.all 4 ≤ G.all.length := List.length_filter_le ..
  have eg : ∀ q : Int, ((mget mm q).map fun x : Int => x).getD 0 = ((gCnt G.all q : Nat) : Int) := fun q => by rw [← hcc, ← hc q]; cases mget mm q <;> rfl
  have ev : ∀ q : Int, ((mget mm q).map KI).getD (I 0) = I ((gCnt G.all q : Nat) : Int) := fun q => by rw [← eg q]; cases mget mm q <;> rfl
  have h : St w0 (sA :: sm :: gtB b bf rA rL c G.room G.pat :: [Cl c z0g [I G.room]] :: sL :: (Q.map LnE.sg).flatten :: E) w := h
  ((try dsimp only [setN, List.cons_append, List.nil_append] at h); repeat (first | refine nn ?_ | (refine dr h ?_; clear h; (try clear w); intro w h) | refine ldC h ?_ | refine laC h ?_ | refine ckC h ?_ | (refine stC h ?_; clear h; (try clear w); intro w h; (try dsimp only [putN, setN] at h)) | rw [z22]))
  refine MpS.len z7S h 0 rfl hr.all ?_
  refine MpS.get mkI z34 zi (fun x : Int => x) (fun _ => rfl) h 1 rfl hm ?_
  rw [eg]
  refine MpS.get mkI z34 zi (fun x : Int => x) (fun _ => rfl) h 1 rfl hm ?_
  rw [eg]
  refine MpS.get mkI z34 zi (fun x : Int => x) (fun _ => rfl) h 1 rfl hm ?_
  rw [eg]
  refine MpS.get mkI z34 zi (fun x : Int => x) (fun _ => rfl) h 1 rfl hm ?_
  rw [eg]
  (repeat refine MpS.chk mkI z34 zi h 1 rfl hm (ev _) ?_)
  rw [wr (by omega) (by omega)]
  have h := fr5_ (fr5_ (fr3_ (fr5_ (fr5_ (fr1_ h)))))
  have h := h
  obtain ⟨sg', hg', h⟩ := z8c ok hr h
  exact ⟨(_, _, _, _, ()), rfl, hk sg' w hg' (dl1_ h)⟩
def tab {α : Type} (n : Nat) (f : Nat → α) : List α := (List.range n).map f
def sk (l : List AHeld) : List (Int × ByteArray) := l.map fun x => (x.id, x.rev)
theorem FlS.nd {b : Nat} {F : AFleet} {s : Seg} (hf : FlS b F s) : ∀ x ∈ F.l, x.pod.reqs.Pairwise (· < ·) := by
 obtain ⟨-, _, _, _, _, _, _, L, -, -, hr, -⟩ := hf
 intro x hx
 rw [hr.l] at hx
 obtain ⟨t, ht, rfl⟩ := List.mem_map.1 hx
 exact (hr.ps t ht).1.pw
def tot (rs : Nat → List Int) : Nat → Nat
 | 0 => 0
 | n + 1 => tot rs n + (rs n).length
structure TL (n c m : Nat) (B : Int) (ready : Nat → Bool) (rs : Nat → List Int) : Prop where
 len : ∀ i, i < n → (rs i).length ≤ c
 nr : ∀ i, i < n → ready i = false → rs i = []
 tot : tot rs n = m
 b : ∀ i, i < n → ∀ q ∈ rs i, 1 ≤ q ∧ q ≤ B
theorem TL.fresh {n c m : Nat} {B q : Int} {ready : Nat → Bool} {rs : Nat → List Int} (t : TL n c m B ready rs) (hq : B < q) : ∀ i, i < n → q ∉ rs i := fun i hi h => by have := t.b i hi q h; omega
def lateS (rev : ByteArray) (l : List Int) (all : Alls) : Alls := l.foldl (fun a q => mset a q (rev, 4)) all
def lateF (l : List Int) : List Fate := l.map fun q => (q, 4, 0, z4j, ())
theorem z4D {rev : ByteArray} : ∀ {l : List Int} {all : Alls}, (∀ q ∈ l, (mget all q).isSome = true) → (lateS rev l all).map (·.1) = all.map (·.1)
 | [], _, _ => rfl
 | q :: l, all, h => by
  obtain ⟨v, hv⟩ := Option.isSome_iff_exists.1 (h q (by simp))
  have e := z3G (u := (rev, (4 : Int))) hv
  refine (z4D (l := l) (all := mset all q (rev, 4)) fun q2 h2 => ?_).trans e
  rw [z5t]
  split
  ·rfl
  ·exact h q2 (by simp [h2])
theorem zbm {A B : Alls} (h : A.map (·.1) = B.map (·.1)) (q : Int) : (mget A q).isSome = (mget B q).isSome := by
 cases ha : mget A q with
 | none =>
  have := z1H.1 ha
  rw [h] at this
  rw [z1H.2 this]
 | some v =>
  cases hb : mget B q with
  | none =>
   have := z1H.1 hb
   rw [← h] at this
   rw [z1H.2 this] at ha; cases ha
  | some u => rfl
def tick1 (now : Int) (k : ByteArray) (G : AGate) : AGate := { G with all := lateS k (lLate (lineOf G.lines k) now) G.all, lines := mset G.lines k (lRest (lineOf G.lines k) now) }
def tickA (now : Int) : List ByteArray → AGate → List Fate → AGate × List Fate
 | [], G, out => (G, out)
 | k :: ks, G, out => tickA now ks (tick1 now k G) (out ++ lateF (lLate (lineOf G.lines k) now))
def gTick (G : AGate) (now : Int) : AGate × List Fate := tickA now (ssort (G.lines.map (·.1))) G []
def GWk (G : AGate) : Prop := ∀ x ∈ G.lines, ∀ y ∈ x.2, (mget G.all y.1).isSome = true
theorem z9Z {now : Int} : ∀ {ks : List ByteArray} {G : AGate} {out : List Fate}, out.length ≤ (tickA now ks G out).2.length
 | [], _, _ => Nat.le_refl _
 | k :: ks, G, out => by
  have := z9Z (now := now) (ks := ks) (G := tick1 now k G) (out := out ++ lateF (lLate (lineOf G.lines k) now))
  simp only [tickA, List.length_append] at this ⊢
  omega
theorem GWk.line {G : AGate} (h : GWk G) (k : ByteArray) : ∀ y ∈ lineOf G.lines k, (mget G.all y.1).isSome = true := by
 intro y hy
 unfold lineOf at hy
 cases hm : mget G.lines k with
 | none => rw [hm] at hy; simp at hy
 | some l => rw [hm] at hy; exact h _ (z3V hm) y hy
theorem GWk.late {G : AGate} (h : GWk G) (k : ByteArray) (now : Int) : ∀ q ∈ lLate (lineOf G.lines k) now, (mget G.all q).isSome = true := by
 intro q hq
 obtain ⟨y, hy, rfl⟩ := List.mem_map.1 hq
 exact h.line k y (List.mem_filter.1 hy).1
theorem GWk.tick1 {G : AGate} (h : GWk G) (k : ByteArray) (now : Int) : GWk (YtkmalcoocklikaaGreatDoor.tick1 now k G) := by
 intro x hx y hy
 have e := z4D (rev := k) (h.late k now)
 show (mget (lateS k (lLate (lineOf G.lines k) now) G.all) y.1).isSome = true
 rw [zbm e]
 rcases z2D hx with rfl | hx
 ·exact h.line k y (List.mem_filter.1 hy).1
 ·exact h x hx y hy
theorem AGate.Ok.tick1 {G : AGate} (ok : G.Ok) (h : GWk G) {k : ByteArray} (hk : (mget G.lines k).isSome = true) (now : Int) : (YtkmalcoocklikaaGreatDoor.tick1 now k G).Ok := by
 have e := z4D (rev := k) (h.late k now)
 have e2 : (lateS k (lLate (lineOf G.lines k) now) G.all).length = G.all.length := by
  have := congrArg List.length e; simpa using this
 obtain ⟨v, hv⟩ := Option.isSome_iff_exists.1 hk
 refine ⟨by show (lateS k _ _).length < _; rw [e2]; exact ok.few, ok.lo, ok.hi, fun x hx => ?_, z9G ok.nd, by show ((lateS k _ _).map _).Nodup; rw [e]; exact ok.nda, ?_⟩
 ·rcases z2D hx with rfl | hx
  ·have := z4C ok k
   have := z90 (lineOf G.lines k) now
   simp only; show _ ≤ G.room; omega
  ·exact ok.ln x hx
 ·show (mset G.lines k _).length < _
  rw [za8 hv]; exact ok.fl
theorem z9u {G : AGate} {k : ByteArray} (hk : (mget G.lines k).isSome = true) (now : Int) : (tick1 now k G).lines.map (·.1) = G.lines.map (·.1) := by
 obtain ⟨v, hv⟩ := Option.isSome_iff_exists.1 hk
 exact z3G hv
abbrev KPt := List (ByteArray × Option Addr)
def argB (m : KPt) (l : List ByteArray) (i : Nat) : TT [.one .str, .one .ptr] := match l[i]? with | some k => (k, (mget m k).getD none, ()) | none => (s_, none, ())
theorem zc0 {m : KPt} {l : List ByteArray} {i : Nat} {k : ByteArray} (h : l[i]? = some k) : argB m l i = (k, (mget m k).getD none, ()) := by unfold argB; rw [h]
theorem zdF {m : KPt} {l : List ByteArray} {i : Nat} {k : ByteArray} (h : l[i]? = some k) : TV _ (argB m l i) = [.string k, .pointer ((mget m k).getD none)] := by rw [zc0 h]; rfl
theorem zeH (h : St w0 E w) (i : Nat) {s : Seg} (hi : nth E i = some s) {r : Nat} {m : KPt} (hm : MpS Value.string Value.pointer r m s) (hn : m.length < 1000000000) {k : Sl → PT}
  (hk : ∀ v s' w', Rw eS z05 1 v (ssort (m.map (·.1))) s' → St w0 (s' :: E) w' → k v w') :
  L.call Pr z0f [.map (some r)] (.one (.one .func)) (fun x5 => L.call Pr z0I [.func x5.fn x5.fs x5.cs] (.one (.one .slice)) k) w := by
 refine z04 (z13 _) ?_
 unfold z0v
 have h := h.front i hi
 refine nw h ?_; clear h; (try clear w); intro c w h
 refine ⟨⟨.func z03, #[], #[.pointer (some ⟨c, 0, none⟩)]⟩, rfl, ?_⟩
 have hY : YldM Pr w0 [[Cl c z0i [.map (some r)]], s] (.func (.func z03) #[] #[.pointer (some ⟨c, 0, none⟩)]) (m.map (·.1)) Value.string := by
  intro yv R J Jd F w h hJ step fin fin2
  refine ⟨z0Y, z0Z yv ⟨c, 0, none⟩ ?_⟩
  unfold z0s
  exact zbF (kv := Value.string) (vv := Value.pointer) unS (fun _ => rfl) z9s (lk := .str) (ev := .one .ptr) (fun x => x) (fun _ => rfl) (fun x : Option Addr => x) (fun _ => rfl) J Jd hm h hJ (fun seen k F X w hl hJ h => step seen k F X w (by simpa using hl) hJ h) fin fin2
 refine z5F (fv := ⟨.func z03, #[], #[.pointer (some ⟨c, 0, none⟩)]⟩) hY h (by simpa using hn) fun v s' w hr h => hk v s' w hr ?_
 have h := fr1_ h
 exact St.again (i + 1) (E := s' :: E) hi h
theorem zew {c b bf rA rL cc : Nat} {room pat : Int} {m : KPt} {sL : Seg} (hL : MpS Value.string Value.pointer rL m sL) (hn : m.length < 1000000000) :
  YldX Pr w0 [[Cl c z09 [.pointer (some ⟨b, 2, none⟩)]], gtB b bf rA rL cc room pat, sL]
   (.func (.func z0r) #[] #[.pointer (some ⟨c, 0, none⟩)]) (ssort (m.map (·.1))).length fun i => TV _ (argB m (ssort (m.map (·.1))) i) := by
 intro yv R J Jd G w h hJ step fin fin2
 refine ⟨z2X, z2Z yv ⟨c, 0, none⟩ ?_⟩
 unfold z1w
 have h : St w0 ([Cl c z09 [.pointer (some ⟨b, 2, none⟩)]] :: gtB b bf rA rL cc room pat :: sL :: G) w := h
 (refine ldC h ?_; refine nn ?_; refine ldC h ?_)
 refine zeH h 2 rfl hL hn fun v s w hrow h => ?_
 have hlen := Rw.len encS hrow
 have hl : (ssort (m.map (·.1))).length < 1000000000 := by rw [z5m, List.length_map]; exact hn
 generalize ssort (m.map (·.1)) = l at *
 refine z2h (fun q y w => ∃ (j : Nat) (G : List Seg), @Eq Int y.1 j ∧ q + j = l.length ∧ J j G ∧
  St w0 (s :: [Cl c z09 [.pointer (some ⟨b, 2, none⟩)]] :: gtB b bf rA rL cc room pat :: sL :: G) w) l.length ⟨0, G, rfl, rfl, hJ, h⟩ ?_
 clear hJ
 clear h; (try clear w)
 rintro q ⟨y, ⟨⟩⟩ w ⟨j, G, hy, hq, hJ, h⟩ again hag
 simp only at hy
 subst hy
 refine it (fun hb => ?_) (fun hb => ?_) <;> (try simp only [zB] at hb)
 ·have hj : j < l.length := by omega
  have hx : l[j]? = some l[j] := List.getElem?_eq_getElem hj
  refine Rw.ix encS hrow (by omega) (by simpa using hj) fun a ha => ?_
  refine Rw.ld0 encS h 0 rfl hrow ha (x := l[j]) (by simp [hj]) rfl rfl ?_
  (refine ldC h ?_; refine nn ?_; refine ldC h ?_)
  refine MpS.get mkS' z9s zln (fun x : Option Addr => x) (fun _ => rfl) h 3 rfl hL ?_
  have step := step _ G [s] w hj hJ (St.toEnd (X := [s]) (A := [_, _, _]) h)
  simp only [zdF hx] at step
  simp only [Option.map_id']
  refine cv (FCall.mono step fun u w' hu => ?_)
  rcases hu with ⟨rfl, G', h, hJ⟩ | ⟨rfl, hd⟩
  ·refine ⟨true, rfl, itF rfl ?_⟩
   refine hag (q - 1) _ w' (by omega) ⟨j + 1, G', ?_, by omega, hJ, St.ofEnd (X := [s]) (A := [_, _, _]) h⟩
   show IntKind.wrap .i64 _ = _
   rw [wr (by omega) (by omega)]; omega
  ·exact ⟨false, rfl, itT rfl (fin2 w' hd)⟩
 ·have e : j = l.length := by omega
  subst e
  exact fin G w hJ (dl0_ h)
theorem zaP {rev : ByteArray} {l : List Int} {j : Nat} {q : Int} {all : Alls} (h : l[j]? = some q) : lateS rev (l.take (j + 1)) all = mset (lateS rev (l.take j) all) q (rev, 4) := by
 unfold lateS; rw [List.take_add_one, h, Option.toList_some, List.foldl_append]; rfl
theorem zaQ {l : List Int} {j : Nat} {q : Int} (h : l[j]? = some q) : lateF (l.take (j + 1)) = lateF (l.take j) ++ [(q, 4, 0, z4j, ())] := by
 unfold lateF; rw [List.take_add_one, h, Option.toList_some, List.map_append]; rfl
theorem z6T (l : List Int) : (lateF l).length = l.length := List.length_map ..
theorem zdU {sg : Seg} (h : St w0 (sg :: E) w) {b bf : Nat} {G : AGate} (hg : GtS b bf G sg) (hw : GWk G) {now : Int} (ho : (gTick G now).2.length < 90000000) {k : Sl → PT}
  (hk : ∀ v sv sg' w', Rw Fate.cells z0w 4 v (gTick G now).2 sv → GtS b bf (gTick G now).1 sg' → St w0 (sv :: sg' :: E) w' → k v w') :
  L.call Pr z2L [.pointer (some ⟨b, 0, none⟩), I now] (.one (.one .slice)) k w := by
 obtain ⟨ok, rA, rL, c, sA, sL, Q, hr, rfl⟩ := hg
 refine z04 (z6B _ _) ?_
 unfold z4b
 have h := h.split5
 refine nw h ?_; clear h; (try clear w); intro b1 w h
 refine nw h ?_; clear h; (try clear w); intro b2 w h
 refine nw h ?_; clear h; (try clear w); intro b3 w h
 (refine ldC h ?_; refine nn ?_)
 refine z04 (z3n _) ?_
 unfold z1O
 refine nw h ?_; clear h; (try clear w); intro cc w h
 refine ⟨⟨.func z0r, #[], #[.pointer (some ⟨cc, 0, none⟩)]⟩, rfl, ?_⟩
 have h := fr3_ (fr5_ (fr7_ (fr1_ h)))
 have h := h.nil
 have h := fr4_ (fr4_ (fr4_ (fr4_ h)))
 have h : St w0 ([[Cl cc z09 [.pointer (some ⟨b, 2, none⟩)]], gtB b bf rA rL c G.room G.pat, sL] ++ ([Cl b3 z0a [SlV ⟨none, 0, 0⟩]] :: [] :: [Cl b2 z0g [I now]] :: [Cl b1 z15 [.pointer (some ⟨b, 0, none⟩)]] :: [Cl c z0g [I G.room]] :: sA :: (Q.map LnE.sg).flatten :: E)) w := h
 have enm : (Q.map LnE.kp).map (·.1) = G.lines.map (·.1) := by rw [hr.abs]; simp [List.map_map, Function.comp_def]
 have hn : (Q.map LnE.kp).length < 1000000000 := by
  have := congrArg List.length enm; have := ok.fl; simp only [List.length_map] at *; omega
 have hkeys : ssort ((Q.map LnE.kp).map (·.1)) = ssort (G.lines.map (·.1)) := by rw [enm]
 have hkm : ∀ k ∈ ssort ((Q.map LnE.kp).map (·.1)), k ∈ G.lines.map (·.1) := fun k hk => by rw [hkeys] at hk; exact zbi.1 hk
 have hgt : tickA now (ssort ((Q.map LnE.kp).map (·.1))) G [] = gTick G now := by rw [hkeys]; rfl
 refine z8M (zew (c := cc) (b := b) (bf := bf) (rA := rA) (cc := c) (room := G.room) (pat := G.pat) hr.lns hn) h
  (fun m F => ∃ (v : Sl) (sv sA' : Seg) (Q' : List LnE) (G' : AGate) (out : List Fate), F = [Cl b3 z0a [SlV v]] :: sv :: [Cl b2 z0g [I now]] :: [Cl b1 z15 [.pointer (some ⟨b, 0, none⟩)]] :: [Cl c z0g [I G.room]] :: sA' :: (Q'.map LnE.sg).flatten :: E ∧
   Q'.map LnE.kp = Q.map LnE.kp ∧ (∀ x ∈ Q', LnS x.b G.room x.l x.sg) ∧ G'.lines = Q'.map LnE.ka ∧ G'.Ok ∧ G'.room = G.room ∧ G'.pat = G.pat ∧ GWk G' ∧ MpS KI vReq rA G'.all sA' ∧ Rw Fate.cells z0w 4 v out sv ∧
   tickA now ((ssort ((Q.map LnE.kp).map (·.1))).drop m) G' out = gTick G now)
  (fun j G => False) ⟨_, _, sA, Q, G, [], rfl, rfl, hr.each, hr.abs, ok, rfl, rfl, hw, hr.all, Rw.nil, hgt⟩ ?_ ?_ ?_
 ·rintro m F X w lv lp d R hm ⟨v, sv, sA', Q', G', out, rfl, hkp, hQ', hln, ok', er, ep, hw', hA', hv, hT⟩ h hN hE
  have hx : (ssort ((Q.map LnE.kp).map (·.1)))[m]? = some (ssort ((Q.map LnE.kp).map (·.1)))[m] := List.getElem?_eq_getElem hm
  have hdr := List.drop_eq_getElem_cons hm
  have hmem := hkm _ (List.mem_of_getElem? hx)
  generalize (ssort ((Q.map LnE.kp).map (·.1)))[m] = key at hx hdr hmem
  rw [zc0 hx]
  rw [hdr] at hT
  have enm' : G'.lines.map (·.1) = G.lines.map (·.1) := by
   rw [hln, ← enm, ← hkp]; simp [List.map_map, Function.comp_def]
  rw [← enm', hln] at hmem
  have e1 := zag (Q := Q') (rev := key)
  have e2 := zah (Q := Q') (rev := key)
  cases hf : lfind LnE.k Q' key with
  | none => rw [hf] at e2; exact absurd hmem (z1H.1 e2)
  | some x =>
   rw [hf] at e1 e2
   simp only [Option.map_some] at e1 e2
   rw [hkp] at e1
   rw [e1]
   obtain ⟨A, B, e, hxk⟩ := z89 hf
   subst e
   rw [← hln] at e2
   have hlo : lineOf G'.lines key = x.l := by unfold lineOf; rw [e2]; rfl
   have hsm : (mget G'.lines key).isSome = true := by rw [e2]; rfl
   have hll := z4C ok' key
   rw [hlo] at hll
   have hhi := ok'.hi
   have h : St w0 ([Rec lv lp .busy none] :: [DfM d] :: [Cl cc z09 [.pointer (some ⟨b, 2, none⟩)]] :: gtB b bf rA rL c G.room G.pat :: sL :: [Cl b3 z0a [SlV v]] :: sv :: [Cl b2 z0g [I now]] :: [Cl b1 z15 [.pointer (some ⟨b, 0, none⟩)]] :: [Cl c z0g [I G.room]] :: sA' :: ((A ++ x :: B).map LnE.sg).flatten :: (E ++ X)) w := h
   (refine ldC h ?_)
   have h := z9H (fr7_ (z5u (fr7_ (fr7_ (fr8_ h)))))
   have h := h.pick
   refine zeG h 0 rfl (hQ' x (by simp)) (by omega) fun v13 s' s2 w hl' hr2 h => ?_
   have h : St w0 (s2 :: s' :: ((A ++ B).map LnE.sg).flatten :: gtB b bf rA rL c G.room G.pat :: sA' :: [Cl b3 z0a [SlV v]] :: sv :: [Cl b1 z15 [.pointer (some ⟨b, 0, none⟩)]] :: [Rec lv lp .busy none] :: [DfM d] :: [Cl cc z09 [.pointer (some ⟨b, 2, none⟩)]] :: sL :: [Cl b2 z0g [I now]] :: [Cl c z0g [I G.room]] :: (E ++ X)) w := h
   have h := fr7_ (fr7_ (fr7_ (fr7_ (fr7_ h))))
   obtain ⟨RR, hRR⟩ : ∃ RR, RR = s' :: ((A ++ B).map LnE.sg).flatten :: [Rec lv lp .busy none] :: [DfM d] :: [Cl cc z09 [.pointer (some ⟨b, 2, none⟩)]] :: sL :: [Cl b2 z0g [I now]] :: [Cl c z0g [I G.room]] :: (E ++ X) := ⟨_, rfl⟩
   rw [← hRR] at h
   have hge := z9Z (now := now) (ks := (ssort ((Q.map LnE.kp).map (·.1))).drop (m + 1)) (G := tick1 now key G') (out := out ++ lateF (lLate (lineOf G'.lines key) now))
   have hT : tickA now ((ssort ((Q.map LnE.kp).map (·.1))).drop (m + 1)) (tick1 now key G') (out ++ lateF (lLate (lineOf G'.lines key) now)) = gTick G now := hT
   rw [hT, List.length_append, z6T, hlo] at hge
   have hll2 := Rw.len encI hr2
   refine z2h (fun q y w => ∃ (j : Nat) (v : Sl) (sv sA' : Seg), y = ((j : Int), ()) ∧ q + j = (lLate x.l now).length ∧ MpS KI vReq rA (lateS key ((lLate x.l now).take j) G'.all) sA' ∧ Rw Fate.cells z0w 4 v (out ++ lateF ((lLate x.l now).take j)) sv ∧
    St w0 (gtB b bf rA rL c G.room G.pat :: sA' :: [Cl b3 z0a [SlV v]] :: sv :: [Cl b1 z15 [.pointer (some ⟨b, 0, none⟩)]] :: s2 :: RR) w) (lLate x.l now).length
    ⟨0, v, sv, sA', rfl, rfl, hA', by simpa [lateF] using hv, h⟩ ?_
   clear hA' hv
   clear h; (try clear w)
   rintro q y w ⟨j, v, sv, sA', rfl, hq, hA', hv, h⟩ again hag
   (try dsimp only)
   refine it (fun hb => ?_) (fun hb => ?_) <;> (try simp only [zB] at hb)
   ·have hj : j < (lLate x.l now).length := by omega
    have hxj : (lLate x.l now)[j]? = some (lLate x.l now)[j] := List.getElem?_eq_getElem hj
    generalize (lLate x.l now)[j] = id at hxj
    refine rd1 (Rw.rd encI h 5 rfl hr2) encI (lf := .int .i64) (fun x => x) (fun x => ⟨_, rfl, rfl⟩) (by omega) hb fun y' hy' => ?_
    simp only [Int.toNat_natCast, hxj, Option.some.injEq] at hy'
    subst hy'
    (refine dr h ?_; clear h; (try clear w); intro w h; refine ldC h ?_; refine ldC h ?_)
    refine zez h fun w h => ?_
    (refine ckC h ?_; refine ckC h ?_)
    refine zeA (f := (0, 4, 0, z4j, ())) hA' h fun sA2 w hA2 h => ?_
    (refine ckC h ?_)
    refine nw h ?_; clear h; (try clear w); intro b22 w h
    (refine ckC h ?_)
    refine Rw.app (l := out ++ lateF ((lLate x.l now).take j)) encF elF h 3 rfl hv (id, 4, 0, z4j, ()) rfl (by rw [List.length_append, z6T, List.length_take]; omega) (by rw [List.length_append, z6T, List.length_take]; omega) fun v' sv' w hv' h => ?_
    (dsimp only [setN, List.cons_append, List.nil_append] at h; refine stC h ?_; clear h; (try clear w); intro w h; dsimp only [putN, setN] at h)
    rw [wr (by omega) (by omega)]
    refine hag (q - 1) _ w (by omega) ⟨j + 1, v', sv', sA2, by simp, by omega, ?_, ?_, h⟩
    ·rw [zaP hxj]; exact hA2
    ·rw [zaQ hxj, ← List.append_assoc]; exact hv'
   ·have e : (lLate x.l now).take j = lLate x.l now := List.take_of_length_le (by omega)
    rw [e] at hA' hv
    subst hRR
    have h := dl5_ h
    have h := fr6_ (fr6_ h)
    have h : St w0 (LnE.sg ⟨x.k, x.b, lRest x.l now, s'⟩ :: ((A ++ B).map LnE.sg).flatten :: gtB b bf rA rL c G.room G.pat :: sA' :: [Cl b3 z0a [SlV v]] :: sv :: [Cl b1 z15 [.pointer (some ⟨b, 0, none⟩)]] :: [Rec lv lp .busy none] :: [DfM d] :: [Cl cc z09 [.pointer (some ⟨b, 2, none⟩)]] :: sL :: [Cl b2 z0g [I now]] :: [Cl c z0g [I G.room]] :: (E ++ X)) w := h
    have h := h.place
    have h := z9H (z9H (z9H (fr8_ (z9H (fr7_ (fr7_ (z9H (fr6_ (z9H (fr2_ h))))))))))
    have hnd : (((A ++ x :: B).map LnE.ka).map (·.1)).Nodup := by rw [← hln]; exact ok'.nd
    refine hN _ w ⟨v, sv, sA', A ++ (⟨x.k, x.b, lRest x.l now, s'⟩ : LnE) :: B, tick1 now key G', out ++ lateF (lLate (lineOf G'.lines key) now), rfl, ?_, ?_, ?_, ok'.tick1 hw' hsm now, er, ep, hw'.tick1 key now, ?_, ?_, hT⟩ h
    ·rw [← hkp]; simp
    ·intro y hy
     rcases List.mem_append.1 hy with hy | hy
     ·exact hQ' y (by simp [hy])
     ·rcases List.mem_cons.1 hy with rfl | hy
      ·exact hl'
      ·exact hQ' y (by simp [hy])
    ·show mset G'.lines key (lRest (lineOf G'.lines key) now) = _
     rw [hlo]
     exact (zbC (ls := G'.lines) (by rw [← hln, z8W e2]) hxk hnd).symm
    ·show MpS KI vReq rA (lateS key (lLate (lineOf G'.lines key) now) G'.all) sA'
     rw [hlo]; exact hA'
    ·rw [hlo]; exact hv
 ·rintro d F w ⟨v, sv, sA', Q', G', out, rfl, hkp, hQ', hln, ok', er, ep, hw', hA', hv, hT⟩ h
  have h : St w0 ([DfM d] :: [Cl cc z09 [.pointer (some ⟨b, 2, none⟩)]] :: gtB b bf rA rL c G.room G.pat :: sL :: [Cl b3 z0a [SlV v]] :: sv :: [Cl b2 z0g [I now]] :: [Cl b1 z15 [.pointer (some ⟨b, 0, none⟩)]] :: [Cl c z0g [I G.room]] :: sA' :: (Q'.map LnE.sg).flatten :: E) w := h
  rw [List.drop_of_length_le (Nat.le_refl _)] at hT
  have hT : (G', out) = gTick G now := hT
  rw [← hT] at hk ho
  refine jumpN ?_
  (refine ldC h ?_)
  refine zd2 h (Rw.rd encF h 5 rfl hv) (by simp only at ho; omega) (fun h0 => Rw.nil_of encF hv h0) fun v' sv' w hv' h => ?_
  (first | refine um0_ h ?_ | refine um1_ h ?_ | refine um2_ h ?_ | refine um3_ h ?_ | refine um4_ h ?_ | refine um5_ h ?_ | refine um6_ h ?_ | refine um7_ h ?_ | refine um8_ h ?_ | refine um9_ h ?_ | refine zbb h ?_ | refine zba h ?_); clear h; (try clear w); intro w h
  refine ⟨v', rfl, ?_⟩
  have h := fr6_ (z5u (z5u (fr4_ (z5u h))))
  rw [← er, ← ep] at h
  have h := dl6_ (dl6_ (dl6_ (dl6_ (dl6_ h))))
  obtain ⟨sg, hg, h⟩ := z8c ok' (Q := Q') ⟨hA', by rw [hkp]; exact hr.lns, fun x hx => by rw [er]; exact hQ' x hx, hln⟩ h
  have h := fr1_ h
  exact hk v' sv' sg w hv' hg h
 ·rintro d j F w hf; exact hf.elim
instance : DecidableEq Tgt := inferInstanceAs (DecidableEq (ByteArray × ByteArray × Int × Unit))
instance : DecidableEq ARt := fun a b => decidable_of_iff (a.name = b.name ∧ a.cfg = b.cfg ∧ a.ts = b.ts ∧ a.roll = b.roll) ⟨fun ⟨h1, h2, h3, h4⟩ => by cases a; cases b; simp_all, fun h => by subst h; exact ⟨rfl, rfl, rfl, rfl⟩⟩
def AShelf.Few (a : AShelf) : Prop := ∀ x ∈ a.r, x.2.r.ts.length ≤ 6
end Go.Proofs.YtkmalcoocklikaaGreatDoor
namespace Go.Proofs.YtkmalcoocklikaaGreatDoor
open Go.Dm
variable {w0 w : World} {E : List Seg}
def gc (l : List Int) (n : Int) (r : List Value) : List Value := l.map I ++ I n :: r
theorem gc_n {l : List Int} {n : Int} {r : List Value} (hl : l.length = 60) : nth (gc l n r) 60 = some (I n) := by
 have := z1B (A := l.map I) (B := I n :: r) (i := 0)
 rw [List.length_map, hl] at this; exact this
theorem gc_r {l : List Int} {n : Int} {r : List Value} (hl : l.length = 60) (j : Nat) : nth (gc l n r) (61 + j) = nth r j := by
 have := z1B (A := l.map I) (B := I n :: r) (i := 1 + j)
 rw [List.length_map, hl] at this
 have e : 61 + j = 60 + (1 + j) := by omega
 rw [e]
 refine Eq.trans this ?_
 rw [Nat.add_comm 1 j]; rfl
theorem gc_l {l : List Int} {n : Int} {r : List Value} {j : Nat} {x : Int} (hj : l[j]? = some x) : nth (gc l n r) j = some (I x) := by
 rw [gc, z2w (by have := (List.getElem?_eq_some_iff.1 hj).1; simpa using this), z06, List.getElem?_map, hj]; rfl
theorem zcQ {l : List Int} {n : Int} {r : List Value} {j : Nat} {x : Int} (hj : j < l.length) : setN (gc l n r) j (I x) = gc (l.set j x) n r := by
 rw [z1a, gc, gc, List.set_append_left _ _ (by simpa using hj), List.map_set]
theorem zcP {l : List Int} {n m : Int} {r : List Value} (hl : l.length = 60) : setN (gc l n r) 60 (I m) = gc l m r := by
 rw [z1a, gc, gc, List.set_append_right _ _ (by simp [hl])]
 simp [hl]
theorem zak {l : List Int} {n : Int} {r : List Value} {v : Value} (hl : l.length = 60) (j : Nat) : setN (gc l n r) (61 + j) v = gc l n (setN r j v) := by
 rw [z1a, gc, gc, z1a, List.set_append_right _ _ (by simp [hl]; omega)]
 have e : 61 + j - (List.map I l).length = j + 1 := by simp [hl]; omega
 rw [e]; rfl
theorem zaZ (h : St w0 E w) (i : Nat) {b T : Nat} {l : List Int} {n : Int} {r : List Value} {x : Int} (hi : nth E i = some [Cl b T (gc l n r)]) (hl : l.length = 60) (h0 : 0 ≤ n) (hn : n < 4611686018427387904) {k : Unit → PT}
  (hk : ∀ w', St w0 (setN E i [Cl b T (gc (l.set (n.toNat % 60) x) (n + 1) r)]) w' → k () w') : L.call Pr z1U [.pointer (some ⟨b, 0, none⟩), I x] (.tup []) k w := by
 refine z04 (z4O _ _) ?_
 unfold z2P
 refine dr h fun w h => nn ?_
 refine ld h i hi (x := n) (gc_n hl) (gd (by omega) (nn ?_))
 have em : Int.tmod n 60 = ((n.toNat % 60 : Nat) : Int) := by rw [Int.tmod_eq_emod]; simp [h0]; omega
 have hlt : n.toNat % 60 < 60 := Nat.mod_lt _ (by omega)
 refine ix (by rw [em]; omega) (by rw [em]; omega) ?_
 rw [em, Int.toNat_natCast, Nat.mul_one, z2i, z1u, Nat.zero_add]
 refine st1 h i hi (gc_l (List.getElem?_eq_getElem (by omega))) rfl fun w h => ?_
 have hi2 : nth (setN E i [Cl b T (setN (gc l n r) (n.toNat % 60) (I x))]) i = some [Cl b T (gc (l.set (n.toNat % 60) x) n r)] := by
  rw [zcQ (by omega)]; exact z5r hi
 refine nn (ld h i hi2 (x := n) (gc_n (by simpa using hl)) (nn ?_))
 rw [wr (by omega) (by omega)]
 refine st1 h i hi2 (gc_n (by simpa using hl)) rfl fun w h => ⟨(), rfl, hk w ?_⟩
 rw [zcP (by simpa using hl), z4i] at h
 exact h
def tz (xs : List Int) : Nat := (xs.reverse.takeWhile (· == 0)).length
structure GOk (l : List Int) (n d : Int) (xs : List Int) : Prop where
 len : l.length = 60
 n : n = xs.length
 pos : ∀ k, k < xs.length → xs.length ≤ k + 60 → l[k % 60]? = xs[k]?
 idle : d = tz xs
def GauS (b : Nat) (xs : List Int) (s : Seg) : Prop := ∃ l n d, GOk l n d xs ∧ s = [Cl b z2W (gc l n [I d])]
theorem zdp (xs : List Int) (x : Int) : tz (xs ++ [x]) = if x = 0 then tz xs + 1 else 0 := by
 unfold tz
 rw [List.reverse_append]
 by_cases h : x = 0
 ·subst h; simp
 ·simp [h]
theorem zeL (xs : List Int) : tz xs ≤ xs.length := by
 unfold tz
 have := (List.takeWhile_sublist (l := xs.reverse) (fun x => x == 0)).length_le
 simpa using this
theorem GOk.add {l : List Int} {n d : Int} {xs : List Int} (g : GOk l n d xs) (x : Int) : GOk (l.set (n.toNat % 60) x) (n + 1) (if x = 0 then d + 1 else 0) (xs ++ [x]) := by
 have hn : n.toNat = xs.length := by rw [g.n]; simp
 refine ⟨by simpa using g.len, by rw [g.n]; simp, fun k hk hk2 => ?_, ?_⟩
 ·simp only [List.length_append, List.length_cons, List.length_nil] at hk hk2
  rw [hn, List.getElem?_set]
  by_cases e : k = xs.length
  ·subst e
   rw [if_pos rfl, if_pos (by rw [g.len]; omega)]
   simp
  ·rw [if_neg (by omega), g.pos k (by omega) (by omega), List.getElem?_append_left (by omega)]
 ·rw [zdp, g.idle]; split <;> simp
theorem zdT (h : St w0 E w) (i : Nat) {b : Nat} {xs : List Int} {s : Seg} (hi : nth E i = some s) (hg : GauS b xs s) (hn : xs.length < 2305843009213693952) {x : Int} {k : Unit → PT}
  (hk : ∀ s' w', GauS b (xs ++ [if 0 > x then 0 else x]) s' → St w0 (setN E i s') w' → k () w') : L.call Pr z2x [.pointer (some ⟨b, 0, none⟩), I x] (.tup []) k w := by
 obtain ⟨l, n, d, g, rfl⟩ := hg
 have hl := g.len
 have hn1 := g.n
 have hd := g.idle
 have hz := zeL xs
 refine z04 (z69 _ _) ?_
 unfold z3K
 generalize hy : (if 0 > x then 0 else x) = y at *
 have hy0 : 0 ≤ y := by rw [← hy]; split <;> omega
 have hl2 : (l.set (n.toNat % 60) y).length = 60 := by simpa using hl
 refine nn (zaZ h i hi hl (by omega) (by omega) fun w h => ?_)
 have hi2 := z5r (y := [Cl b z2W (gc (l.set (n.toNat % 60) y) (n + 1) [I d])]) hi
 refine nn (ld h i hi2 (x := d) (gc_r hl2 0) (nn ?_))
 rw [wr (by omega) (by omega)]
 refine st1 h i hi2 (gc_r hl2 0) rfl fun w h => ?_
 have e1 : setN (gc (l.set (n.toNat % 60) y) (n + 1) [I d]) 61 (I (d + 1)) = gc (l.set (n.toNat % 60) y) (n + 1) [I (d + 1)] := zak hl2 0
 simp only [z4i] at h
 have h : St w0 (setN E i [Cl b z2W (gc (l.set (n.toNat % 60) y) (n + 1) [I (d + 1)])]) w := by rw [← e1]; exact h
 have ga := g.add y
 refine it (fun hb => ?_) (fun hb => ?_)
 ·simp only [decide_eq_true_eq] at hb
  have hi3 := z5r (y := [Cl b z2W (gc (l.set (n.toNat % 60) y) (n + 1) [I (d + 1)])]) hi
  refine nn (st1 h i hi3 (gc_r hl2 0) rfl fun w h => ⟨(), rfl, hk _ w ⟨_, _, _, ga, rfl⟩ ?_⟩)
  have e1 : setN (gc (l.set (n.toNat % 60) y) (n + 1) [I (d + 1)]) 61 (I 0) = gc (l.set (n.toNat % 60) y) (n + 1) [I 0] := zak hl2 0
  simp only [z4i] at h
  rw [if_neg (by omega), ← e1]; exact h
 ·simp only [decide_eq_false_iff_not] at hb
  have : y = 0 := by omega
  refine ⟨(), rfl, hk _ w ⟨_, _, _, ga, rfl⟩ ?_⟩
  rw [if_pos this]; exact h
theorem GOk.back {l : List Int} {n d : Int} {xs : List Int} (g : GOk l n d xs) {m : Nat} (hm : (m : Int) < min 60 n) {x : Int} (hx : l[(n - (m + 1)).toNat % 60]? = some x) : xs.reverse[m]? = some x := by
 have hn := g.n
 have e : (n - (m + 1)).toNat = xs.length - 1 - m := by omega
 rw [e, g.pos _ (by omega) (by omega)] at hx
 rw [List.getElem?_reverse (by omega)]; exact hx
end Go.Proofs.YtkmalcoocklikaaGreatDoor
namespace Go.Proofs.YtkmalcoocklikaaGreatDoor
open Go.Dm
attribute [local irreducible] L.load L.store L.chk L.new L.nonnil L.guard L.ite L.draw L.idx L.sem L.semR L.semU L.chkSem L.next L.call L.callV L.join L.alts L.loop L.begin L.endRound L.range
variable {w0 w : World} {E : List Seg}
structure ABes where
 xs : List Int
 want : Int
 left : Int
structure ASys where
 sh : AShelf
 bk : ABook
 ro : ARoll
 fl : AFleet
 gt : AGate
 by' : List (ByteArray × ABes)
 now : Int
structure BsE where
 k : ByteArray
 b : Nat
 g : Nat
 x : ABes
 sgg : Seg
abbrev BsE.cell (x : BsE) : Seg := [Cl x.b z78 [.pointer (some ⟨x.g, 0, none⟩), I x.x.want, I x.x.left]]
abbrev BsE.sg (x : BsE) : Seg := x.cell ++ x.sgg
abbrev BsE.kp (x : BsE) : ByteArray × Option Addr := (x.k, some ⟨x.b, 0, none⟩)
abbrev BsE.ka (x : BsE) : ByteArray × ABes := (x.k, x.x)
def BsE.ok (x : BsE) : Prop := GauS x.g x.x.xs x.sgg
structure Bls where
 s : Nat
 k : Nat
 r : Nat
 f : Nat
 g : Nat
 m : Nat
abbrev sysC (b : Nat) (p : Bls) (now : Int) : Seg := [Cl b z4r [.pointer (some ⟨p.s, 0, none⟩), .pointer (some ⟨p.k, 0, none⟩), .pointer (some ⟨p.r, 0, none⟩), .pointer (some ⟨p.f, 0, none⟩), .pointer (some ⟨p.g, 0, none⟩), .map (some p.m), I now]]
structure SysR (a : ASys) (p : Bls) (sg sf ss sk sr sm : Seg) (Q : List BsE) : Prop where
 gt : GtS p.g p.f a.gt sg
 fl : FlS p.f a.fl sf
 sh : ShS p.s a.sh ss
 bk : BkS p.k a.bk sk
 ro : RolS p.r a.ro sr
 mp : MpS Value.string Value.pointer p.m (Q.map BsE.kp) sm
 ea : ∀ x ∈ Q, x.ok
 ab : a.by' = Q.map BsE.ka
abbrev sys8 (b : Nat) (a : ASys) (p : Bls) (sg sf ss sk sr sm : Seg) (Q : List BsE) : Seg := sysC b p a.now ++ (sg ++ (sf ++ (ss ++ (sk ++ (sr ++ (sm ++ (Q.map BsE.sg).flatten))))))
def SysS (b : Nat) (a : ASys) (s : Seg) : Prop := ∃ (p : Bls) (sg sf ss sk sr sm : Seg) (Q : List BsE), SysR a p sg sf ss sk sr sm Q ∧ s = sys8 b a p sg sf ss sk sr sm Q
theorem _root_.Go.Dm.St.split8 {a b c d e f g i : Seg} (h : St w0 ((a ++ (b ++ (c ++ (d ++ (e ++ (f ++ (g ++ i))))))) :: E) w) : St w0 (a :: b :: c :: d :: e :: f :: g :: i :: E) w := h.eq (by simp)
theorem _root_.Go.Dm.St.glue8 {a b c d e f g i : Seg} (h : St w0 (a :: b :: c :: d :: e :: f :: g :: i :: E) w) : St w0 ((a ++ (b ++ (c ++ (d ++ (e ++ (f ++ (g ++ i))))))) :: E) w := h.eq (by simp)
theorem sysBack {sv a b c d e f g j s : Seg} (i : Nat) (hi : nth E i = some s) (h : St w0 (sv :: a :: b :: c :: d :: e :: f :: g :: j :: delN E i) w) : St w0 (sv :: setN E i (a ++ (b ++ (c ++ (d ++ (e ++ (f ++ (g ++ j)))))))) w := by
 have h := fr8_ (fr8_ (fr8_ (fr8_ (fr8_ (fr8_ (fr8_ (fr8_ h)))))))
 have h := h.glue8
 exact St.back (E := sv :: E) (i + 1) hi h
theorem zd4 : Pr.underlying z0t = some (.map z05 z1M) := by kernel_rfl
abbrev slK (k : Sl → PT) : Value → PT := fun v w' => ∃ x, v = RT.val (.one (.one .slice)) x ∧ k x w'
abbrev Hk (w0 : World) (E : List Seg) (i b : Nat) (r : ASys × List ByteArray) (k : Sl → PT) : Prop := ∀ v sv s' w', Rw eS z05 1 v r.2 sv → SysS b r.1 s' → St w0 (sv :: setN E i s') w' → k v w'
structure TabB (t : ATab) : Prop where
 sh : ∀ s ∈ t.sh, (0 ≤ @id Int s.2.1 ∧ @id Int s.2.1 ≤ 1000) ∧ s.1.size ≤ 1000
 tg : ∀ s ∈ t.tg, s.1.size ≤ 1000 ∧ s.2.1.size ≤ 1000
 txt : (tabText t).size ≤ 100000000
theorem zao {rev : ByteArray} {y : ABes} {sgg : Seg} {x : BsE} (hk : x.k = rev) {B : List BsE} : ∀ {A : List BsE}, ((A ++ x :: B).map BsE.k).Nodup → (A ++ ⟨x.k, x.b, x.g, y, sgg⟩ :: B).map BsE.ka = mset ((A ++ x :: B).map BsE.ka) rev y
 | [], _ => by
  subst hk
  simp [mset]
 | a :: A, hn => by
  have hn2 := hn
  rw [List.cons_append, List.map_cons, List.nodup_cons] at hn2
  have hne : ¬ a.k = rev := fun e => hn2.1 (by rw [e, ← hk]; simp)
  have ih := zao hk (A := A) (y := y) (sgg := sgg) hn2.2
  rw [List.cons_append, List.map_cons, List.cons_append, List.map_cons, ih]
  simp only [mset]
  rw [if_neg hne]
theorem zptr (w : World) : (zeroValue z1M).run Pr w = .ok ((E1.one .ptr).val (none : Option Addr)) w := by
 have h : (Pr.info? z1M).map (·.zero) = some (some (.pointer none)) := by kernel_rfl
 cases hi : Pr.info? z1M with
 | none => rw [hi] at h; cases h
 | some i => rw [hi] at h; simp only [Option.map_some, Option.some.injEq] at h; exact zv hi h w
theorem zap {Q : List BsE} {rev : ByteArray} : mget (Q.map BsE.kp) rev = (lfind BsE.k Q rev).map fun x => some ⟨x.b, 0, none⟩ := z4n (key := BsE.k) (fun x : BsE => (some ⟨x.b, 0, none⟩ : Option Addr)) rev Q
theorem zaq {Q : List BsE} {rev : ByteArray} : mget (Q.map BsE.ka) rev = (lfind BsE.k Q rev).map BsE.x := z4n (key := BsE.k) BsE.x rev Q
def busyB (G : AGate) (rev : ByteArray) : Int := ((gWait G rev).length : Int) + (gWith G.all rev).length
def tkStep (G : AGate) (m : List (ByteArray × ABes)) (rev : ByteArray) : List (ByteArray × ABes) := match mget m rev with
 | some x => mset m rev ⟨x.xs ++ [if 0 > busyB G rev then 0 else busyB G rev], x.want, x.left⟩
 | none => m
abbrev tkG (a : ASys) : AGate × List Fate := gTick a.gt (a.now + 1)
def sysTick (a : ASys) : ASys × List ByteArray :=
 if a.now ≥ 1048576 then (a, refusedB 9)
 else ({ a with gt := (tkG a).1, now := a.now + 1, by' := (bkAll a.bk).foldl (tkStep (tkG a).1) a.by' }, lineB zbq [decD (a.now + 1).toNat] :: (tkG a).2.map fateB)
abbrev eEw (e : AEv) : List Value := [I e.kind, .string e.name, .string e.tag, I e.n, I e.draw, .string e.c.1, I e.c.2.1, I e.c.2.2.1, I e.c.2.2.2.1, I e.c.2.2.2.2.1, I e.c.2.2.2.2.2.1, .string e.r.name, .string e.r.cfg, SlV e.v, I e.r.roll]
theorem zc2 [bTab w0] (h : St w0 E w) (i : Nat) {b : Nat} {a : ASys} {s : Seg} (hi : nth E i = some s) (hs : SysS b a s) {e : AEv} (hnow : 0 ≤ a.now) (hwk : GWk a.gt) (hfl : (tkG a).2.length < 90000000) (hf : ∀ f ∈ (tkG a).2, f.Ok)
  (hby : ∀ rev ∈ bkAll a.bk, (mget a.by' rev).isSome = true) (hxs : ∀ x ∈ a.by', x.2.xs.length < 1000000000) (hfb : a.bk.all.length < 1000000) {k : Sl → PT} (hk : Hk w0 E i b (sysTick a) k) : z1V (some ⟨b, 0, none⟩) e.t (slK k) w := by
 have hs0 := hs
 obtain ⟨p, sg, sf, ss, sk, sr, sm, Q, R, rfl⟩ := hs
 unfold z1V
 unfold sysTick tkG at hk
 unfold tkG at hfl hf
 have h := (h.front i hi).split8
 refine nw h ?_; clear h; (try clear w); intro b1 w h
 (dsimp only [setN, List.cons_append, List.nil_append] at h; refine nn ?_; refine ldC h ?_)
 refine it (fun hc => ?_) (fun hc => ?_) <;> (try simp only [zB] at hc)
 ·rw [if_pos hc] at hk
  refine zc5 h fun v s w r h => ?_
  exact ⟨v, rfl, hk v s _ w r hs0 (sysBack i hi (dl1_ h))⟩
 rw [if_neg hc] at hk
 (refine nn ?_; refine ldC h ?_; refine nn ?_; refine stC h ?_; clear h; (try clear w); intro w h; dsimp only [putN, setN] at h; refine dr h ?_; clear h; (try clear w); intro w h; refine nn ?_; refine ldC h ?_; refine nn ?_; refine ldC h ?_)
 rw [wr (by omega) (by omega)] at h ⊢
 have h := fr2_ h
 refine zdU h R.gt hwk hfl fun v sv sg' w hr hG h => ?_
 generalize gTick a.gt (a.now + 1) = g at *
 refine z04 (z1X _) ?_
 unfold z16
 (refine nn ?_; refine ldC h ?_)
 refine zcd h 6 rfl R.bk fun v2 s2 w r2 h => ⟨v2, rfl, ?_⟩
 have hnl : (bkAll a.bk).length < 1000000 := by unfold bkAll; rw [z5m, List.length_map]; exact hfb
 generalize bkAll a.bk = l at *
 have hln := Rw.len encS r2
 let EV : Seg := [Cl b1 z2z (eEw e)]
 refine z2h (fun m y w => ∃ (j : Nat) (sg2 : Seg) (Q2 : List BsE), @Eq Int y.1 j ∧ m + j = l.length ∧ GtS p.g p.f g.1 sg2 ∧ Q2.map BsE.kp = Q.map BsE.kp ∧ (∀ x ∈ Q2, x.ok) ∧ Q2.map BsE.ka = (l.take j).foldl (tkStep g.1) a.by' ∧ (∀ x ∈ Q2, x.x.xs.length < 1000000000 + j) ∧
  St w0 (s2 :: sv :: sg2 :: EV :: sysC b p (a.now + 1) :: sf :: ss :: sk :: sr :: sm :: (Q2.map BsE.sg).flatten :: delN E i) w) l.length ⟨0, sg', Q, rfl, rfl, hG, rfl, R.ea, R.ab.symm, fun x hx => by have := hxs _ (by rw [R.ab]; exact List.mem_map_of_mem hx); simpa using this, h⟩ ?_
 clear h; (try clear w)
 rintro m ⟨y, ⟨⟩⟩ w ⟨j, sg2, Q2, hy, hm, hG2, ekp, ok2, eka, hx2, h⟩ again hag
 (try dsimp only)
 simp only at hy
 subst hy
 refine it (fun hb => ?_) (fun hb => ?_) <;> (try simp only [zB] at hb)
 ·have hj : j < l.length := by omega
  have hx : l[j]? = some l[j] := List.getElem?_eq_getElem hj
  have hin : (mget (Q2.map BsE.ka) l[j]).isSome = true := by
   have h1 := hby l[j] (List.getElem_mem hj)
   rw [R.ab, zaq, Option.isSome_map] at h1
   have h2 : (mget (Q2.map BsE.kp) l[j]).isSome = true := by rw [ekp, zap, Option.isSome_map]; exact h1
   rw [zap, Option.isSome_map] at h2
   rw [zaq, Option.isSome_map]; exact h2
  have et : (l.take (j + 1)).foldl (tkStep g.1) a.by' = tkStep g.1 (Q2.map BsE.ka) l[j] := by rw [eka, List.take_succ, hx, List.foldl_append]; rfl
  generalize l[j] = rev at *
  have hm2 : MpS Value.string Value.pointer p.m (Q2.map BsE.kp) sm := by rw [ekp]; exact R.mp
  rw [zaq, Option.isSome_map] at hin
  obtain ⟨x, hfx⟩ := Option.isSome_iff_exists.1 hin
  have hmk := hm2.nd
  refine Rw.ix encS r2 (by omega) (by simpa using hj) fun ea ha => ?_
  refine Rw.ld0 encS h 0 rfl r2 ha (x := rev) (by simpa using hx) rfl rfl ?_
  (refine dr h ?_; clear h; (try clear w); intro w h; refine nn ?_; refine ldC h ?_)
  have hlk : ((mget (Q2.map BsE.kp) rev).map fun x : Option Addr => x).getD none = some ⟨x.b, 0, none⟩ := by rw [zap, hfx]; rfl
  refine MpS.get mkStr zd4 zptr (fun x : Option Addr => x) (fun _ => rfl) h 9 rfl hm2 ?_
  rw [hlk]
  obtain ⟨A, B, rfl, hxk⟩ := z89 hfx
  have h := z5u h
  have h := h.pick.split
  (refine nn ?_; refine ldC h ?_; refine nn ?_; refine ldC h ?_)
  have h := fr5_ h
  refine zdV h hG2 fun sg3 w hG3 h => ?_
  (refine ckC h ?_)
  refine MpS.chk mkStr zd4 (z := .pointer none) zptr h 12 rfl hm2 (by rw [zap, hfx]; rfl) ?_
  (refine ckC h ?_)
  have hox := ok2 x (by simp)
  have hlx := hx2 x (by simp)
  refine zdT h 2 rfl hox (by omega) fun sgg w hga h => ?_
  dsimp only [setN] at h
  have hbu : ((gWait g.1 rev).length : Int) + (gWith g.1.all rev).length = busyB g.1 rev := rfl
  rw [hbu] at hga
  have h := fr2_ (fr2_ h)
  have h := h.glue
  have h := fr1_ (fr2_ h)
  have h : St w0 (BsE.sg ⟨x.k, x.b, x.g, ⟨x.x.xs ++ [if 0 > busyB g.1 rev then 0 else busyB g.1 rev], x.x.want, x.x.left⟩, sgg⟩ :: ((A ++ B).map BsE.sg).flatten :: sg3 :: s2 :: sv :: EV :: sysC b p (a.now + 1) :: sf :: ss :: sk :: sr :: sm :: delN E i) w := h
  have h := h.place
  have et2 := zao (rev := rev) (y := ⟨x.x.xs ++ [if 0 > busyB g.1 rev then 0 else busyB g.1 rev], x.x.want, x.x.left⟩) (sgg := sgg) hxk (B := B) (A := A) (by simpa [List.map_map, Function.comp_def] using hmk)
  refine hag (m - 1) _ w (by omega) ⟨j + 1, sg3, A ++ ⟨x.k, x.b, x.g, ⟨x.x.xs ++ [if 0 > busyB g.1 rev then 0 else busyB g.1 rev], x.x.want, x.x.left⟩, sgg⟩ :: B, ?_, by omega, hG3, ?_, ?_, ?_, ?_, ?_⟩
  ·show IntKind.wrap .i64 _ = _
   rw [wr (by omega) (by omega)]; omega
  ·rw [← ekp]; simp
  ·intro y hy
   rcases List.mem_append.1 hy with hy | hy
   ·exact ok2 y (by simp [hy])
   ·rcases List.mem_cons.1 hy with rfl | hy
    ·exact hga
    ·exact ok2 y (by simp [hy])
  ·rw [et, et2]
   unfold tkStep
   rw [zaq, hfx]
   rfl
  ·intro y hy
   rcases List.mem_append.1 hy with hy | hy
   ·have := hx2 y (by simp [hy]); omega
   ·rcases List.mem_cons.1 hy with rfl | hy
    ·simp; omega
    ·have := hx2 y (by simp [hy]); omega
  ·have h := z5u (z5u (fr8_ (z5u (z5u (z5u (z5u (z5u (z5u (z5u h)))))))))
   exact h
 ·have ej : l.take j = l := List.take_of_length_le (by omega)
  rw [ej] at eka
  (refine nn ?_; refine ldC h ?_)
  refine nw h ?_; clear h; (try clear w); intro b29 w h
  refine lineI1 h (by decide) (by omega) (by omega) fun w h => ?_
  refine nw h ?_; clear h; (try clear w); intro b31 w h
  have h := fr1_ (fr2_ h)
  refine zey h (l := [lineB zbq [decD (a.now + 1).toNat]]) hr hf (by omega) (by simp) (Rw.lit b31 [_] encS rfl rfl (by simp [maxLen])) fun v s w r h => ?_
  refine ⟨v, rfl, hk v s _ w r ⟨p, sg2, sf, ss, sk, sr, sm, Q2, ⟨hG2, R.fl, R.sh, R.bk, R.ro, by rw [ekp]; exact R.mp, ok2, eka.symm⟩, rfl⟩ (sysBack i hi ?_)⟩
  have h := dl1_ (dl2_ (dl4_ h))
  have h := fr2_ (fr2_ (fr1_ h))
  exact h
end Go.Proofs.YtkmalcoocklikaaGreatDoor
namespace Go.Proofs.YtkmalcoocklikaaGreatDoor
open Go.Dm
theorem zeN {P : Program} {r : RT} {s : Sem Value} {k : r.T → PT} {w : World} (x : r.T) (h : s.run P w = .ok (r.val x) w) (hk : k x w) : L.semR P r s k w := ⟨x, h, hk⟩
theorem zaV {P : Program} {fv : Value} {args : List Value} {r : RT} {k k' : r.T → PT} {w : World} (h : L.callV P fv args r k w) (hm : ∀ x w, k x w → k' x w) : L.callV P fv args r k' w := FCall.mono h fun _ _ ⟨x, e, hk⟩ => ⟨x, e, hm x _ hk⟩
attribute [local irreducible] L.load L.store L.chk L.new L.nonnil L.guard L.ite L.draw L.idx L.sem L.semR L.semU L.chkSem L.next L.call L.callV L.join L.alts L.loop L.begin L.endRound L.range
variable {w0 w : World} {E : List Seg}
def mV (b : Nat) (f : FuncId) : Value := .func (.func f) #[.pointer (some ⟨b, 0, none⟩)] #[]
def doM : List (Int × FuncId) := [(1, z1o), (2, z1E), (3, z1R), (4, z1p), (5, z1S), (6, z2b), (7, z0F), (8, z0F), (9, z0E), (10, z1C), (11, z1Q), (12, z1D), (13, z1P)]
theorem z3p : Pr.underlying z00 = some (.map z0g z0O) := by kernel_rfl
theorem zfun (w : World) : (zeroValue z0O).run Pr w = .ok .nilFunc w := by
 have h : (Pr.info? z0O).map (·.zero) = some (some .nilFunc) := by kernel_rfl
 cases hi : Pr.info? z0O with
 | none => rw [hi] at h; cases h
 | some i => rw [hi] at h; simp only [Option.map_some, Option.some.injEq] at h; exact zv hi h w
theorem zdX (h : St w0 E w) {b : Nat} {e : AEv} (hb : chkEv e ≠ 0) (hn : e.kind = 12 ∨ e.kind = 13 → RevN e.name) (rd : RdE w0 E eT e.v e.r.ts) (hvc : e.v.len ≤ e.v.cap) (hrv : ∀ t ∈ e.r.ts, revOk t.1) {k : Sl → PT}
  (hk : ∀ v sv w', Rw eS z05 1 v [lineB zds [errB (chkEv e)]] sv → St w0 (sv :: E) w' → k v w') : L.call Pr z0C [.pointer (some ⟨b, 0, none⟩), evV e] (.one (.one .slice)) k w := by
 refine z04 (z3v _ e.t) ?_
 unfold z2k
 refine nw h ?_; clear h; (try clear w); intro b1 w h
 (dsimp only [setN, List.cons_append, List.nil_append] at h; refine laC h ?_)
 refine z9g (e := e) h hn (fun w h => rd w (dl0_ h)) hvc hrv fun w h => ?_
 refine itT (by simpa using hb) ?_
 refine zcb ?_
 refine nw h ?_; clear h; (try clear w); intro b5 w h
 have := zbM (chkEv e)
 refine lineS1 h (by decide) (by omega) fun w h => ?_
 refine nw h ?_; clear h; (try clear w); intro b7 w h
 exact ⟨_, rfl, hk _ _ w (Rw.lit b7 [_] encS rfl rfl (by simp [maxLen])) (dl1_ h)⟩
theorem S_do (h : St w0 E w) {b : Nat} {e : AEv} (hb : chkEv e = 0) (hn : e.kind = 12 ∨ e.kind = 13 → RevN e.name) (rd : RdE w0 E eT e.v e.r.ts) (hvc : e.v.len ≤ e.v.cap) (hrv : ∀ t ∈ e.r.ts, revOk t.1) {f : FuncId} (hf : mget doM e.kind = some f) {k : Sl → PT}
  (hh : ∀ (s1 s2 : Seg) w', St w0 (s1 :: s2 :: E) w' → L.callV Pr (.func (.func f) #[.pointer (some ⟨b, 0, none⟩)] #[]) [evV e] (.one (.one .slice)) k w') : L.call Pr z0C [.pointer (some ⟨b, 0, none⟩), evV e] (.one (.one .slice)) k w := by
 refine z04 (z3v _ e.t) ?_
 unfold z2k
 refine nw h ?_; clear h; (try clear w); intro b1 w h
 (dsimp only [setN, List.cons_append, List.nil_append] at h; refine laC h ?_)
 refine z9g (e := e) h hn (fun w h => rd w (dl0_ h)) hvc hrv fun w h => ?_
 refine itF (by simpa using hb) ?_
 refine MpS.new h KI (mV b) fun r s w hm h => ?_
 refine MpS.set mkI z3p h 0 rfl hm z1o rfl fun s w hm h => ?_
 refine MpS.set mkI z3p h 0 rfl hm z1E rfl fun s w hm h => ?_
 refine MpS.set mkI z3p h 0 rfl hm z1R rfl fun s w hm h => ?_
 refine MpS.set mkI z3p h 0 rfl hm z1p rfl fun s w hm h => ?_
 refine MpS.set mkI z3p h 0 rfl hm z1S rfl fun s w hm h => ?_
 refine MpS.set mkI z3p h 0 rfl hm z2b rfl fun s w hm h => ?_
 refine MpS.set mkI z3p h 0 rfl hm z0F rfl fun s w hm h => ?_
 refine MpS.set mkI z3p h 0 rfl hm z0F rfl fun s w hm h => ?_
 refine MpS.set mkI z3p h 0 rfl hm z0E rfl fun s w hm h => ?_
 refine MpS.set mkI z3p h 0 rfl hm z1C rfl fun s w hm h => ?_
 refine MpS.set mkI z3p h 0 rfl hm z1Q rfl fun s w hm h => ?_
 refine MpS.set mkI z3p h 0 rfl hm z1D rfl fun s w hm h => ?_
 refine MpS.set mkI z3p h 0 rfl hm z1P rfl fun s w hm h => ?_
 have hm : MpS KI (mV b) r doM s := hm
 dsimp only [setN] at h
 (refine ldC h ?_)
 refine zeN ⟨.func f, #[.pointer (some ⟨b, 0, none⟩)], #[]⟩ ?_ ?_
 ·rw [MpS.get_run mkI z3p (zfun w) h 0 rfl hm false, hf]; rfl
 (refine laC h ?_)
 exact zaV (hh s _ w h) fun x w hk => ⟨x, rfl, hk⟩
theorem zeO (h : St w0 E w) (i : Nat) {b : Nat} {a : ASys} {s : Seg} (hi : nth E i = some s) (hs : SysS b a s) {e : AEv} (hb : chkEv e = 0) (hn : e.kind = 12 ∨ e.kind = 13 → RevN e.name) (rd : RdE w0 E eT e.v e.r.ts) (hvc : e.v.len ≤ e.v.cap) (hrv : ∀ t ∈ e.r.ts, revOk t.1)
  {f : FuncId} (hf : mget doM e.kind = some f) {r : ASys × List ByteArray} {F : (Value → PT) → PT} (hE : Enters Pr f) (hC : ∀ {K : Value → PT} {w : World}, F K w → Calls Pr f (#[.pointer (some ⟨b, 0, none⟩)] ++ [evV e].toArray ++ #[]) w fun e w' => ∃ v, e = .returned v ∧ K v w')
  (hh : ∀ {E2 : List Seg} {i2 : Nat} {w : World} {k : Sl → PT}, St w0 E2 w → nth E2 i2 = some s → (∀ w, St w0 (delN E2 i2) w → St w0 (delN E i) w) → Hk w0 E2 i2 b r k → F (slK k) w) {k : Sl → PT} (hk : Hk w0 E i b r k) :
  L.call Pr z0C [.pointer (some ⟨b, 0, none⟩), evV e] (.one (.one .slice)) k w := by
 refine S_do h hb hn rd hvc hrv hf fun s1 s2 w h => ?_
 refine z8g (F := F) hE hC ?_
 exact hh (E2 := s1 :: s2 :: E) (i2 := i + 2) h hi (fun w h => dl0_ (dl0_ h)) fun v sv s' w' r hs h => hk v sv s' w' r hs (dl1_ (dl1_ h))
end Go.Proofs.YtkmalcoocklikaaGreatDoor
namespace Go.Proofs.YtkmalcoocklikaaGreatDoor
open Go.Dm
attribute [local irreducible] L.load L.store L.chk L.new L.nonnil L.guard L.ite L.draw L.idx L.sem L.semR L.semU L.chkSem L.next L.call L.callV L.join L.alts L.loop L.begin L.endRound L.range
variable {w0 w : World} {E : List Seg}
def newSys (room line pat : Int) : ASys := ⟨⟨[], [], 0⟩, ⟨[], []⟩, [], ⟨room, 0, []⟩, ⟨[], [], line, pat⟩, [], 0⟩
theorem z5c {n a b : Int} {k : Bool → PT} (hk : k (wiB n a b) w) : L.call Pr z0X [I n, I a, I b] (.one (.one .bool)) k w := by
 refine z04 (z5f n a b) ?_
 unfold z3i
 unfold wiB at hk
 refine it (fun h1 => ?_) (fun h1 => ?_)
 ·have h1 : decide (a ≤ n) = true := h1
  rw [h1] at hk
  exact ⟨_, rfl, hk⟩
 ·have h1 : decide (a ≤ n) = false := h1
  rw [h1] at hk
  exact ⟨_, rfl, hk⟩
def newOk (room line pat : Int) : Bool := wiB room 1 30 && (wiB line 0 8 && wiB pat 1 50)
theorem zau (h : St w0 E w) {room line pat : Int} {k : Option Addr × Int × Unit → PT} (h0 : newOk room line pat = false → ∀ w', St w0 E w' → k (none, 2, ()) w')
  (h1 : newOk room line pat = true → ∀ b s w', SysS b (newSys room line pat) s → St w0 (s :: E) w' → k (some ⟨b, 0, none⟩, 0, ()) w') : L.call Pr z3r [I room, I line, I pat] (.tup [.one .ptr, .one (.int .i64)]) k w := by
 refine z04 (z9l _ _ _) ?_
 unfold z6m
 unfold newOk at h0 h1
 refine z5c ?_
 cases c1 : wiB room 1 30 with
 | false => exact itT rfl ⟨(none, 2, ()), rfl, h0 (by rw [c1]; rfl) w h⟩
 | true =>
 refine itF rfl ?_
 refine z5c ?_
 cases c2 : wiB line 0 8 with
 | false => exact itT rfl ⟨(none, 2, ()), rfl, h0 (by rw [c1, c2]; rfl) w h⟩
 | true =>
 refine itF rfl ?_
 refine z5c ?_
 cases c3 : wiB pat 1 50 with
 | false => exact itT rfl ⟨(none, 2, ()), rfl, h0 (by rw [c1, c2, c3]; rfl) w h⟩
 | true =>
 refine itF rfl ?_
 have hl : 0 ≤ line ∧ line ≤ 8 := by unfold wiB at c2; simpa using c2
 refine zeD h fun bf sf w hF h => ?_
 refine zdL h fun bs ss w hS h => ?_
 refine zdY h fun bk sk w hK h => ?_
 refine zdM h fun br sr w hR h => ?_
 refine zeB h (bf := bf) hl.1 (by omega) fun bg sg w hG h => ?_
 refine MpS.new h Value.string Value.pointer fun r sm w hm h => ?_
 refine nw h ?_; clear h; (try clear w); intro b w h
 have h : St w0 (sysC b ⟨bs, bk, br, bf, bg, r⟩ 0 :: sm :: sg :: sr :: sk :: ss :: sf :: E) w := h
 refine ⟨(some ⟨b, 0, none⟩, 0, ()), rfl, h1 (by rw [c1, c2, c3]; rfl) b _ w ⟨⟨bs, bk, br, bf, bg, r⟩, sg, sf, ss, sk, sr, sm, [], ⟨hG, hF, hS, hK, hR, hm, by simp, rfl⟩, rfl⟩ ?_⟩
 have h := fr6_ (fr6_ (fr6_ (fr5_ (fr4_ (fr3_ (fr1_ h))))))
 have h : St w0 (sysC b ⟨bs, bk, br, bf, bg, r⟩ 0 :: sg :: sf :: ss :: sk :: sr :: sm :: (([] : List BsE).map BsE.sg).flatten :: E) w := h.eq (by simp)
 exact h.glue8
theorem zat (h : St w0 E w) (i : Nat) {b : Nat} {a : ASys} {s : Seg} (hi : nth E i = some s) (hs : SysS b a s) {k : Int → PT} (hk : k a.now w) : L.call Pr z1c [.pointer (some ⟨b, 0, none⟩)] (.one (.one (.int .i64))) k w := by
 obtain ⟨p, sg, sf, ss, sk, sr, sm, Q, R, rfl⟩ := hs
 refine z04 (z5g _) ?_
 unfold z3j
 have h := (h.front i hi).split8
 (refine nn ?_; refine ldC h ?_)
 exact ⟨_, rfl, hk⟩
theorem z67 {p0 p1 : Int} (h : 0 < p1) (hp : p1 ≤ 2147483648) {k : Int → PT} (hk : k (p0 % p1) w) : L.call Pr z0W [I p0, I p1] (.one (.one (.int .i64))) k w := by
 refine z04 (z4P p0 p1) ?_
 unfold z2Q
 refine gd (by omega) ?_
 have h1 := Int.emod_nonneg p0 (by omega : p1 ≠ 0)
 have h2 := Int.emod_lt_of_pos p0 h
 have e := z9t p0 p1 h
 refine z58 (fun z w' => z.1 = p0 % p1 ∧ w' = w) (fun k' hk' => ?_) (fun y w' ⟨h1, h2⟩ => by subst h2; exact ⟨_, rfl, by rw [h1]; exact hk⟩)
 refine it (fun hb => ?_) (fun hb => ?_) <;> (try simp only [zB] at hb)
 ·refine hk' _ _ ⟨?_, rfl⟩
  rw [e] at hb
  dsimp only
  rw [e]
  split at hb <;> rename_i hc
  ·omega
  ·rw [if_neg hc, wr] <;> omega
 ·refine hk' _ _ ⟨?_, rfl⟩
  rw [e] at hb
  dsimp only
  rw [e]
  split at hb <;> rename_i hc
  ·rw [if_pos hc]
  ·omega
def noRt15 : ARt := ⟨s_, s_, [], 0⟩
abbrev noSl : Sl := ⟨none, 0, 0⟩
theorem zd1 [bTab w0] (h : St w0 E w) (i : Nat) {b : Nat} {a : ASys} {s : Seg} (hi : nth E i = some s) (hs : SysS b a s) {e : AEv} (hkd : e.kind = 9) (hb : chkEv e = 0) (rd : RdE w0 E eT e.v e.r.ts) (hvc : e.v.len ≤ e.v.cap) (hrv : ∀ t ∈ e.r.ts, revOk t.1)
  (hnow : 0 ≤ a.now) (hwk : GWk a.gt) (hfl : (tkG a).2.length < 90000000) (hf : ∀ f ∈ (tkG a).2, f.Ok)
  (hby : ∀ rev ∈ bkAll a.bk, (mget a.by' rev).isSome = true) (hxs : ∀ x ∈ a.by', x.2.xs.length < 1000000000) (hfb : a.bk.all.length < 1000000) {k : Sl → PT} (hk : Hk w0 E i b (sysTick a) k) :
  L.call Pr z0C [.pointer (some ⟨b, 0, none⟩), evV e] (.one (.one .slice)) k w :=
 zeO h i hi hs hb (fun hh => by omega) rd hvc hrv (f := z0E) (by rw [hkd]; rfl) z4K (z4M (some ⟨b, 0, none⟩) e.t)
  (fun h hi _ hk => zc2 h _ hi hs hnow hwk hfl hf hby hxs hfb hk) hk
abbrev evT0 (kind : Int) : AEv := ⟨kind, s_, s_, 0, 0, noCfg, noRt15, noSl⟩
theorem chk0 : chkEv (evT0 0) = 12 := by decide
theorem chk9 : chkEv (evT0 9) = 0 := by decide +kernel
theorem z9Y : (tkG (newSys 3 2 5)).2 = [] := by decide +kernel
theorem zdD : GWk (newSys 3 2 5).gt := fun x hx => by cases hx
theorem zc7 [bTab w0] (h : St w0 E w) {k : Bool → PT} (hk : ∀ w', St w0 E w' → k true w') : L.call Pr z1Z [] (.one (.one .bool)) k w := by
 refine z04 z5i ?_
 unfold z3m
 refine zau h (fun hh => absurd hh (by decide)) fun _ b s w hs h => ?_
 refine itF rfl (itF rfl ?_)
 refine zdX (e := evT0 0) h (by rw [chk0]; decide) (fun hh => by rcases hh with hh | hh <;> cases hh) (fun _ _ => Rd.nil) (by decide) (by simp [noRt15]) fun v2 s2 w r2 h => ?_
 refine zd1 h 1 rfl hs (e := evT0 9) rfl chk9 (fun _ _ => Rd.nil) (by decide) (by simp [noRt15]) (by decide) zdD (by rw [z9Y]; decide) (by rw [z9Y]; simp) (by simp [newSys, bkAll, z8I]) (by simp [newSys]) (by decide) fun v3 s3 s' w r3 hs h => ?_
 have e2 : [lineB zds [errB (chkEv (evT0 0))]] = [s_bad_kind] := by decide +kernel
 have e3 : (sysTick (newSys 3 2 5)).2 = [s_tick_1] := by decide +kernel
 have e4 : (sysTick (newSys 3 2 5)).1.now = 1 := by decide +kernel
 rw [e2] at r2
 rw [e3] at r3
 have l2 := Rw.len encS r2
 have l3 := Rw.len encS r3
 refine itT (by rw [l2]; rfl) ?_
 refine Rw.ix encS r2 (by decide) (by decide) fun a ha => ?_
 refine Rw.ld0 encS h 1 rfl r2 ha (x := s_bad_kind) rfl rfl rfl ?_
 refine itT (by rw [z44]; decide) ?_
 refine itT (by rw [l3]; rfl) ?_
 refine Rw.ix encS r3 (by decide) (by decide) fun a ha => ?_
 refine Rw.ld0 encS h 0 rfl r3 ha (x := s_tick_1) rfl rfl rfl ?_
 refine itT (by rw [z44]; decide) ?_
 refine zat h 2 rfl hs ?_
 rw [e4]
 exact ⟨true, rfl, hk w (dl0_ (dl0_ (dl0_ h)))⟩
theorem z7q (h : St w0 E w) (i : Nat) {b : Nat} {a : ASys} {s : Seg} (hi : nth E i = some s) (hs : SysS b a s) {k : Sl → PT} (hk : ∀ v sv w', Rw eS z05 1 v (bkAll a.bk) sv → St w0 (sv :: E) w' → k v w') : L.call Pr z0N [.pointer (some ⟨b, 0, none⟩)] (.one (.one .slice)) k w := by
 obtain ⟨p, sg, sf, ss, sk, sr, sm, Q, R, rfl⟩ := hs
 refine z04 (z1X _) ?_
 unfold z16
 have h := (h.front i hi).split8
 (refine nn ?_; refine ldC h ?_)
 refine zcd h 4 rfl R.bk fun v sv w r h => ⟨v, rfl, hk v sv w r ?_⟩
 have h := fr8_ (fr8_ (fr8_ (fr8_ (fr8_ (fr8_ (fr8_ (fr8_ h)))))))
 have h := h.glue8
 exact St.again (E := sv :: E) (i + 1) hi h
end Go.Proofs.YtkmalcoocklikaaGreatDoor
namespace Go.Proofs.YtkmalcoocklikaaGreatDoor
open Go.Dm
abbrev idB (x : Int) : Prop := 0 ≤ x ∧ x ≤ 2147483647
structure FlI (k : Nat) (F : AFleet) : Prop where
 few : FFew F
 r1 : 1 ≤ F.room
 last : F.last ≤ 20 * (k : Int)
 rev : ∀ x ∈ F.l, RevN x.rev
 req : ∀ x ∈ F.l, ∀ q ∈ x.pod.reqs, idB q
theorem FlI.mono {k m : Nat} {F : AFleet} (h : FlI k F) (hm : k ≤ m) : FlI m F := ⟨h.few, h.r1, by have := h.last; omega, h.rev, h.req⟩
theorem FlI.upd {k : Nat} {F : AFleet} (h : FlI k F) {id : Int} {g : APod → APod} (hf : FFew { F with l := fUpd F.l id g }) (hg : ∀ x ∈ F.l, x.id = id → ∀ q ∈ (g x.pod).reqs, idB q) : FlI k { F with l := fUpd F.l id g } :=
 ⟨hf, h.r1, h.last, fun y hy => by
  rcases z8d hy with hy | ⟨x, hx, _, rfl⟩
  ·exact h.rev y hy
  ·exact h.rev x hx, fun y hy => by
  rcases z8d hy with hy | ⟨x, hx, hid, rfl⟩
  ·exact h.req y hy
  ·exact hg x hx hid⟩
theorem z9z {p : APod} {q z : Int} (h : z ∈ (podTake p q).1.reqs) : z ∈ p.reqs ∨ z = q := by
 unfold podTake at h
 split at h
 ·exact .inl h
 ·split at h
  ·exact .inl h
  ·split at h
   ·exact .inl h
   ·rcases List.mem_cons.1 ((z6V q p.reqs).mem_iff.1 h) with e | e
    ·exact .inr e
    ·exact .inl e
theorem z9B {p : APod} {z : Int} (h : z ∈ (podKill p).1.reqs) : z ∈ p.reqs := by
 unfold podKill at h
 split at h
 ·exact h
 ·cases h
theorem FlI.take {k : Nat} {F : AFleet} (h : FlI k F) (rev : ByteArray) {q : Int} (hq : idB q) : FlI k (fTake F rev q).1 := by
 have hf := h.few.take rev q
 unfold fTake at hf ⊢
 split
 ·exact h
 ·rename_i h1
  rw [if_neg h1] at hf
  split
  ·exact h
  ·rename_i x hx
   rw [hx] at hf
   exact h.upd hf fun y hy _ z hz => by
    rcases z9z hz with e | rfl
    ·exact h.req y hy z e
    ·exact hq
theorem FlI.kill {k : Nat} {F : AFleet} (h : FlI k F) (id : Int) : FlI k (fKill F id).1 := by
 have hf := h.few.kill id
 unfold fKill at hf ⊢
 split
 ·exact h
 ·rename_i x hx
  rw [hx] at hf
  exact h.upd hf fun y hy _ z hz => h.req y hy z (z9B hz)
theorem zbB {κ υ : Type} [DecidableEq κ] (m : List (κ × υ)) (a b : κ) (u : υ) (h : (mget m b).isSome = true) : (mget (mset m a u) b).isSome = true := by
 rw [z5t]; split
 ·rfl
 ·exact h
structure GtI (k : Nat) (G : AGate) : Prop where
 all : G.all.length ≤ 2000 * k
 ids : ∀ x ∈ G.all, idB x.1
 lines : G.lines.length ≤ k
 lid : ∀ x ∈ G.lines, ∀ y ∈ x.2, idB y.1
 wk : GWk G
 pat : 1 ≤ G.pat ∧ G.pat ≤ 1000
 room : 0 ≤ G.room ∧ G.room ≤ 8
theorem GtI.mono {k m : Nat} {G : AGate} (h : GtI k G) (hm : k ≤ m) : GtI m G := ⟨by have := h.all; omega, h.ids, by have := h.lines; omega, h.lid, h.wk, h.pat, h.room⟩
theorem GtI.line {k : Nat} {G : AGate} (h : GtI k G) (rev : ByteArray) : ∀ y ∈ lineOf G.lines rev, idB y.1 := fun y hy => by
 unfold lineOf at hy
 cases hg : mget G.lines rev with
 | none => rw [hg] at hy; cases hy
 | some l => rw [hg] at hy; exact h.lid _ (z3V hg) y hy
theorem GtI.turn {k m : Nat} {G : AGate} (h : GtI k G) {all : Alls} {rev : ByteArray} {l : List (Int × Int)} (hm : k + 1 ≤ m) (hl : all.length ≤ 2000 * m) (hi : ∀ x ∈ all, idB x.1) (hs : ∀ q, (mget G.all q).isSome = true → (mget all q).isSome = true)
  (h1 : ∀ y ∈ l, idB y.1) (h2 : ∀ y ∈ l, (mget all y.1).isSome = true) : GtI m { G with all := all, lines := mset G.lines rev l } := by
 have := h.lines
 have := z87 G.lines rev l
 refine ⟨hl, hi, by dsimp only; omega, fun x hx y hy => ?_, fun x hx y hy => ?_, h.pat, h.room⟩
 ·rcases z2D hx with rfl | hx
  ·exact h1 y hy
  ·exact h.lid x hx y hy
 ·rcases z2D hx with rfl | hx
  ·exact h2 y hy
  ·exact hs _ (h.wk x hx y hy)
theorem GtI.req {k m : Nat} {G : AGate} (h : GtI k G) {all : Alls} (hm : k ≤ m) (hl : all.length ≤ 2000 * m) (hi : ∀ x ∈ all, idB x.1) (hs : ∀ q, (mget G.all q).isSome = true → (mget all q).isSome = true) : GtI m { G with all := all } :=
 ⟨hl, hi, by have := h.lines; dsimp only; omega, h.lid, fun x hx y hy => hs _ (h.wk x hx y hy), h.pat, h.room⟩
theorem zcG {all : Alls} {id : Int} {x : ByteArray × Int} (h : ∀ x ∈ all, idB x.1) (hi : idB id) : ∀ y ∈ mset all id x, idB y.1 := fun y hy => by
 rcases z2D hy with rfl | hy
 ·exact hi
 ·exact h y hy
theorem z9 : (0 : Int) ≤ 0 ∧ (0 : Int) ≤ 9000000000000000000 := ⟨by decide, by decide⟩
theorem z8Z {rev : ByteArray} : ∀ {l : List Int} {all : Alls}, (∀ x ∈ all, idB x.1) → (∀ x ∈ l, idB x) → ∀ x ∈ lateS rev l all, idB x.1
 | [], _, h, _ => h
 | x :: l, all, h, hx => z8Z (l := l) (zcG h (hx x (by simp))) fun y hy => hx y (by simp [hy])
theorem zcH {l : List (Int × Int)} {now q : Int} (h : q ∈ lLate l now) : ∃ y ∈ l, y.1 = q := by
 unfold lLate at h
 obtain ⟨y, hy, e⟩ := List.mem_map.1 h
 exact ⟨y, (List.mem_filter.1 hy).1, e⟩
structure TkI (m n : Nat) (G : AGate) : Prop where
 all : G.all.length ≤ m
 ids : ∀ x ∈ G.all, idB x.1
 lines : G.lines.length ≤ n
 lid : ∀ x ∈ G.lines, ∀ y ∈ x.2, idB y.1
 wk : GWk G
 ok : G.Ok
theorem TkI.line {m n : Nat} {G : AGate} (h : TkI m n G) (rev : ByteArray) : ∀ y ∈ lineOf G.lines rev, idB y.1 := fun y hy => by
 unfold lineOf at hy
 cases hg : mget G.lines rev with
 | none => rw [hg] at hy; cases hy
 | some l => rw [hg] at hy; exact h.lid _ (z3V hg) y hy
theorem TkI.tick1 {m n : Nat} {G : AGate} (h : TkI m n G) {k : ByteArray} (hk : (mget G.lines k).isSome = true) (now : Int) : TkI m n (YtkmalcoocklikaaGreatDoor.tick1 now k G) := by
 refine ⟨?_, ?_, ?_, ?_, h.wk.tick1 k now, h.ok.tick1 h.wk hk now⟩
 ·have := congrArg List.length (z4D (rev := k) (l := lLate (lineOf G.lines k) now) (all := G.all) (h.wk.late k now))
  simp only [List.length_map] at this
  have := h.all
  unfold YtkmalcoocklikaaGreatDoor.tick1; dsimp only; omega
 ·refine z8Z h.ids fun q hq => ?_
  obtain ⟨y, hy, rfl⟩ := zcH hq
  exact h.line k y hy
 ·have := congrArg List.length (z9u (G := G) hk now)
  simp only [List.length_map] at this
  have := h.lines
  omega
 ·intro x hx y hy
  rcases z2D hx with rfl | hx
  ·exact h.line k y (List.mem_filter.1 hy).1
  ·exact h.lid x hx y hy
structure ShI (k : Nat) (a : AShelf) : Prop where
 n : a.n ≤ k
 few : a.Few
 cfg : ∀ n, (tget a.m n).is = true → (cfgOf (tget a.m n)).1 = n ∧ specC (cfgOf (tget a.m n)) = 0 ∧ 1 ≤ (tget a.m n).gen
 rt : ∀ n, (rget a.r n).is = true → (rget a.r n).r.name = n ∧ specE (rget a.r n).r = 0
theorem ShI.mono {k m : Nat} {a : AShelf} (h : ShI k a) (hm : k ≤ m) : ShI m a := ⟨by have := h.n; omega, h.few, h.cfg, h.rt⟩
structure BkI (k : Nat) (a : ABook) : Prop where
 len : a.all.length ≤ k
 rev : ∀ p ∈ a.all, RevN p.1
 cfg : ∀ p ∈ a.all, specC p.2.cfg = 0
theorem BkI.mono {k m : Nat} {a : ABook} (h : BkI k a) (hm : k ≤ m) : BkI m a := ⟨by have := h.len; omega, h.rev, h.cfg⟩
theorem RevN.size {n : ByteArray} (h : RevN n) : n.size ≤ 100 := by
 obtain ⟨c, g, hc, -, hg, rfl⟩ := h
 have := z6H c hg
 unfold shortB at hc
 simp only [Bool.and_eq_true, decide_eq_true_eq] at hc
 have h2 : (c.data.toList.length : Int) ≤ 16 := hc.2
 have h3 : c.data.toList.length = c.size := by rw [Array.length_toList]; rfl
 omega
theorem zbX {a : ABook} {rev : ByteArray} (h : bkHas a rev = true) : (rev, bkGet a rev) ∈ a.all := by
 unfold bkHas at h
 unfold bkGet
 cases h2 : mget a.all rev with
 | none => rw [h2] at h; cases h
 | some v => exact z3V h2
theorem BkI.size {k : Nat} {a : ABook} (h : BkI k a) {rev : ByteArray} (hr : bkHas a rev = true) : rev.size ≤ 100 := (h.rev _ (zbX hr)).size
structure ByI (k : Nat) (bk : ABook) (m : List (ByteArray × ABes)) : Prop where
 has : ∀ p ∈ bk.all, (mget m p.1).isSome = true
 xs : ∀ x ∈ m, x.2.xs.length ≤ k
 rng : ∀ x ∈ m, ∀ y ∈ x.2.xs, 0 ≤ y ∧ y ≤ 100000000
 want : ∀ x ∈ m, (0 ≤ x.2.want ∧ x.2.want ≤ 10) ∧ (0 ≤ x.2.left ∧ x.2.left ≤ 1000)
theorem ByI.mono {k m : Nat} {bk : ABook} {b : List (ByteArray × ABes)} (h : ByI k bk b) (hm : k ≤ m) : ByI m bk b := ⟨h.has, fun x hx => by have := h.xs x hx; omega, h.rng, h.want⟩
theorem ByI.set {k : Nat} {bk : ABook} {b : List (ByteArray × ABes)} (h : ByI k bk b) {rev : ByteArray} {x : ABes} (h1 : x.xs.length ≤ k) (h2 : ∀ y ∈ x.xs, 0 ≤ y ∧ y ≤ 100000000) (h3 : (0 ≤ x.want ∧ x.want ≤ 10) ∧ (0 ≤ x.left ∧ x.left ≤ 1000)) : ByI k bk (mset b rev x) :=
 ⟨fun p hp => zbB _ _ _ _ (h.has p hp), fun y hy => by
  rcases z2D hy with rfl | hy
  ·exact h1
  ·exact h.xs y hy, fun y hy => by
  rcases z2D hy with rfl | hy
  ·exact h2
  ·exact h.rng y hy, fun y hy => by
  rcases z2D hy with rfl | hy
  ·exact h3
  ·exact h.want y hy⟩
structure WyI (k : Nat) (a : AWay) : Prop where
 fr : WBd a.fr
 to : WBd a.to
 ns : WBd a.ns
 zf : ∀ s ∈ a.fr, s.1.size ≤ 100
 zt : ∀ s ∈ a.to, s.1.size ≤ 100
 zn : ∀ s ∈ a.ns, s.1.size ≤ 100
 zg : ∀ s ∈ a.ng, s.1.size ≤ 100 ∧ s.2.1.size ≤ 100
 lf : a.fr.length ≤ 6 * k
 lt : a.to.length ≤ 6
 ln : a.ns.length ≤ 6 * k
 lg : a.ng.length ≤ 6
 since : 0 ≤ a.since ∧ a.since ≤ 1048576
abbrev RoI (k : Nat) (m : ARoll) : Prop := ∀ n x, mget m n = some x → WyI k x
theorem WyI.mono {k m : Nat} {a : AWay} (h : WyI k a) (hm : k ≤ m) : WyI m a := ⟨h.fr, h.to, h.ns, h.zf, h.zt, h.zn, h.zg, by have := h.lf; omega, h.lt, by have := h.ln; omega, h.lg, h.since⟩
theorem WyI.ok {k : Nat} {a : AWay} (h : WyI k a) (hk : k ≤ 10000) : a.Ok := ⟨h.fr, h.to, h.ns, by have := h.lf; omega, by have := h.lt; omega, by have := h.ln; omega, by have := h.lg; omega⟩
structure TabI (t : ATab) : Prop where
 w : WBd t.sh
 zs : ∀ s ∈ t.sh, s.1.size ≤ 100
 zg : ∀ s ∈ t.tg, s.1.size ≤ 100 ∧ s.2.1.size ≤ 100
 ls : t.sh.length ≤ 6
 lg : t.tg.length ≤ 6
theorem RoI.del {k : Nat} {m : ARoll} (h : RoI k m) (nd : (m.map (·.1)).Nodup) (n : ByteArray) : RoI k (mdel m n) := by
 intro n' x hx
 rw [z8Y n n' nd] at hx
 split at hx
 ·cases hx
 ·exact h n' x hx
structure RgI (j : Nat) (ws : MSI) (ts : MSS) : Prop where
 lw : ws.length ≤ j
 lt : ts.length ≤ j
 zw : ∀ x ∈ ws, x.1.size ≤ 100 ∧ 0 ≤ x.2 ∧ x.2 ≤ 100 * j
 zt : ∀ x ∈ ts, x.1.size ≤ 100 ∧ x.2.size ≤ 100
structure SInv (k : Nat) (a : ASys) : Prop where
 fl : FlI k a.fl
 gt : GtI k a.gt
 sh : ShI k a.sh
 bk : BkI k a.bk
 ro : RoI k a.ro
 by' : ByI k a.bk a.by'
 now : 0 ≤ a.now ∧ a.now ≤ 1048576
structure SOk (a : ASys) : Prop where
 fl : a.fl.Ok
 gt : a.gt.Ok
 sh : a.sh.Ok
 bk : a.bk.Ok
 ro : (a.ro.map (·.1)).Nodup
 nd : (a.bk.all.map (·.1)).Nodup
theorem SysS.ok {b : Nat} {a : ASys} {s : Seg} (h : SysS b a s) : SOk a := by
 obtain ⟨p, sg, sf, ss, sk, sr, sm, Q, R, -⟩ := h
 refine ⟨R.fl.1, R.gt.1, R.sh.1, R.bk.1, ?_, ?_⟩
 ·obtain ⟨r, sm, P, Q, hm, -, e, -⟩ := R.ro
  rw [e]
  have := hm.nd
  simpa [List.map_map, Function.comp_def] using this
 ·obtain ⟨-, rA, rP, sA, sP, hA, -⟩ := R.bk
  exact hA.nd
theorem SInv.mono {k m : Nat} {a : ASys} (h : SInv k a) (hm : k ≤ m) : SInv m a := ⟨h.fl.mono hm, h.gt.mono hm, h.sh.mono hm, h.bk.mono hm, fun n x hx => (h.ro n x hx).mono hm, h.by'.mono hm, h.now⟩
end Go.Proofs.YtkmalcoocklikaaGreatDoor
namespace Go.Proofs.YtkmalcoocklikaaGreatDoor
open Go.Dm
attribute [local irreducible] L.load L.store L.chk L.new L.nonnil L.guard L.ite L.draw L.idx L.sem L.semR L.semU L.chkSem L.next L.call L.callV L.join L.alts L.loop L.begin L.endRound L.range
variable {w0 w : World} {E : List Seg}
structure EvIn (w0 : World) (E : List Seg) (i : Nat) (e : AEv) : Prop where
 rd : RdE w0 (delN E i) eT e.v e.r.ts
 hvc : e.v.len ≤ e.v.cap
 h0 : e.v.a = none → e.r.ts = []
 hrv : ∀ t ∈ e.r.ts, revOk t.1
 hn : e.kind = 12 ∨ e.kind = 13 → RevN e.name
end Go.Proofs.YtkmalcoocklikaaGreatDoor
namespace Go.Proofs.YtkmalcoocklikaaGreatDoor
open Go.Dm
def cW (k : Int) : Cfg := (zbn, k, 1, 0, 1, 0, ())
structure GI (a : ASys) (ver gen : Nat) (last : Int) : Prop where
 n : a.sh.n = ver
 sh : (ver = 0 ∧ gen = 0 ∧ last = -1 ∧ (tget a.sh.m zbn).is = false ∧ (tget a.sh.m zbn).gen = 0) ∨ (0 < ver ∧ 0 ≤ last ∧ 0 < gen ∧ tget a.sh.m zbn = thgOf (cW last) ver gen true)
 gl : gen ≤ ver
 bk : ∀ g, 1 ≤ g → g < 100 → (bkHas a.bk (revB zbn g) = true ↔ g ≤ gen)
 len : a.bk.all.length = gen
end Go.Proofs.YtkmalcoocklikaaGreatDoor
namespace Go.Proofs.YtkmalcoocklikaaGreatDoor
open Go.Dm
attribute [local irreducible] L.load L.store L.chk L.new L.nonnil L.guard L.ite L.draw L.idx L.sem L.semR L.semU L.chkSem L.next L.call L.callV L.join L.alts L.loop L.begin L.endRound L.range
variable {w0 w : World} {E : List Seg}
theorem zc3 (h : St w0 E w) (i : Nat) {b : Nat} {a : ASys} {s : Seg} (hi : nth E i = some s) (hs : SysS b a s) {k : Int → PT} (hk : k a.fl.l.length w) : L.call Pr z1T [.pointer (some ⟨b, 0, none⟩)] (.one (.one (.int .i64))) k w := by
 obtain ⟨p, sg, sf, ss, sk, sr, sm, Q, R, rfl⟩ := hs
 refine z04 (z4N _) ?_
 unfold z2O
 have h := (h.front i hi).split8
 ((try dsimp only [setN, List.cons_append, List.nil_append] at h); repeat (first | refine nn ?_ | (refine dr h ?_; clear h; (try clear w); intro w h) | refine ldC h ?_ | refine laC h ?_ | refine ckC h ?_ | (refine stC h ?_; clear h; (try clear w); intro w h; (try dsimp only [putN, setN] at h)) | rw [z22]))
 refine zdW h 2 rfl R.fl ?_
 exact ⟨_, rfl, hk⟩
theorem z9P (h : St w0 E w) (i : Nat) {b : Nat} {a : ASys} {s : Seg} (hi : nth E i = some s) (hs : SysS b a s) {k : Int × Int × Int × Int × Unit → PT}
  (hk : ∀ s' w', SysS b a s' → St w0 (setN E i s') w' → k ((a.gt.all.length : Int), (gCnt a.gt.all 2 : Int), (gCnt a.gt.all 1 : Int), (gCnt a.gt.all 3 : Int) + gCnt a.gt.all 4, ()) w') :
  L.call Pr z1q [.pointer (some ⟨b, 0, none⟩)] (.tup [.one (.int .i64), .one (.int .i64), .one (.int .i64), .one (.int .i64)]) k w := by
 obtain ⟨p, sg, sf, ss, sk, sr, sm, Q, R, rfl⟩ := hs
 refine z04 (z4e _) ?_
 unfold z2s
 have h := (h.front i hi).split8
 ((try dsimp only [setN, List.cons_append, List.nil_append] at h); repeat (first | refine nn ?_ | (refine dr h ?_; clear h; (try clear w); intro w h) | refine ldC h ?_ | refine laC h ?_ | refine ckC h ?_ | (refine stC h ?_; clear h; (try clear w); intro w h; (try dsimp only [putN, setN] at h)) | rw [z22]))
 have h := fr1_ h
 refine zc9 h R.gt fun sg' w hG h => ?_
 refine ⟨(_, _, _, _, ()), rfl, hk _ w ⟨p, sg', sf, ss, sk, sr, sm, Q, ⟨hG, R.fl, R.sh, R.bk, R.ro, R.mp, R.ea, R.ab⟩, rfl⟩ ?_⟩
 have h := fr1_ h
 exact St.back i hi h.glue8
theorem ix3 {b T : Nat} {l : List Int} (h : St w0 ([Cl b T (l.map I)] :: E) w) {n j : Int} {m sz : Nat} {kk : Int → PT} (h0 : 0 ≤ n) (h1 : n < (m : Int)) (j0 : 0 ≤ j) (j1 : j < (sz : Int)) {x : Int} (hx : l[n.toNat * sz + j.toNat]? = some x) (hk : kk x w) :
  L.idx (some ⟨b, 0, none⟩) n m sz (fun a => L.idx (some a) j sz 1 fun a' => L.load (.one (.int .i64)) a' kk) w := by
 refine ix h0 h1 (ix j0 j1 ?_)
 rw [z22]
 have e : (⟨b, 0, none⟩ : Addr).add (n.toNat * sz + j.toNat * 1) = ⟨b, n.toNat * sz + j.toNat, none⟩ := by
  unfold Addr.add; simp; omega
 rw [e]
 refine ldx h 0 rfl (v := I x) ?_ rfl hk
 rw [z06, List.getElem?_map, hx]; rfl
theorem zav (h : St w0 E w) {room line pat : Int} {k : Option Addr × Int × Unit → PT} (h0 : newOk room line pat = false → ∀ w', St w0 E w' → k (none, 2, ()) w')
  (h1 : newOk room line pat = true → ∀ b w', St w0 E w' → k (some b, 0, ()) w') : L.call Pr z2y [I room, I line, I pat] (.tup [.one .ptr, .one (.int .i64)]) k w := by
 refine z04 (z6a _ _ _) ?_
 unfold z3L
 unfold newOk wiB at h0 h1
 refine it (fun c1 => ?_) (fun c1 => ?_) <;> (try simp only [zB] at c1)
 ·exact ⟨(none, 2, ()), rfl, h0 (by simp; omega) w h⟩
 refine it (fun c2 => ?_) (fun c2 => ?_) <;> (try simp only [zB] at c2)
 ·exact ⟨(none, 2, ()), rfl, h0 (by simp; omega) w h⟩
 refine it (fun c3 => ?_) (fun c3 => ?_) <;> (try simp only [zB] at c3)
 ·exact ⟨(none, 2, ()), rfl, h0 (by simp; omega) w h⟩
 refine it (fun c4 => ?_) (fun c4 => ?_) <;> (try simp only [zB] at c4)
 ·exact ⟨(none, 2, ()), rfl, h0 (by simp; omega) w h⟩
 refine it (fun c5 => ?_) (fun c5 => ?_) <;> (try simp only [zB] at c5)
 ·exact ⟨(none, 2, ()), rfl, h0 (by simp; omega) w h⟩
 refine it (fun c6 => ?_) (fun c6 => ?_) <;> (try simp only [zB] at c6)
 ·exact ⟨(none, 2, ()), rfl, h0 (by simp; omega) w h⟩
 have hn := h1 (by simp; omega)
 refine z04 (z6c _) ?_
 unfold z3N
 refine nw h ?_; clear h; (try clear w); intro b1 w h
 refine ⟨some ⟨b1, 0, none⟩, rfl, ?_⟩
 refine nw h ?_; clear h; (try clear w); intro b2 w h
 refine nw h ?_; clear h; (try clear w); intro b3 w h
 refine nw h ?_; clear h; (try clear w); intro b4 w h
 refine z04 (z6b _ _ _) ?_
 unfold z3M
 refine nw h ?_; clear h; (try clear w); intro b5 w h
 refine ⟨some ⟨b5, 0, none⟩, rfl, ?_⟩
 refine nw h ?_; clear h; (try clear w); intro b6 w h
 refine ⟨(some ⟨b6, 0, none⟩, 0, ()), rfl, hn ⟨b6, 0, none⟩ w ?_⟩
 have h := dl0_ (dl1_ (dl2_ (dl3_ (dl4_ (dl5_ h)))))
 exact h
theorem z9M [bTab w0] (x0 x1 x2 x3 : Int) : Calls Pr z2g #[I x0, I x1, I x2, I x3] w0 fun e w' => e = .returned (.bool true) ∧ St w0 [] w' := by
 refine zej (args := [I x0, I x1, I x2, I x3]) (z42 x0 x1 x2 x3) ?_
 unfold z2o
 have h := St.init w0
 refine zc7 h fun w h => itF rfl ?_
 refine z67 (by decide) (by decide) ?_
 refine z67 (by decide) (by decide) ?_
 refine z67 (by decide) (by decide) ?_
 generalize IntKind.wrap .i64 (1 + x0 % 30) = y0
 generalize x1 % 9 = y1
 generalize IntKind.wrap .i64 (1 + x2 % 50) = y2
 refine nw h ?_; clear h; (try clear w); intro b w h
 obtain ⟨l, hl, hlen⟩ : ∃ l : List Int, l = [x0, x1, x2, y0, y1, y2, 0, 1, 1, 31, 1, 1, 1, -1, 1, 1, 9, 1, 1, 1, 0, 1, 1, 51, 30, 8, 50, 1, 0, 1] ∧ l.length = 30 := ⟨_, rfl, rfl⟩
 have h : St w0 ([Cl b z8j (l.map I)] :: []) w := by rw [hl]; exact h
 refine z2h (fun q y w => ∃ j : Nat, @Eq Int y.1 j ∧ q + j = 10 ∧ St w0 ([Cl b z8j (l.map I)] :: []) w) 10 ⟨0, rfl, rfl, h⟩ ?_
 clear hl
 clear h; (try clear w)
 rintro q ⟨y, ⟨⟩⟩ w ⟨j, hy, hq, h⟩ again hag
 (try dsimp only)
 simp only at hy
 subst hy
 refine it (fun hb => ?_) (fun hb => ?_) <;> (try simp only [zB] at hb)
 ·have hj : j < 10 := by omega
  have hg : ∀ m : Nat, m < 3 → ∃ x, l[((j : Int)).toNat * 3 + ((m : Int)).toNat]? = some x := fun m hm => ⟨_, List.getElem?_eq_getElem (by rw [hlen]; omega)⟩
  obtain ⟨a0, e0⟩ := hg 0 (by omega)
  obtain ⟨a1, e1⟩ := hg 1 (by omega)
  obtain ⟨a2, e2⟩ := hg 2 (by omega)
  have hag' : ∀ w', St w0 ([Cl b z8j (l.map I)] :: []) w' → again (IntKind.wrap .i64 ((j : Int) + 1), ()) w' := fun w' h => by
   rw [wr (by omega) (by omega)]
   exact hag (q - 1) _ w' (by omega) ⟨j + 1, by simp, by omega, h⟩
  clear hag
  refine jd ?_
  refine dr h ?_; clear h; clear w; intro w h
  refine ix3 h (by omega) (by omega) (by decide) (by decide) e0 ?_
  refine ix3 h (by omega) (by omega) (by decide) (by decide) e1 ?_
  refine ix3 h (by omega) (by omega) (by decide) (by decide) e2 ?_
  refine zau h (fun hh w h => ?_) (fun hh bs s w hs h => ?_)
  ·refine dr h ?_; clear h; clear w; intro w h
   refine ix3 h (by omega) (by omega) (by decide) (by decide) e0 ?_
   refine ix3 h (by omega) (by omega) (by decide) (by decide) e1 ?_
   refine ix3 h (by omega) (by omega) (by decide) (by decide) e2 ?_
   refine zav h (fun _ w h => ?_) (fun h1 => by rw [hh] at h1; cases h1)
   exact itF rfl (itF rfl (itF rfl (hag' w h)))
  ·refine dr h ?_; clear h; clear w; intro w h
   have h := fr1_ h
   refine ix3 h (by omega) (by omega) (by decide) (by decide) e0 ?_
   refine ix3 h (by omega) (by omega) (by decide) (by decide) e1 ?_
   refine ix3 h (by omega) (by omega) (by decide) (by decide) e2 ?_
   refine zav h (fun h1 => by rw [hh] at h1; cases h1) (fun _ br w h => ?_)
   refine itF rfl (itF rfl (itT rfl ?_))
   refine z9P h 1 rfl hs fun s w hs h => ?_
   refine zat h 1 rfl hs ?_
   refine itF rfl ?_
   refine zc3 h 1 rfl hs ?_
   refine itF rfl ?_
   refine z7q h 1 rfl hs fun v sv w r h => ?_
   have l2 := Rw.len encS r
   have e3 : bkAll (newSys a0 a1 a2).bk = [] := by simp [newSys, bkAll, z8I]
   rw [e3] at l2
   refine itF (by rw [l2]; rfl) ?_
   refine itF rfl ?_
   refine hag' w ?_
   have h := dl0_ (dl2_ h)
   exact h
 ·exact ⟨rfl, dl0_ h⟩
end Go.Proofs.YtkmalcoocklikaaGreatDoor
