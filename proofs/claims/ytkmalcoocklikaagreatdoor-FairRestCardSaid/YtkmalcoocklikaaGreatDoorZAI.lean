/- What is proved on the way to a statement of the seat, pressed (text AI). No conditions beyond those its theorems state. -/
import Derived.Test.YtkmalcoocklikaaGreatDoorZAH
import Derived.Shelf.Strconv.Atoi
import Derived.Shelf.Strconv.Itoa3
import Derived.Shelf.Strings.LastIndex
import Derived.Lib.LaidTab
import Derived.Lib.Join
import Derived.Lib.ItoaNum
import Derived.Lib.ItoaMem
import Derived.Below
import Derived.Shelf.Strings.OnBuilder
import Derived.Shelf.Slices.CompactS
import Derived.Lib.RowBridge
set_option linter.all false
namespace Go.Dm
theorem zB : (∀ (p : Prop) [Decidable p], (decide p = true) = p) ∧ (∀ (p : Prop) [Decidable p], (decide p = false) = ¬p) ∧ (∀ {α : Type} [BEq α] [LawfulBEq α] (a b : α), ((a == b) = true) = (a = b)) ∧ (∀ {α : Type} [BEq α] [LawfulBEq α] (a b : α), ((a != b) = true) = ¬(a = b)) ∧ (∀ {α : Type} [BEq α] [LawfulBEq α] (a b : α), ((a == b) = false) = ¬(a = b)) ∧ (∀ {α : Type} [BEq α] [LawfulBEq α] (a b : α), ((a != b) = false) = (a = b)) ∧
 (∀ b : Bool, ((!b) = true) = (b = false)) ∧ (∀ b : Bool, ((!b) = false) = (b = true)) ∧ (∀ b : Bool, (¬(b = true)) = (b = false)) ∧ (∀ b : Bool, (¬(b = false)) = (b = true)) ∧ (∀ {α : Type} (a b : α), (a ≠ b) = ¬(a = b)) := by
 refine ⟨?_, ?_, ?_, ?_, ?_, ?_, ?_, ?_, ?_, ?_, ?_⟩ <;> intros <;> simp
end Go.Dm
namespace Go.Proofs.YtkmalcoocklikaaGreatDoor
open Go.Dm
variable {w0 w : World} {E : List Seg}
abbrev I (n : Int) : Value := .int .i64 n
theorem wr {n : Int} (h1 : -9223372036854775808 ≤ n) (h2 : n < 9223372036854775808) : IntKind.wrap .i64 n = n := by rw [IntKind.wrap_i64]; omega
theorem elI : El Pr z0X z0i 1 8 (I 0) := zfV (by kernel_rfl) (by kernel_rfl) rfl (by decide)
def eI (n : Int) : List Value := [I n]
theorem encI : Enc eI 1 := ⟨fun _ => rfl, fun _ => rfl, by decide⟩
theorem zfq (p0 p1 : Int) (h : 0 < p1) : Int.tmod p0 p1 = if 0 ≤ p0 ∨ p1 ∣ p0 then p0 % p1 else p0 % p1 - p1 := by
 rw [Int.tmod_eq_emod]
 split
 ·simp
 ·omega
end Go.Proofs.YtkmalcoocklikaaGreatDoor
namespace Go.Proofs.YtkmalcoocklikaaGreatDoor
open Go.Dm
attribute [local irreducible] L.load L.store L.chk L.new L.nonnil L.guard L.ite L.draw L.idx L.sem L.semR L.semU L.chkSem L.next L.call L.callV L.join L.alts L.loop L.begin L.endRound L.range
variable {w0 w : World} {E : List Seg}
def letterB (b : UInt8) : Bool := decide (97 ≤ b.toNat ∧ b.toNat ≤ 122)
def signB (b : UInt8) : Bool := letterB b || decide (48 ≤ b.toNat ∧ b.toNat ≤ 57) || decide (b.toNat = 45)
def shortB (l : List UInt8) (most : Int) : Bool := l.all signB && (l.head?.map letterB).getD false && (match l.getLast? with | some b => decide (b.toNat ≠ 45) | none => false) && decide ((l.length : Int) ≤ most)
abbrev J (n : Int) : Value := .int .i32 n
theorem zgY {c : Int} {k : Bool → PT} (hk : k (decide (97 ≤ c ∧ c ≤ 122)) w) : L.call Pr z4N [J c] (.one (.one .bool)) k w := by
 refine z00 (zcO _) ?_
 unfold z8X
 refine it (fun h => ?_) (fun h => ?_) <;> (try simp only [zB] at h)
 ·refine ⟨_, rfl, ?_⟩
  have e : decide (97 ≤ c ∧ c ≤ 122) = decide (c ≤ 122) := by by_cases h2 : c ≤ 122 <;> simp [h2]; omega
  rw [e] at hk; exact hk
 ·refine ⟨false, rfl, ?_⟩
  have e : decide (97 ≤ c ∧ c ≤ 122) = false := decide_eq_false (by omega)
  rw [e] at hk; exact hk
theorem zkX {c : Int} {k : Bool → PT} (hk : k (decide (97 ≤ c ∧ c ≤ 122) || decide (48 ≤ c ∧ c ≤ 57) || decide (c = 45)) w) : L.call Pr z7H [J c] (.one (.one .bool)) k w := by
 refine z00 (zfg _) ?_
 unfold zb9
 refine zgY ?_
 refine it (fun h => ?_) (fun h => ?_) <;> (try simp only [zB] at h)
 ·refine ⟨true, rfl, ?_⟩
  rw [decide_eq_true h] at hk; exact hk
 ·rw [decide_eq_false h, Bool.false_or] at hk
  have e45 : (c == 45) = decide (c = 45) := by by_cases h : c = 45 <;> simp [h]
  refine it (fun h1 => ?_) (fun h1 => ?_) <;> (try simp only [zB] at h1)
  ·refine it (fun h2 => ?_) (fun h2 => ?_) <;> (try simp only [zB] at h2)
   ·refine ⟨true, rfl, ?_⟩
    rw [decide_eq_true ⟨by omega, h2⟩] at hk; exact hk
   ·refine ⟨_, rfl, ?_⟩
    rw [decide_eq_false (fun hh => h2 hh.2), Bool.false_or] at hk
    rw [e45]; exact hk
  ·refine ⟨_, rfl, ?_⟩
   rw [decide_eq_false (fun hh => by omega), Bool.false_or] at hk
   rw [e45]; exact hk
theorem zjF (b : UInt8) : (decide (97 ≤ (b.toNat : Int) ∧ (b.toNat : Int) ≤ 122) || decide (48 ≤ (b.toNat : Int) ∧ (b.toNat : Int) ≤ 57) || decide ((b.toNat : Int) = 45)) = signB b := by
 unfold signB letterB
 congr 1
 ·congr 1 <;> (apply decide_eq_decide.2; omega)
 ·apply decide_eq_decide.2; omega
theorem zml {s : ByteArray} {pos : Nat} (hp : pos < s.size) : s.data.toList[pos]? = some (s[pos]'hp) := by
 have : pos < s.data.toList.length := by simpa using hp
 rw [List.getElem?_eq_getElem this]
 simp [ByteArray.getElem_eq_getElem_data]
theorem zjh (h : St w0 E w) (und : Pr.underlying z01 = some .string) {s : ByteArray} {most : Int} {k : Bool → PT} (hk : ∀ w', St w0 E w' → k (shortB s.data.toList most) w') : L.call Pr z5l [.string s, I most] (.one (.one .bool)) k w := by
 refine z00 (ze3 _ _) ?_
 unfold za3
 refine rangeStr und h fun r w h => ?_
 have hsz : s.data.toList.length = s.size := by simp
 generalize hl : s.data.toList = l at hk hsz
 refine z0G (fun q y w => ∃ pos : Nat, y = ((if pos = 0 then (45 : Int) else ((l[pos - 1]?).map fun b => (b.toNat : Int)).getD 0), ()) ∧ q + pos = s.size ∧ (l.take pos).all signB = true ∧ (0 < pos → (l.head?.map letterB).getD false = true) ∧ St w0 (ItS r s pos :: E) w) s.size
  ⟨0, rfl, rfl, rfl, by simp, h⟩ ?_
 clear h; (try clear w)
 rintro q y w ⟨pos, rfl, hq, hall, hhd, h⟩ again hag
 dsimp only
 have no : ∀ {w}, shortB l most = false → St w0 E w → ∃ x, Value.bool false = RT.val (.one (.one .bool)) x ∧ k x w := fun hs h => ⟨false, rfl, by have := hk _ h; rw [hs] at this; exact this⟩
 refine nextStr h 0 rfl (fun he => ?_) (fun hp c d w' ha hh hd h => ?_)
 ·have hpos : pos = l.length := by omega
  subst hpos
  rw [List.take_length] at hall
  replace h := dl0_ h
  cases hgl : l.getLast? with
  | none =>
   have : l = [] := List.getLast?_eq_none_iff.1 hgl
   have hs : shortB l most = false := by rw [this]; rfl
   rw [if_pos (by rw [this]; rfl)]
   exact itF rfl (no hs h)
  | some b =>
   have hne : l ≠ [] := fun e => by subst e; cases hgl
   have hlen : l.length ≠ 0 := fun e => hne (List.eq_nil_of_length_eq_zero e)
   have hx : l[l.length - 1]? = some b := by rw [← List.getLast?_eq_getElem?]; exact hgl
   rw [if_neg hlen, hx]
   have hsb : shortB l most = (decide (b.toNat ≠ 45) && decide ((l.length : Int) ≤ most)) := by
    unfold shortB; rw [hall, hhd (by omega), hgl]; simp
   simp only [Option.map_some, Option.getD_some]
   refine it (fun h45 => ?_) (fun h45 => ?_) <;> (try simp only [zB] at h45)
   ·refine ⟨_, rfl, ?_⟩
    have := hk _ h
    rw [hsb, decide_eq_true (show b.toNat ≠ 45 by omega), Bool.true_and, hsz] at this
    exact this
   ·refine no ?_ h
    rw [hsb, decide_eq_false (show ¬ b.toNat ≠ 45 by omega)]; rfl
 ·have hx : l[pos]? = some (s[pos]'hp) := by rw [← hl]; exact zml hp
  generalize s[pos]'hp = b at hx ha hh
  have hmem : b ∈ l := List.mem_of_getElem? hx
  have hno : signB b = false → shortB l most = false := fun hs => by
   unfold shortB
   have : l.all signB = false := by
    rw [List.all_eq_false]; exact ⟨b, hmem, by simp [hs]⟩
   rw [this]; rfl
  by_cases hb : b.toNat < 128
  ·obtain ⟨rfl, rfl⟩ := ha hb
   have h : St w0 (ItS r s (pos + 1) :: E) w' := h
   refine z1k (fun z w => (0 < pos + 1 → (l.head?.map letterB).getD false = true) ∧ signB b = true ∧ St w0 (ItS r s (pos + 1) :: E) w) (fun k5 hk5 => ?_) (fun z w ⟨hhd, hs, h⟩ => ?_)
   ·refine zkX ?_
    rw [zjF]
    refine it (fun hs => ?_) (fun hs => ?_)
    ·exact no (hno (by simpa using hs)) (dl0_ h)
    ·have hs : signB b = true := by simpa using hs
     refine it (fun h0 => ?_) (fun h0 => ?_)
     ·have h0 : pos = 0 := by simpa using h0
      subst h0
      have hhead : l.head? = some b := by rw [List.head?_eq_getElem?]; exact hx
      have el : decide (97 ≤ (b.toNat : Int) ∧ (b.toNat : Int) ≤ 122) = letterB b := by unfold letterB; apply decide_eq_decide.2; omega
      refine zgY ?_
      rw [el]
      refine it (fun hlt => ?_) (fun hlt => ?_)
      ·refine no ?_ (dl0_ h)
       have hlt : letterB b = false := by simpa using hlt
       unfold shortB; rw [hhead]; simp [hlt]
      ·have hlt : letterB b = true := by simpa using hlt
       exact hk5 _ _ ⟨fun _ => by rw [hhead]; exact hlt, hs, h⟩
     ·have h0 : pos ≠ 0 := by simpa using h0
      exact hk5 _ _ ⟨fun _ => hhd (by omega), hs, h⟩
   ·refine hag (q - 1) _ w (by omega) ⟨pos + 1, ?_, by omega, ?_, hhd, h⟩
    ·rw [if_neg (by omega), Nat.add_sub_cancel, hx]; rfl
    ·rw [List.take_add_one, hx, List.all_append, hall]; simp [hs]
  ·have hc := hh (by omega)
   have hs : signB b = false := by
    unfold signB letterB
    rw [decide_eq_false (show ¬ (97 ≤ b.toNat ∧ b.toNat ≤ 122) by omega), decide_eq_false (show ¬ (48 ≤ b.toNat ∧ b.toNat ≤ 57) by omega), decide_eq_false (show ¬ b.toNat = 45 by omega)]; rfl
   refine z1k (fun z w => False) (fun k5 hk5 => ?_) (fun z w hf => hf.elim)
   refine zkX ?_
   rw [decide_eq_false (show ¬ (97 ≤ c ∧ c ≤ 122) by omega), decide_eq_false (show ¬ (48 ≤ c ∧ c ≤ 57) by omega), decide_eq_false (show ¬ c = 45 by omega)]
   exact itT rfl (no (hno hs) (dl0_ h))
theorem zf3 (h : St w0 E w) (und : Pr.underlying z01 = some .string) {s : ByteArray} {k : Bool → PT} (hk : ∀ w', St w0 E w' → k (shortB s.data.toList 16) w') : L.call Pr z3j [.string s] (.one (.one .bool)) k w := by
 refine z00 (zfh _) ?_
 unfold zba
 exact zjh h und fun w h => ⟨_, rfl, hk w h⟩
end Go.Proofs.YtkmalcoocklikaaGreatDoor

namespace Go.Proofs
open Go.Shelf
def Tryz.lays172_ren : Go.Shelf.Ren := ⟨fun | 172 => 202 | 244 => 255 | 245 => 256 | 247 => 286 | 279 => 287 | 280 => 288 | 281 => 289 | 282 => 290 | 287 => 307 | 316 => 308 | 171 => 73 | 205 => 309 | 321 => 318 | 322 => 319 | 243 => 134 | 246 => 207 | 283 => 258 | 284 => 259 | 285 => 260 | 286 => 261 | 129 => 246 | 317 => 291 | 318 => 292 | 319 => 293 | 320 => 294 | 337 => 310 | 338 => 311 | n => n, fun | 9 => 9 | 3 => 3 | 75 => 245 | 76 => 246 | 4 => 4 | 5 => 5 | 167 => 432 | 37 => 85 | 0 => 0 | 85 => 433 | 2 => 2 | 168 => 435 | 53 => 398 | 175 => 450 | 46 => 331 | 210 => 454 | 127 => 366 | 145 => 463 | 143 => 461 | 21 => 21 | 171 => 404 | 173 => 406 | 212 => 440 | 51 => 396 | 20 => 20 | 213 => 441 | 232 => 464 | 233 => 465 | 80 => 73 | n => n, fun | 15 => 2 | 16 => 3 | 17 => 1 | 18 => 4 | 19 => 5 | n => n⟩
theorem Tryz.lays172 : Go.Proofs.Lays.n172 Tryz.prog Tryz.lays172_ren := {
 mixed := by kernel_rfl
 f129 := Tryz.func246.trans (congrArg some (by kernel_rfl))
 f171 := Tryz.func73.trans (congrArg some (by kernel_rfl))
 f172 := Tryz.func202.trans (congrArg some (by kernel_rfl))
 f205 := Tryz.func309.trans (congrArg some (by kernel_rfl))
 f243 := Tryz.func134.trans (congrArg some (by kernel_rfl))
 f244 := Tryz.func255.trans (congrArg some (by kernel_rfl))
 f245 := Tryz.func256.trans (congrArg some (by kernel_rfl))
 f246 := Tryz.func207.trans (congrArg some (by kernel_rfl))
 f247 := Tryz.func286.trans (congrArg some (by kernel_rfl))
 f279 := Tryz.func287.trans (congrArg some (by kernel_rfl))
 f280 := Tryz.func288.trans (congrArg some (by kernel_rfl))
 f281 := Tryz.func289.trans (congrArg some (by kernel_rfl))
 f282 := Tryz.func290.trans (congrArg some (by kernel_rfl))
 f283 := Tryz.func258.trans (congrArg some (by kernel_rfl))
 f284 := Tryz.func259.trans (congrArg some (by kernel_rfl))
 f285 := Tryz.func260.trans (congrArg some (by kernel_rfl))
 f286 := Tryz.func261.trans (congrArg some (by kernel_rfl))
 f287 := Tryz.func307.trans (congrArg some (by kernel_rfl))
 f316 := Tryz.func308.trans (congrArg some (by kernel_rfl))
 f317 := Tryz.func291.trans (congrArg some (by kernel_rfl))
 f318 := Tryz.func292.trans (congrArg some (by kernel_rfl))
 f319 := Tryz.func293.trans (congrArg some (by kernel_rfl))
 f320 := Tryz.func294.trans (congrArg some (by kernel_rfl))
 f321 := Tryz.func318.trans (congrArg some (by kernel_rfl))
 f322 := Tryz.func319.trans (congrArg some (by kernel_rfl))
 f337 := Tryz.func310.trans (congrArg some (by kernel_rfl))
 f338 := Tryz.func311.trans (congrArg some (by kernel_rfl))
 t0 := Tryz.underlying0
 a0 := Tryz.isAgg0
 z0 := Tryz.sizeOf0
 v0 := Tryz.zeroValue0
 t2 := Tryz.underlying2
 a2 := Tryz.isAgg2
 z2 := Tryz.sizeOf2
 v2 := Tryz.zeroValue2
 t3 := Tryz.underlying3
 a3 := Tryz.isAgg3
 z3 := Tryz.sizeOf3
 v3 := Tryz.zeroValue3
 t4 := Tryz.underlying4
 a4 := Tryz.isAgg4
 z4 := Tryz.sizeOf4
 v4 := Tryz.zeroValue4
 t5 := Tryz.underlying5
 a5 := Tryz.isAgg5
 z5 := Tryz.sizeOf5
 v5 := Tryz.zeroValue5
 t9 := Tryz.underlying9
 a9 := Tryz.isAgg9
 z9 := Tryz.sizeOf9
 v9 := Tryz.zeroValue9
 t20 := Tryz.underlying20
 a20 := Tryz.isAgg20
 z20 := Tryz.sizeOf20
 v20 := Tryz.zeroValue20
 t21 := Tryz.underlying21
 a21 := Tryz.isAgg21
 z21 := Tryz.sizeOf21
 v21 := Tryz.zeroValue21
 t37 := Tryz.underlying85
 a37 := Tryz.isAgg85
 z37 := Tryz.sizeOf85
 v37 := Tryz.zeroValue85
 t46 := Tryz.underlying331
 a46 := Tryz.isAgg331
 z46 := Tryz.sizeOf331
 v46 := Tryz.zeroValue331
 t51 := Tryz.underlying396
 a51 := Tryz.isAgg396
 z51 := Tryz.sizeOf396
 v51 := Tryz.zeroValue396
 t53 := Tryz.underlying398
 a53 := Tryz.isAgg398
 z53 := Tryz.sizeOf398
 v53 := Tryz.zeroValue398
 t75 := Tryz.underlying245
 a75 := Tryz.isAgg245
 z75 := Tryz.sizeOf245
 v75 := Tryz.zeroValue245
 t76 := Tryz.underlying246
 a76 := Tryz.isAgg246
 z76 := Tryz.sizeOf246
 v76 := Tryz.zeroValue246
 t85 := Tryz.underlying433
 a85 := Tryz.isAgg433
 z85 := Tryz.sizeOf433
 v85 := Tryz.zeroValue433
 t127 := Tryz.underlying366
 a127 := Tryz.isAgg366
 z127 := Tryz.sizeOf366
 v127 := Tryz.zeroValue366
 t143 := Tryz.underlying461
 a143 := Tryz.isAgg461
 z143 := Tryz.sizeOf461
 v143 := Tryz.zeroValue461
 t145 := Tryz.underlying463
 a145 := Tryz.isAgg463
 z145 := Tryz.sizeOf463
 v145 := Tryz.zeroValue463
 t167 := Tryz.underlying432
 a167 := Tryz.isAgg432
 z167 := Tryz.sizeOf432
 v167 := Tryz.zeroValue432
 t168 := Tryz.underlying435
 a168 := Tryz.isAgg435
 z168 := Tryz.sizeOf435
 v168 := Tryz.zeroValue435
 t171 := Tryz.underlying404
 a171 := Tryz.isAgg404
 z171 := Tryz.sizeOf404
 v171 := Tryz.zeroValue404
 t173 := Tryz.underlying406
 a173 := Tryz.isAgg406
 z173 := Tryz.sizeOf406
 v173 := Tryz.zeroValue406
 t175 := Tryz.underlying450
 a175 := Tryz.isAgg450
 z175 := Tryz.sizeOf450
 v175 := Tryz.zeroValue450
 t210 := Tryz.underlying454
 a210 := Tryz.isAgg454
 z210 := Tryz.sizeOf454
 v210 := Tryz.zeroValue454
 t212 := Tryz.underlying440
 a212 := Tryz.isAgg440
 z212 := Tryz.sizeOf440
 v212 := Tryz.zeroValue440
 t213 := Tryz.underlying441
 a213 := Tryz.isAgg441
 z213 := Tryz.sizeOf441
 t232 := Tryz.underlying464
 a232 := Tryz.isAgg464
 z232 := Tryz.sizeOf464
 v232 := Tryz.zeroValue464
 t233 := Tryz.underlying465
 a233 := Tryz.isAgg465
 z233 := Tryz.sizeOf465
 v233 := Tryz.zeroValue465
 g15 := by kernel_rfl
 g16 := by kernel_rfl
 g17 := by kernel_rfl
 g18 := by kernel_rfl
 g19 := by kernel_rfl }
open Go.RowKit in
theorem Tryz.strconv_Atoi (s : ByteArray) (n : Int) (hl : s.size ≤ 18) (h : Lib.atoi s.data.toList = some n) (w : World) :
  Calls Tryz.prog 202 #[.string s] w fun e w' => e = .returned (.tuple #[.int .i64 n, .nilIface]) ∧ ∃ t, w' = Lib.bytesWorld w 5 t := Any.strconv_Atoi Tryz.lays172 s n hl h w
def Tryz.lays171_ren : Go.Shelf.Ren := ⟨fun | 171 => 73 | 243 => 134 | 246 => 207 | 283 => 258 | 284 => 259 | 285 => 260 | 286 => 261 | 129 => 246 | 317 => 291 | 318 => 292 | 319 => 293 | 320 => 294 | 337 => 310 | 338 => 311 | n => n, fun | 3 => 3 | 9 => 9 | 2 => 2 | 4 => 4 | 171 => 404 | 0 => 0 | 53 => 398 | 37 => 85 | 5 => 5 | 173 => 406 | 212 => 440 | 51 => 396 | 20 => 20 | 213 => 441 | 46 => 331 | 232 => 464 | 233 => 465 | n => n, fun | 17 => 1 | 18 => 4 | 19 => 5 | n => n⟩
theorem Tryz.lays171 : Go.Proofs.Lays.n171 Tryz.prog Tryz.lays171_ren := {
 mixed := by kernel_rfl
 f129 := Tryz.func246.trans (congrArg some (by kernel_rfl))
 f171 := Tryz.func73.trans (congrArg some (by kernel_rfl))
 f243 := Tryz.func134.trans (congrArg some (by kernel_rfl))
 f246 := Tryz.func207.trans (congrArg some (by kernel_rfl))
 f283 := Tryz.func258.trans (congrArg some (by kernel_rfl))
 f284 := Tryz.func259.trans (congrArg some (by kernel_rfl))
 f285 := Tryz.func260.trans (congrArg some (by kernel_rfl))
 f286 := Tryz.func261.trans (congrArg some (by kernel_rfl))
 f317 := Tryz.func291.trans (congrArg some (by kernel_rfl))
 f318 := Tryz.func292.trans (congrArg some (by kernel_rfl))
 f319 := Tryz.func293.trans (congrArg some (by kernel_rfl))
 f320 := Tryz.func294.trans (congrArg some (by kernel_rfl))
 f337 := Tryz.func310.trans (congrArg some (by kernel_rfl))
 f338 := Tryz.func311.trans (congrArg some (by kernel_rfl))
 t0 := Tryz.underlying0
 a0 := Tryz.isAgg0
 z0 := Tryz.sizeOf0
 v0 := Tryz.zeroValue0
 t2 := Tryz.underlying2
 a2 := Tryz.isAgg2
 z2 := Tryz.sizeOf2
 v2 := Tryz.zeroValue2
 t3 := Tryz.underlying3
 a3 := Tryz.isAgg3
 z3 := Tryz.sizeOf3
 v3 := Tryz.zeroValue3
 t4 := Tryz.underlying4
 a4 := Tryz.isAgg4
 z4 := Tryz.sizeOf4
 v4 := Tryz.zeroValue4
 t5 := Tryz.underlying5
 a5 := Tryz.isAgg5
 z5 := Tryz.sizeOf5
 v5 := Tryz.zeroValue5
 t9 := Tryz.underlying9
 a9 := Tryz.isAgg9
 z9 := Tryz.sizeOf9
 v9 := Tryz.zeroValue9
 t20 := Tryz.underlying20
 a20 := Tryz.isAgg20
 z20 := Tryz.sizeOf20
 v20 := Tryz.zeroValue20
 t37 := Tryz.underlying85
 a37 := Tryz.isAgg85
 z37 := Tryz.sizeOf85
 v37 := Tryz.zeroValue85
 t46 := Tryz.underlying331
 a46 := Tryz.isAgg331
 z46 := Tryz.sizeOf331
 v46 := Tryz.zeroValue331
 t51 := Tryz.underlying396
 a51 := Tryz.isAgg396
 z51 := Tryz.sizeOf396
 v51 := Tryz.zeroValue396
 t53 := Tryz.underlying398
 a53 := Tryz.isAgg398
 z53 := Tryz.sizeOf398
 v53 := Tryz.zeroValue398
 t171 := Tryz.underlying404
 a171 := Tryz.isAgg404
 z171 := Tryz.sizeOf404
 v171 := Tryz.zeroValue404
 t173 := Tryz.underlying406
 a173 := Tryz.isAgg406
 z173 := Tryz.sizeOf406
 v173 := Tryz.zeroValue406
 t212 := Tryz.underlying440
 a212 := Tryz.isAgg440
 z212 := Tryz.sizeOf440
 v212 := Tryz.zeroValue440
 t213 := Tryz.underlying441
 a213 := Tryz.isAgg441
 z213 := Tryz.sizeOf441
 t232 := Tryz.underlying464
 a232 := Tryz.isAgg464
 z232 := Tryz.sizeOf464
 v232 := Tryz.zeroValue464
 t233 := Tryz.underlying465
 a233 := Tryz.isAgg465
 z233 := Tryz.sizeOf465
 v233 := Tryz.zeroValue465
 g17 := by kernel_rfl
 g18 := by kernel_rfl
 g19 := by kernel_rfl }
open Go.RowKit Go.Sort Go.Lib in
theorem Tryz.strconv_Itoa_small (i : Nat) (hi : i < 100) (w : World) :
  Calls Tryz.prog 73 #[.int .i64 i] w fun e w' => e = .returned (.string ⟨(Lib.decDigits i).toArray⟩) ∧ w' = w := Any.strconv_Itoa_small Tryz.lays171 i hi w
def Tryz.lays148_ren : Go.Shelf.Ren := ⟨fun | 148 => 201 | 222 => 253 | 223 => 254 | 269 => 285 | n => n, fun | 9 => 9 | 3 => 3 | 4 => 4 | 5 => 5 | 146 => 430 | 51 => 396 | 46 => 331 | n => n, fun | n => n⟩
theorem Tryz.lays148 : Go.Proofs.Lays.n148 Tryz.prog Tryz.lays148_ren := {
 mixed := by kernel_rfl
 f148 := Tryz.func201.trans (congrArg some (by kernel_rfl))
 f222 := Tryz.func253.trans (congrArg some (by kernel_rfl))
 f223 := Tryz.func254.trans (congrArg some (by kernel_rfl))
 f269 := Tryz.func285.trans (congrArg some (by kernel_rfl))
 t3 := Tryz.underlying3
 a3 := Tryz.isAgg3
 z3 := Tryz.sizeOf3
 v3 := Tryz.zeroValue3
 t4 := Tryz.underlying4
 a4 := Tryz.isAgg4
 z4 := Tryz.sizeOf4
 v4 := Tryz.zeroValue4
 t5 := Tryz.underlying5
 a5 := Tryz.isAgg5
 z5 := Tryz.sizeOf5
 v5 := Tryz.zeroValue5
 t9 := Tryz.underlying9
 a9 := Tryz.isAgg9
 z9 := Tryz.sizeOf9
 v9 := Tryz.zeroValue9
 t46 := Tryz.underlying331
 a46 := Tryz.isAgg331
 z46 := Tryz.sizeOf331
 v46 := Tryz.zeroValue331
 t51 := Tryz.underlying396
 a51 := Tryz.isAgg396
 z51 := Tryz.sizeOf396
 v51 := Tryz.zeroValue396
 t146 := Tryz.underlying430
 a146 := Tryz.isAgg430
 z146 := Tryz.sizeOf430
 v146 := Tryz.zeroValue430 }
open Go.RowKit Go.Lib in
theorem Tryz.strings_LastIndex_one (s sub : ByteArray) (h1 : sub.size = 1) (hs : s.size < 4611686018427387904) (w : World) :
  Calls Tryz.prog 201 #[.string s, .string sub] w fun e w' => e = .returned (.int .i64 (Lib.lastIndexByte s ((sub[0]'(by omega)).toNat : Int))) ∧ w' = w := Any.strings_LastIndex_one Tryz.lays148 s sub h1 hs w
end Go.Proofs
namespace Go.Proofs.YtkmalcoocklikaaGreatDoor
open Go.Dm
theorem z8z {P : Program} {f : FuncId} {args : List Value} {r : RT} {k : r.T → PT} {w : World} {R : Ending → World → Prop} (hc : Calls P f args.toArray w R) (hk : ∀ e w', R e w' → ∃ x, e = .returned (r.val x) ∧ k x w') : L.call P f args r k w := Calls.mono hc hk
theorem _root_.Go.Dm.St.bytes {w0 w : World} {E : List Seg} (h : St w0 E w) (e : TypeId) (s : ByteArray) : St w0 E (Lib.bytesWorld w e s) := by
 refine ⟨by rw [Lib.bytesWorld_size]; have := h.size; omega, fun b hb => ?_, h.os, h.out, h.tape, fun x hx => ?_, h.nd, fun _ _ _ _ => rfl⟩
 ·rw [Lib.bytesWorld_at_old w e s b (Nat.lt_of_lt_of_le hb h.size)]; exact h.old b hb
 ·have := h.own x hx
  rw [Lib.bytesWorld_at_old w e s _ (Array.getElem?_eq_some_iff.1 this.2).1]; exact this
attribute [local irreducible] L.load L.store L.chk L.new L.nonnil L.guard L.ite L.draw L.idx L.sem L.semR L.semU L.chkSem L.next L.call L.callV L.join L.alts L.loop L.begin L.endRound L.range
variable {w0 w : World} {E : List Seg}
def decB (g : Nat) : ByteArray := ⟨(Lib.decDigits g).toArray⟩
def revB (c : ByteArray) (g : Nat) : ByteArray := (c ++ s__) ++ decB g
theorem z7Q (c : ByteArray) (g : Nat) : (revB c g).data.toList = c.data.toList ++ 45 :: Lib.decDigits g := by
 simp [revB, decB, s__, ByteArray.data_append]
theorem zeV {a b : ByteArray} (h : a.data.toList = b.data.toList) : a = b := ByteArray.ext (Array.toList_inj.1 h)
theorem data_extract (a : ByteArray) (i j : Nat) : (a.extract i j).data.toList = (a.data.toList.drop i).take (j - i) := by
 simp [ByteArray.data_extract, Array.toList_extract, List.extract]
theorem z3c (a : ByteArray) : a.data.toList.length = a.size := by simp
def decL (g : Nat) : List UInt8 := if g < 10 then [UInt8.ofNat (48 + g)] else [UInt8.ofNat (48 + g / 10), UInt8.ofNat (48 + g % 10)]
theorem zmN {g : Nat} (h : g < 100) : Lib.decDigits g = decL g := by
 unfold decL
 split
 ·rename_i h1; exact Lib.decDigits_one h1
 ·rename_i h1; exact Lib.decDigits_two h1 h
theorem zj4 : ∀ g : Fin 100, (∀ b ∈ decL g, 48 ≤ b.toNat ∧ b.toNat ≤ 57) ∧ (decL g).length ≤ 2 ∧ 1 ≤ (decL g).length ∧ Lib.atoi (decL g) = some (g : Int) := by decide
theorem zj3 {g : Nat} (h : g < 100) : (∀ b ∈ Lib.decDigits g, 48 ≤ b.toNat ∧ b.toNat ≤ 57) ∧ (Lib.decDigits g).length ≤ 2 ∧ 1 ≤ (Lib.decDigits g).length ∧ Lib.atoi (Lib.decDigits g) = some (g : Int) := by
 rw [zmN h]; exact zj4 ⟨g, h⟩
theorem zk2 (c : ByteArray) {g : Nat} (hg : g < 100) : Lib.lastIndexByte (revB c g) 45 = c.size := by
 have hd := z7Q c g
 have hc := z3c c
 have hs := z3c (revB c g)
 rw [hd] at hs
 simp only [List.length_append, List.length_cons] at hs
 have at0 : (revB c g).data[c.size]! = 45 := by
  rw [← Array.getElem!_toList, hd, ← hc]
  simp
 have far : ∀ i, c.size < i → i < (revB c g).size → ((revB c g).data[i]!).toNat ≠ 45 := by
  intro i h1 h2
  rw [← Array.getElem!_toList, hd]
  have hmem : (c.data.toList ++ 45 :: Lib.decDigits g)[i]! ∈ Lib.decDigits g := by
   rw [List.getElem!_eq_getElem?_getD, List.getElem?_append_right (by omega), hc]
   obtain ⟨m, hm⟩ : ∃ m, i - c.size = m + 1 := ⟨i - c.size - 1, by omega⟩
   rw [hm, List.getElem?_cons_succ, List.getElem?_eq_getElem (by omega)]
   simp
  have := (zj3 hg).1 _ hmem
  omega
 rcases Lib.lastIdx_spec (revB c g) 45 (revB c g).size with ⟨-, h⟩ | ⟨i, h1, h2, h3, h4⟩
 ·exact absurd (by rw [at0]; rfl) (h c.size (by omega))
 ·show Lib.lastIdx _ _ _ = _
  rw [h2]
  have : ¬ c.size < i := fun hlt => far i hlt h1 (by omega)
  have : ¬ i < c.size := fun hlt => h4 c.size hlt (by omega) (by rw [at0]; rfl)
  omega
theorem ziu (c : ByteArray) (g : Nat) : (revB c g).extract 0 c.size = c := zeV (by rw [data_extract, z7Q, ← z3c c]; simp)
theorem zkp (l d : List UInt8) : (l ++ 45 :: d).drop (l.length + 1) = d := by
 rw [show l ++ 45 :: d = (l ++ [45]) ++ d by simp]
 exact List.drop_left' (by simp)
theorem zjK (c : ByteArray) (g : Nat) : (revB c g).extract (c.size + 1) (revB c g).size = decB g := zeV (by
 rw [data_extract, z7Q, ← z3c c, zkp, ← z3c (revB c g), z7Q]
 refine List.take_of_length_le ?_
 simp only [List.length_append, List.length_cons]
 omega)
theorem z8s (c : ByteArray) {g : Nat} (hg : g < 100) : (revB c g).size ≤ c.size + 3 ∧ c.size + 2 ≤ (revB c g).size := by
 have hs := z3c (revB c g)
 rw [z7Q] at hs
 simp only [List.length_append, List.length_cons, z3c] at hs
 have := zj3 hg
 omega
theorem z8p {s : ByteArray} {m : Int} (h : shortB s.data.toList m = true) : (s.size : Int) ≤ m := by
 unfold shortB at h
 simp only [Bool.and_eq_true, decide_eq_true_eq, z3c] at h
 exact h.2
theorem zci {s : ByteArray} (hs : s.size < 4611686018427387904) {k : Int → PT} (hk : k (Lib.lastIndexByte s 45) w) : L.call Pr z5z [.string s, .string s__] (.one (.one (.int .i64))) k w :=
 z8z (Tryz.strings_LastIndex_one s s__ rfl hs w) fun e w' ⟨he, hw⟩ => ⟨_, he, by subst hw; exact hk⟩
theorem znl {g : Nat} (hg : g < 100) {k : ByteArray → PT} (hk : k (decB g) w) : L.call Pr z3L [I g] (.one (.one .str)) k w :=
 z8z (Tryz.strconv_Itoa_small g hg w) fun e w' ⟨he, hw⟩ => ⟨_, he, by subst hw; exact hk⟩
theorem znm (h : St w0 E w) {g : Nat} (hg : g < 100) {k : Int × Option (TypeId × Value) × Unit → PT} (hk : ∀ w', St w0 E w' → k ((g : Int), none, ()) w') : L.call Pr z8R [.string (decB g)] (.tup [.one (.int .i64), .one .iface]) k w := by
 have hf := zj3 hg
 have hsz : (decB g).size ≤ 18 := by rw [← z3c]; simp only [decB]; omega
 refine z8z (Tryz.strconv_Atoi (decB g) g hsz (by simpa [decB] using hf.2.2.2) w) fun e w' ⟨he, t, hw⟩ => ⟨((g : Int), none, ()), he, hk w' ?_⟩
 subst hw
 exact h.bytes 5 t
theorem znh (h : St w0 E w) (und : Pr.underlying z01 = some .string) {s : ByteArray} {k : Bool → PT} (hk : ∀ w', St w0 E w' → k (shortB s.data.toList 8) w') : L.call Pr z2C [.string s] (.one (.one .bool)) k w := by
 refine z00 (zg9 _) ?_
 unfold zcl
 exact zjh h und fun w h => ⟨_, rfl, hk w h⟩
theorem zni (h : St w0 E w) (und : Pr.underlying z01 = some .string) {c : ByteArray} {g : Nat} (hc : shortB c.data.toList 16 = true) (h1 : 1 ≤ g) (hg : g < 100) {k : ByteArray → PT} (hk : ∀ w', St w0 E w' → k (revB c g) w') : L.call Pr z6Q [.string c, I g] (.one (.one .str)) k w := by
 refine z00 (zga _ _) ?_
 unfold zcm
 refine zf3 h und fun w h => ?_
 rw [hc]
 have hs := z8p hc
 have hr := z8s c hg
 refine itF rfl (itF (decide_eq_false (by omega)) (itF (decide_eq_false (by omega)) ?_))
 refine gd ?_ ?_
 ·simp only [s__, maxI64]; show ((c.size + 1 : Nat) : Int) ≤ _; omega
 refine znl hg ?_
 refine gd ?_ ⟨_, rfl, hk w h⟩
 have : ((c ++ s__).size + (decB g).size) = (revB c g).size := by unfold revB; rw [ByteArray.size_append (a := c ++ s__)]
 rw [this]
 simp only [maxI64]; omega
theorem zg6 (h : St w0 E w) (und : Pr.underlying z01 = some .string) {c : ByteArray} {g : Nat} (hc : shortB c.data.toList 16 = true) (h1 : 1 ≤ g) (hg : g < 100) {k : ByteArray × Int × Bool × Unit → PT} (hk : ∀ w', St w0 E w' → k (c, (g : Int), true, ()) w') :
  L.call Pr z3t [.string (revB c g)] (.tup [.one .str, .one (.int .i64), .one .bool]) k w := by
 refine z00 (zaf _) ?_
 unfold z6X
 have hs := z8p hc
 have hr := z8s c hg
 refine zci (by omega) ?_
 rw [zk2 c hg]
 have e1 : IntKind.wrap .i64 ((c.size : Int) + 1) = ((c.size + 1 : Nat) : Int) := by rw [wr (by omega) (by omega)]; simp
 rw [e1]
 refine itF (decide_eq_false (by omega)) (gd (by omega) ?_)
 rw [Int.toNat_natCast, Int.toNat_natCast, zjK]
 refine znm h hg fun w h => itF rfl (gd (by omega) ?_)
 have e2 : (revB c g).extract (Int.toNat 0) (Int.toNat (c.size : Int)) = c := ziu c g
 rw [e2]
 refine zni h und hc h1 hg fun w h => ?_
 refine itF (by rw [z7d]; simp) (gd (by omega) ⟨(c, (g : Int), true, ()), rfl, hk w h⟩)
theorem zkE {k : ByteArray × Int × Bool × Unit → PT} (hk : k (s_, 0, false, ()) w) : L.call Pr z3t [.string s_] (.tup [.one .str, .one (.int .i64), .one .bool]) k w := by
 refine z00 (zaf _) ?_
 unfold z6X
 refine zci (by decide) ?_
 exact itT rfl ⟨_, rfl, hk⟩
end Go.Proofs.YtkmalcoocklikaaGreatDoor

namespace Go.Proofs
open Go.Shelf
def Tryz.lays190_ren : Go.Shelf.Ren := ⟨fun | 190 => 251 | 125 => 185 | 258 => 284 | 128 => 245 | 129 => 246 | 302 => 298 | 303 => 299 | 304 => 300 | 305 => 301 | 306 => 302 | 307 => 303 | 308 => 304 | 309 => 305 | 310 => 306 | 333 => 314 | 329 => 277 | 330 => 278 | 334 => 315 | 335 => 316 | 336 => 317 | 344 => 321 | n => n, fun | 31 => 33 | 9 => 9 | 3 => 3 | 46 => 331 | 0 => 0 | 51 => 396 | 53 => 398 | 4 => 4 | 183 => 390 | 182 => 389 | 131 => 273 | 5 => 5 | 218 => 421 | 222 => 425 | 228 => 443 | 229 => 46 | n => n, fun | n => n⟩
theorem Tryz.lays190 : Go.Proofs.Lays.n190 Tryz.prog Tryz.lays190_ren := {
 mixed := by kernel_rfl
 f125 := Tryz.func185.trans (congrArg some (by kernel_rfl))
 f128 := Tryz.func245.trans (congrArg some (by kernel_rfl))
 f129 := Tryz.func246.trans (congrArg some (by kernel_rfl))
 f190 := Tryz.func251.trans (congrArg some (by kernel_rfl))
 f258 := Tryz.func284.trans (congrArg some (by kernel_rfl))
 f302 := Tryz.func298.trans (congrArg some (by kernel_rfl))
 f303 := Tryz.func299.trans (congrArg some (by kernel_rfl))
 f304 := Tryz.func300.trans (congrArg some (by kernel_rfl))
 f305 := Tryz.func301.trans (congrArg some (by kernel_rfl))
 f306 := Tryz.func302.trans (congrArg some (by kernel_rfl))
 f307 := Tryz.func303.trans (congrArg some (by kernel_rfl))
 f308 := Tryz.func304.trans (congrArg some (by kernel_rfl))
 f309 := Tryz.func305.trans (congrArg some (by kernel_rfl))
 f310 := Tryz.func306.trans (congrArg some (by kernel_rfl))
 f329 := Tryz.func277.trans (congrArg some (by kernel_rfl))
 f330 := Tryz.func278.trans (congrArg some (by kernel_rfl))
 f333 := Tryz.func314.trans (congrArg some (by kernel_rfl))
 f334 := Tryz.func315.trans (congrArg some (by kernel_rfl))
 f335 := Tryz.func316.trans (congrArg some (by kernel_rfl))
 f336 := Tryz.func317.trans (congrArg some (by kernel_rfl))
 f344 := Tryz.func321.trans (congrArg some (by kernel_rfl))
 t0 := Tryz.underlying0
 a0 := Tryz.isAgg0
 z0 := Tryz.sizeOf0
 v0 := Tryz.zeroValue0
 t3 := Tryz.underlying3
 a3 := Tryz.isAgg3
 z3 := Tryz.sizeOf3
 v3 := Tryz.zeroValue3
 t4 := Tryz.underlying4
 a4 := Tryz.isAgg4
 z4 := Tryz.sizeOf4
 v4 := Tryz.zeroValue4
 t5 := Tryz.underlying5
 a5 := Tryz.isAgg5
 z5 := Tryz.sizeOf5
 v5 := Tryz.zeroValue5
 t9 := Tryz.underlying9
 a9 := Tryz.isAgg9
 z9 := Tryz.sizeOf9
 v9 := Tryz.zeroValue9
 t31 := Tryz.underlying33
 a31 := Tryz.isAgg33
 z31 := Tryz.sizeOf33
 v31 := Tryz.zeroValue33
 t46 := Tryz.underlying331
 a46 := Tryz.isAgg331
 z46 := Tryz.sizeOf331
 v46 := Tryz.zeroValue331
 t51 := Tryz.underlying396
 a51 := Tryz.isAgg396
 z51 := Tryz.sizeOf396
 v51 := Tryz.zeroValue396
 t53 := Tryz.underlying398
 a53 := Tryz.isAgg398
 z53 := Tryz.sizeOf398
 v53 := Tryz.zeroValue398
 t131 := Tryz.underlying273
 a131 := Tryz.isAgg273
 z131 := Tryz.sizeOf273
 v131 := Tryz.zeroValue273
 t182 := Tryz.underlying389
 a182 := Tryz.isAgg389
 z182 := Tryz.sizeOf389
 v182 := Tryz.zeroValue389
 t183 := Tryz.underlying390
 a183 := Tryz.isAgg390
 z183 := Tryz.sizeOf390
 v183 := Tryz.zeroValue390
 t218 := Tryz.underlying421
 a218 := Tryz.isAgg421
 z218 := Tryz.sizeOf421
 v218 := Tryz.zeroValue421
 t222 := Tryz.underlying425
 a222 := Tryz.isAgg425
 z222 := Tryz.sizeOf425
 v222 := Tryz.zeroValue425
 t228 := Tryz.underlying443
 a228 := Tryz.isAgg443
 z228 := Tryz.sizeOf443
 v228 := Tryz.zeroValue443
 t229 := Tryz.underlying46
 a229 := Tryz.isAgg46
 z229 := Tryz.sizeOf46
 v229 := Tryz.zeroValue46 }
end Go.Proofs
namespace Go.Proofs.YtkmalcoocklikaaGreatDoor
open Go.Dm
attribute [local irreducible] L.load L.store L.chk L.new L.nonnil L.guard L.ite L.draw L.idx L.sem L.semR L.semU L.chkSem L.next L.call L.callV L.join L.alts L.loop L.begin L.endRound L.range
variable {w0 w : World} {E : List Seg}
def eS (x : ByteArray) : List Value := [.string x]
theorem encS : Enc eS 1 := ⟨fun _ => rfl, fun _ => rfl, by decide⟩
theorem elS : El Pr z05 z01 1 16 (.string s_) := zfV (by kernel_rfl) (by kernel_rfl) rfl (by decide)
abbrev bl (x : ByteArray) : List UInt8 := x.data.toList
def ble (a b : ByteArray) : Bool := decide (bl a ≤ bl b)
theorem zeW (a b c : ByteArray) (h1 : ble a b = true) (h2 : ble b c = true) : ble a c = true := by
 unfold ble at *; simp only [decide_eq_true_eq] at *; exact List.le_trans h1 h2
theorem zeX (a b : ByteArray) : (ble a b || ble b a) = true := by
 unfold ble; simp only [Bool.or_eq_true, decide_eq_true_eq]; exact List.le_total ..
theorem zkr {a b : ByteArray} (h1 : ble a b = true) (h2 : ble b a = true) : a = b := by
 unfold ble at *; simp only [decide_eq_true_eq] at *; exact zid (List.le_antisymm h1 h2)
def sins (x : ByteArray) : List ByteArray → List ByteArray
 | [] => [x]
 | y :: l => if ble x y = true then x :: y :: l else y :: sins x l
def ssort : List ByteArray → List ByteArray
 | [] => []
 | x :: l => sins x (ssort l)
theorem zbR (x : ByteArray) : ∀ l : List ByteArray, (sins x l).Perm (x :: l)
 | [] => .refl _
 | y :: l => by
  unfold sins
  split
  ·exact .refl _
  ·exact ((zbR x l).cons y).trans (.swap x y l)
theorem z5t : ∀ l : List ByteArray, (ssort l).Perm l
 | [] => .refl _
 | x :: l => (zbR x (ssort l)).trans ((z5t l).cons x)
theorem zig (x : ByteArray) : ∀ {l : List ByteArray}, l.Pairwise (fun a b => ble a b = true) → (sins x l).Pairwise fun a b => ble a b = true
 | [], _ => List.pairwise_singleton ..
 | y :: l, h => by
  unfold sins
  split
  ·rename_i hxy
   refine List.Pairwise.cons (fun z hz => ?_) h
   rcases List.mem_cons.1 hz with rfl | hz
   ·exact hxy
   ·exact zeW _ _ _ hxy ((List.pairwise_cons.1 h).1 z hz)
  ·rename_i hxy
   have hyx : ble y x = true := by
    have := zeX x y
    simp only [Bool.or_eq_true] at this
    rcases this with h | h
    ·exact absurd h hxy
    ·exact h
   refine List.Pairwise.cons (fun z hz => ?_) (zig x (List.pairwise_cons.1 h).2)
   rcases List.mem_cons.1 ((zbR x l).mem_iff.1 hz) with rfl | hz
   ·exact hyx
   ·exact (List.pairwise_cons.1 h).1 z hz
theorem zdv : ∀ l : List ByteArray, (ssort l).Pairwise fun a b => ble a b = true
 | [] => .nil
 | x :: l => zig x (zdv l)
theorem zdw {l m : List ByteArray} (h : l.Perm m) (hm : m.Pairwise fun a b => ble a b = true) : ssort l = m :=
 List.Perm.eq_of_pairwise (fun a b _ _ h1 h2 => zkr h1 h2) (zdv l) hm ((z5t l).trans h)
theorem zjD {l m : List ByteArray} (h : l.Perm m) : ssort l = ssort m := zdw (h.trans (z5t m).symm) (zdv m)
theorem z6q (l : List ByteArray) : (ssort l).length = l.length := (z5t l).length_eq
theorem z9t {l : List ByteArray} {x : ByteArray} : x ∈ ssort l ↔ x ∈ l := (z5t l).mem_iff
theorem zie : ssort [] = [] := zdw (.refl _) .nil
def eL (x : List UInt8) : List Value := [Go.Proofs.encStr x]
theorem encL : Enc eL 1 := ⟨fun _ => rfl, fun _ => rfl, by decide⟩
theorem zmF (l : List ByteArray) : fl eS l = fl eL (l.map bl) := by
 induction l with
 | nil => rfl
 | cons x l ih =>
  simp only [fl, List.flatMap_cons, List.map_cons] at *
  rw [ih]; rfl
theorem zjE (l : List ByteArray) : (ssort l).map bl = (l.map bl).mergeSort fun x y => decide (x ≤ y) := by
 have e : l.mergeSort ble = ssort l := by
  refine (zdw (List.mergeSort_perm l ble).symm ?_).symm
  exact List.pairwise_mergeSort zeW zeX l
 rw [← e]
 exact List.map_mergeSort fun a _ b _ => rfl
theorem zma (h : St w0 E w) (i : Nat) {s : Seg} (hi : nth E i = some s) {v : Sl} {l : List ByteArray} (hr : Rw eS z01 1 v l s) (hn : l.length < 1000000000) {k : Unit → PT} (hk : ∀ s' w', Rw eS z01 1 v (ssort l) s' → St w0 (setN E i s') w' → k () w') :
  L.call Pr z3g [.slice v.a v.len v.cap] (.tup []) k w := by
 have hr : Rw eL z01 1 v (l.map bl) s := by unfold Rw at *; rwa [← zmF]
 refine zif (encv := Go.Proofs.encStr) (fun _ => rfl) encL ((ssort l).map bl) (by rw [List.length_map, List.length_map, z6q]) (fun g off cap w h1 h2 => ?_) (fun p cap w => Any.slices_Sort_string_none Tryz.lays190 p cap w) h i hi hr (fun s' w' hr' h => hk s' w' (by unfold Rw at *; rwa [zmF]) h)
 have := Any.slices_Sort_string Tryz.lays190 g off cap (l.map bl) w h1 h2 (by rw [List.length_map]; omega)
 rw [zjE]; exact this
theorem zf4 {a1 a2 : Seg} {F : List Seg} {fv : FV} {keys : List ByteArray} (hY : YldM Pr w0 [a1, a2] fv.val keys Value.string) (h : St w0 (a1 :: a2 :: F) w) (hn : keys.length < 1000000000) {k : Sl → PT}
  (hk : ∀ seen v s w', seen.Perm keys → Rw eS z01 1 v seen s → St w0 (s :: a1 :: a2 :: F) w' → k v w') : L.call Pr z1s [.slice none 0 0, fv.val] (.one (.one .slice)) k w := by
 refine z00 (z4w ⟨none, 0, 0⟩ fv) ?_
 unfold z2t
 refine nw h ?_; clear h; (try clear w); intro b1 w h
 have h := fr2_ (fr2_ h)
 have h : St w0 ([a1, a2] ++ [Cl b1 z05 [SlV ⟨none, 0, 0⟩]] :: [] :: F) w := h.eq (by simp)
 refine zem (l := .str) (arg := fun x => x) (A := [a1, a2]) (keys := keys) hY h (fun seen G => ∃ v s, G = [Cl b1 z05 [SlV v]] :: s :: F ∧ Rw eS z01 1 v seen s) (fun j G => False) ⟨_, _, rfl, Rw.nil⟩ ?_ ?_ ?_
 ·rintro seen x G X w lv lp d R hm ⟨v, s, rfl, hr⟩ h hN hE
  have h : St w0 ([Rec lv lp .busy none] :: [DfM d] :: a1 :: a2 :: [Cl b1 z05 [SlV v]] :: s :: (F ++ X)) w := h
  (refine ldC h ?_)
  refine nw h ?_; clear h; (try clear w); intro b8 w h
  refine Rw.app encS elS h 5 rfl hr x rfl (by omega) (by omega) fun v' s' w hr' h => ?_
  (dsimp only [setN, List.cons_append, List.nil_append] at h; refine stC h ?_; clear h; (try clear w); intro w h; dsimp only [putN, setN] at h)
  exact hN _ w ⟨v', s', rfl, hr'⟩ h
 ·rintro d seen G w hp ⟨v, s, rfl, hr⟩ h
  have h : St w0 ([DfM d] :: a1 :: a2 :: [Cl b1 z05 [SlV v]] :: s :: F) w := h
  refine jumpN ?_
  (refine ldC h ?_)
  (first | refine um0_ h ?_ | refine um1_ h ?_ | refine um2_ h ?_ | refine um3_ h ?_ | refine um4_ h ?_ | refine um5_ h ?_ | refine um6_ h ?_ | refine um7_ h ?_ | refine um8_ h ?_ | refine um9_ h ?_ | refine z93 h ?_ | refine z92 h ?_); clear h; (try clear w); intro w h
  refine ⟨v, rfl, hk seen v s w hp hr ?_⟩
  have h := fr3_ (fr1_ (fr1_ h))
  have h := dl3_ h
  exact h
 ·rintro d j G w hf; exact hf.elim
theorem z9V {a1 a2 : Seg} {F : List Seg} {fv : FV} {keys : List ByteArray} (hY : YldM Pr w0 [a1, a2] fv.val keys Value.string) (h : St w0 (a1 :: a2 :: F) w) (hn : keys.length < 1000000000) {k : Sl → PT}
  (hk : ∀ v s w', Rw eS z01 1 v (ssort keys) s → St w0 (s :: a2 :: F) w' → k v w') : L.call Pr z1t [fv.val] (.one (.one .slice)) k w := by
 refine z00 (z7x fv) ?_
 unfold z4B
 refine z00 (z74 fv) ?_
 unfold z4p
 refine zf4 hY h hn fun seen v s w hp hr h => ⟨v, rfl, ?_⟩
 refine zma h 0 rfl hr (by rw [hp.length_eq]; exact hn) fun s w hr h => ?_
 rw [zjD hp] at hr
 exact ⟨v, rfl, hk v s w hr (dl1_ h)⟩
theorem z9W (h : St w0 E w) {v : Sl} {l : List ByteArray} (r : Rd w eS v l) (hn : l.length < 1000000000) (h0 : v.a = none → l = []) {k : Sl → PT}
  (hk : ∀ v' s' w', Rw eS z01 1 v' l s' → (v'.a = none ↔ v.a = none) → St w0 (s' :: E) w' → k v' w') : L.call Pr z0I [SlV v] (.one (.one .slice)) k w := by
 refine z00 (z5p v) ?_
 unfold z36
 exact z9P (K := fun v w' => ∃ x, v = RT.val (.one (.one .slice)) x ∧ k x w') encS elS h r (by omega) (by omega) h0 fun v' s' w' hr hi h => ⟨v', rfl, hk v' s' w' hr hi h⟩
theorem Rw.nil0 {α : Type} {enc : α → List Value} {e size : Nat} {v : Sl} {l : List α} {s : Seg} (hE : Enc enc size) (hr : Rw enc e size v l s) : v.a = none → l = [] := by
 intro h0
 have hl := Rw.len hE hr
 unfold Rw at hr
 generalize fl enc l = xs at hr
 cases hr with
 | nil => exact List.eq_nil_of_length_eq_zero hl.symm
 | mk => cases h0
def unS : Value → ByteArray
 | .string x => x
 | _ => s_
theorem z4F : Pr.underlying z01 = some .string := by kernel_rfl
theorem z5H (h : St w0 E w) {a b n : Int} {k : Bool → PT} (hk : ∀ w', St w0 E w' → k (decide (a ≤ n ∧ n ≤ b)) w') : L.call Pr z0T [.agg #[I a, I b], I n] (.one (.one .bool)) k w := by
 refine z00 (z8f (a, b, ()) n) ?_
 unfold z5N
 refine nw h ?_; clear h; (try clear w); intro b1 w h
 (dsimp only [setN, List.cons_append, List.nil_append] at h; refine ldC h ?_)
 refine it (fun h1 => ?_) (fun h1 => ?_) <;> (try simp only [zB] at h1)
 ·(refine ldC h ?_)
  refine ⟨_, rfl, ?_⟩
  have := hk w (dl0_ h)
  have e : decide (a ≤ n ∧ n ≤ b) = decide (n ≤ b) := decide_eq_decide.2 ⟨fun h => h.2, fun h => ⟨by omega, h⟩⟩
  rw [e] at this; exact this
 ·refine ⟨_, rfl, ?_⟩
  have := hk w (dl0_ h)
  rw [decide_eq_false (fun h => h1 (by omega))] at this; exact this
abbrev Cfg := HT [.str, .int .i64, .int .i64, .int .i64, .int .i64, .int .i64]
abbrev Cfg.cells (c : Cfg) : List Value := [.string c.1, I c.2.1, I c.2.2.1, I c.2.2.2.1, I c.2.2.2.2.1, I c.2.2.2.2.2.1]
def cfgNum (c : Cfg) : Bool := decide (0 ≤ c.2.1 ∧ c.2.1 ≤ 255) && (decide (1 ≤ c.2.2.1 ∧ c.2.2.1 ≤ 8) && (decide (1 ≤ c.2.2.2.2.1 ∧ c.2.2.2.2.1 ≤ 10) && (decide (0 ≤ c.2.2.2.1 ∧ c.2.2.2.1 ≤ c.2.2.2.2.1) && decide (0 ≤ c.2.2.2.2.2.1 ∧ c.2.2.2.2.2.1 ≤ 30))))
def specC (c : Cfg) : Int := if shortB c.1.data.toList 16 = true then (if cfgNum c = true then 0 else 2) else 1
theorem zjg (h : St w0 E w) {c : Cfg} {k : Int → PT} (hk : ∀ w', St w0 E w' → k (specC c) w') : L.call Pr z0j [.agg (Cfg.cells c).toArray] (.one (.one (.int .i64))) k w := by
 obtain ⟨nm, im, co, mi, ma, gr, ⟨⟩⟩ := c
 refine z00 (ze0 (nm, im, co, mi, ma, gr, ())) ?_
 unfold za0
 refine nw h ?_; clear h; (try clear w); intro b1 w h
 (dsimp only [setN, List.cons_append, List.nil_append] at h; refine ldC h ?_)
 refine zf3 h z4F fun w h => ?_
 refine it (fun hn => ?_) (fun hn => ?_) <;> (try simp only [zB] at hn)
 ·refine ⟨_, rfl, ?_⟩
  have := hk w (dl0_ h)
  have e : specC (nm, im, co, mi, ma, gr, ()) = 1 := if_neg (by simp [hn])
  rw [e] at this; exact this
 refine z1k (fun z w => z = (!cfgNum (nm, im, co, mi, ma, gr, ()), ()) ∧ St w0 ([Cl b1 z0b (Cfg.cells (nm, im, co, mi, ma, gr, ()))] :: E) w) (fun k4 hk4 => ?_) (fun z w ⟨hz, h⟩ => ?_)
 ·(refine ldC h ?_)
  refine z5H h fun w h => ?_
  refine it (fun h1 => hk4 _ w ⟨by unfold cfgNum; simp only [Bool.not_eq_true'] at h1; simp only [h1, Bool.false_and], h⟩) (fun h1 => ?_)
  simp only [Bool.not_eq_false'] at h1
  (refine ldC h ?_)
  refine z5H h fun w h => ?_
  refine it (fun h2 => hk4 _ w ⟨by unfold cfgNum; simp only [Bool.not_eq_true'] at h2; simp only [h1, h2, Bool.false_and, Bool.and_false], h⟩) (fun h2 => ?_)
  simp only [Bool.not_eq_false'] at h2
  (refine ldC h ?_)
  refine z5H h fun w h => ?_
  refine it (fun h3 => hk4 _ w ⟨by unfold cfgNum; simp only [Bool.not_eq_true'] at h3; simp only [h1, h2, h3, Bool.false_and, Bool.and_false], h⟩) (fun h3 => ?_)
  simp only [Bool.not_eq_false'] at h3
  (refine ldC h ?_; refine ldC h ?_)
  refine z5H h fun w h => ?_
  refine it (fun h4 => hk4 _ w ⟨by unfold cfgNum; simp only [Bool.not_eq_true'] at h4; simp only [h1, h2, h3, h4, Bool.false_and, Bool.and_false], h⟩) (fun h4 => ?_)
  simp only [Bool.not_eq_false'] at h4
  (refine ldC h ?_)
  refine z5H h fun w h => ?_
  exact hk4 _ w ⟨by unfold cfgNum; simp only [h1, h2, h3, h4, Bool.true_and], h⟩
 ·subst hz
  dsimp only
  have hn : shortB nm.data.toList 16 = true := by simpa using hn
  refine it (fun hc => ?_) (fun hc => ?_) <;> (try simp only [zB] at hc)
  ·refine ⟨_, rfl, ?_⟩
   have := hk w (dl0_ h)
   have e : specC (nm, im, co, mi, ma, gr, ()) = 2 := by unfold specC; rw [if_pos hn, if_neg (by simp [hc])]
   rw [e] at this; exact this
  ·refine ⟨_, rfl, ?_⟩
   have := hk w (dl0_ h)
   have e : specC (nm, im, co, mi, ma, gr, ()) = 0 := by unfold specC; rw [if_pos hn, if_pos (by simpa using hc)]
   rw [e] at this; exact this
end Go.Proofs.YtkmalcoocklikaaGreatDoor
namespace Go.Dm
class Tab (P : Program) (w : World) : Prop where
 is : Lib.TabIs P w "internal/strconv.uint64pow10" .u64 Lib.pow10Tab
section
variable {w0 w : World} {E : List Seg} {P : Program}
theorem St.var (h : St w0 E w) {n : String} {cs : Array Value} (hv : w0.var? P n = some cs) : w.var? P n = some cs := by
 unfold World.var? at *
 cases hg : P.globalNamed n with
 | none => rw [hg] at hv; cases hv
 | some g =>
  rw [hg] at hv
  simp only [Option.bind_some] at hv ⊢
  cases hh : w0.heap[g]? with
  | none => rw [hh] at hv; cases hv
  | some o =>
   have := h.old g (Array.getElem?_eq_some_iff.1 hh).1
   rw [this]; exact hv
theorem St.tab [T : Tab P w0] (h : St w0 E w) : Lib.TabIs P w "internal/strconv.uint64pow10" .u64 Lib.pow10Tab := h.var T.is
end
def joinB (xs : List ByteArray) : ByteArray := ⟨(Lib.join (xs.map (·.data.toList)) [32]).toArray⟩
theorem zkV {a b : ByteArray} (h : a.data.toList = b.data.toList) : a = b := ByteArray.ext (Array.toList_inj.1 h)
theorem z8y (xs : List ByteArray) : (joinB xs).data.toList = Lib.join (xs.map (·.data.toList)) [32] := by simp [joinB]
theorem ziI : joinB [] = ⟨#[]⟩ := rfl
theorem zeD (x : ByteArray) : joinB [x] = x := zkV (by rw [z8y]; simp [Lib.join_one])
def spB : ByteArray := ⟨#[32]⟩
theorem zd7 (x y : ByteArray) (xs : List ByteArray) : joinB (x :: y :: xs) = (x ++ spB) ++ joinB (y :: xs) := zkV (by
 rw [z8y]
 simp only [List.map_cons, Lib.join, List.intercalate, ByteArray.data_append, Array.toList_append, z8y]
 simp [List.intersperse, spB])
theorem zgG (m : Nat) : ∀ (l : List ByteArray), (∀ x ∈ l, x.size ≤ m) → (joinB l).size ≤ l.length * (m + 1)
 | [], _ => by rw [ziI]; exact Nat.zero_le _
 | [x], h => by rw [zeD]; have := h x (by simp); simp; omega
 | x :: y :: l, h => by
  have h1 := h x (by simp)
  have h2 := zgG m (y :: l) fun z hz => h z (List.mem_cons_of_mem _ hz)
  have hs : spB.size = 1 := rfl
  rw [zd7, ByteArray.size_append, ByteArray.size_append, hs]
  simp only [List.length_cons, Nat.add_mul] at h2 ⊢
  omega
def decD (g : Nat) : ByteArray := ⟨(Lib.decDigits g).toArray⟩
theorem zj5 (g : Nat) : (decD g).data.toList = Lib.decDigits g := by simp [decD]
theorem zk4 (g : Nat) : (⟨(Lib.itoa (g : Int)).toArray⟩ : ByteArray) = decD g := by
 unfold Lib.itoa decD
 rw [if_neg (by omega)]; simp
section
variable {w0 w w' : World} {E : List Seg} {P : Program}
theorem St.below (h : St w0 E w) (hb : RowKit.Below w.heap.size w w') : St w0 E w' := by
 have hlt : ∀ k, k < w.heap.size → w'.heap[k]? = w.heap[k]? := hb.block
 refine ⟨Nat.le_trans h.size hb.size, fun b hb' => ?_, hb.os.trans h.os, hb.output.trans h.out, hb.tape.trans h.tape, fun x hx => ?_, h.nd, fun _ _ _ _ => rfl⟩
 ·rw [hlt b (Nat.lt_of_lt_of_le hb' h.size)]; exact h.old b hb'
 ·have := h.own x hx
  rw [hlt _ (Array.getElem?_eq_some_iff.1 this.2).1]; exact this
def eTx (x : ByteArray) : List Value := [.string x]
theorem Rw.texts {e : TypeId} {s : Seg} (h : St w0 E w) (k : Nat) (hi : nth E k = some s) {g n cap off : Nat} {l : List ByteArray} (hE : Enc eTx 1) (hr : Rw eTx e 1 ⟨some ⟨g, off, none⟩, n, cap⟩ l s) :
  (∀ (j : Nat) x, l[j]? = some x → w.cell? ⟨g, off + j, none⟩ = some (.string x)) ∧ g < w.heap.size := by
 have hr' := hr
 constructor
 ·intro j x hx
  have hn := zb0 hE hx (f := 0) (u := Value.string x) rfl
  simp only [Nat.mul_one, Nat.add_zero] at hn
  have hc := hr.cell h k hi rfl hn
  rw [z2G] at hc
  exact hc
 ·unfold Rw at hr'
  generalize fl eTx l = xs at hr'
  cases hr' with
  | mk g n cap pre xs spare post h1 h2 h3 h4 => exact (Array.getElem?_eq_some_iff.1 (h.at k hi).2).1
theorem zk3 {f : FuncId} {e : TypeId} {s : Seg} {v : Sl} {l : List ByteArray} {sep : ByteArray} (hsep : sep = spB) (hE : Enc eTx 1)
  (hc : ∀ g off cap w, (∀ (j : Nat) x, l[j]? = some x → w.cell? ⟨g, off + j, none⟩ = some (.string x)) → g < w.heap.size → l.length ≤ cap → Calls P f #[.slice (some ⟨g, off, none⟩) l.length cap, .string sep] w fun r w' => r = .returned (.string ⟨(Lib.join (l.map (·.data.toList)) sep.data.toList).toArray⟩) ∧ RowKit.Below w.heap.size w w')
  (hc0 : ∀ p cap w, Calls P f #[.slice p 0 cap, .string sep] w fun r w' => r = .returned (.string ⟨#[]⟩) ∧ w' = w)
  (h : St w0 E w) (k : Nat) (hi : nth E k = some s) (hr : Rw eTx e 1 v l s) {kk : ByteArray → PT} (hk : ∀ w', St w0 E w' → kk (joinB l) w') : L.call P f [.slice v.a v.len v.cap, .string sep] (.one (.one .str)) kk w := by
 have hlen := Rw.len hE hr
 cases hl0 : l with
 | nil =>
  subst hl0
  simp only [List.length_nil] at hlen
  rw [hlen]
  exact (hc0 v.a v.cap w).mono fun r w' ⟨h1, h2⟩ => ⟨joinB [], h1, by subst h2; exact hk _ h⟩
 | cons x l2 =>
  have hpos : 0 < l.length := by rw [hl0]; simp
  have hcap := hr.cap
  obtain ⟨va, vn, vc⟩ := v
  have : ∃ g off, va = some ⟨g, off, none⟩ := by
   have hr' := hr
   unfold Rw at hr'
   generalize fl eTx l = xs at hr'
   cases hr' with
   | nil => simp at hlen; omega
   | mk => exact ⟨_, _, rfl⟩
  obtain ⟨g, off, rfl⟩ := this
  simp only at hlen hcap
  subst hlen
  obtain ⟨hH, hlt⟩ := Rw.texts h k hi hE hr
  refine (hc g off vc w hH hlt hcap.1).mono fun r w' ⟨h1, h2⟩ => ⟨joinB l, ?_, hk _ (h.below h2)⟩
  rw [h1, hsep]; rfl
end
end Go.Dm
namespace Go.Proofs.YtkmalcoocklikaaGreatDoor
open Go.Dm
attribute [local irreducible] L.load L.store L.chk L.new L.nonnil L.guard L.ite L.draw L.idx L.sem L.semR L.semU L.chkSem L.next L.call L.callV L.join L.alts L.loop L.begin L.endRound L.range
variable {w0 w : World} {E : List Seg}
abbrev Rv := HT [.str, .int .i64, .str, .int .i64, .int .i64, .int .i64, .int .i64, .int .i64]
abbrev eRv : E1 := .agg [.str, .int .i64, .str, .int .i64, .int .i64, .int .i64, .int .i64, .int .i64]
def vRv (t : Rv) : Value := eRv.val t
def noRv : Rv := (s_, 0, s_, 0, 0, 0, 0, 0, ())
abbrev rvC (t : Rv) : List Value := [.string t.1, I t.2.1, .string t.2.2.1, I t.2.2.2.1, I t.2.2.2.2.1, I t.2.2.2.2.2.1, I t.2.2.2.2.2.2.1, I t.2.2.2.2.2.2.2.1]
abbrev Rv.cfg (t : Rv) : Cfg := t.2.2
def rvOf (name : ByteArray) (gen : Int) (c : Cfg) : Rv := (name, gen, c)
structure ABook where
 all : List (ByteArray × Rv)
 pv : List (ByteArray × Bool)
structure ABook.Ok (a : ABook) : Prop where
 name : ∀ p ∈ a.all, p.2.1 = p.1 ∧ p.1 ≠ s_
 few : a.all.length < 1000000
theorem zdo : Pr.underlying z0k = some (.map z01 z0l) := by kernel_rfl
theorem zi2 : Pr.underlying z35 = some (.map z01 z68) := by kernel_rfl
theorem mkStr : MK Pr z01 Value.string := ziG z4F
theorem zrv (w : World) : (zeroValue z0l).run Pr w = .ok (eRv.val noRv) w := by
 have h : (Pr.info? z0l).map (·.zero) = some (some (.agg #[.string s_, I 0, .string s_, I 0, I 0, I 0, I 0, I 0])) := by kernel_rfl
 cases hi : Pr.info? z0l with
 | none => rw [hi] at h; cases h
 | some i => rw [hi] at h; simp only [Option.map_some, Option.some.injEq] at h; exact zv hi h w
theorem zbool (w : World) : (zeroValue z68).run Pr w = .ok ((E1.one .bool).val false) w := by
 have h : (Pr.info? z68).map (·.zero) = some (some (.bool false)) := by kernel_rfl
 cases hi : Pr.info? z68 with
 | none => rw [hi] at h; cases h
 | some i => rw [hi] at h; simp only [Option.map_some, Option.some.injEq] at h; exact zv hi h w
def bkGet (a : ABook) (rev : ByteArray) : Rv := (mget a.all rev).getD noRv
def bkHas (a : ABook) (rev : ByteArray) : Bool := (mget a.all rev).isSome
def bkProved (a : ABook) (rev : ByteArray) : Bool := (mget a.pv rev).getD false
abbrev bkB (b rA rP : Nat) : Seg := [Cl b zb2 [.map (some rA), .map (some rP)]]
def BkS (b : Nat) (a : ABook) (s : Seg) : Prop := a.Ok ∧ ∃ rA rP sA sP, MpS Value.string vRv rA a.all sA ∧ MpS Value.string Value.bool rP a.pv sP ∧ s = bkB b rA rP ++ (sA ++ sP)
theorem rlookup {r : Nat} {m : List (ByteArray × Rv)} {s : Seg} (h : St w0 E w) (i : Nat) (hi : nth E i = some s) (hm : MpS Value.string vRv r m s) {n : ByteArray} {kk : eRv.T → PT} (hk : kk ((mget m n).getD noRv) w) :
  L.semR Pr (.one eRv) (Instr.lookup z0k (.map (some r)) (.string n) false) kk w := by
 refine MpS.get mkStr zdo zrv (fun t : Rv => t) (fun _ => rfl) h i hi hm ?_
 have : ((mget m n).map fun t : Rv => t).getD noRv = (mget m n).getD noRv := by cases mget m n <;> rfl
 rw [this]; exact hk
theorem rlookup2 {r : Nat} {m : List (ByteArray × Rv)} {s : Seg} (h : St w0 E w) (i : Nat) (hi : nth E i = some s) (hm : MpS Value.string vRv r m s) {n : ByteArray} {kk : eRv.T × Bool × Unit → PT} (hk : kk ((mget m n).getD noRv, (mget m n).isSome, ()) w) :
  L.semR Pr (.tup [eRv, .one .bool]) (Instr.lookup z0k (.map (some r)) (.string n) true) kk w := by
 refine MpS.get2 mkStr zdo zrv (fun t : Rv => t) (fun _ => rfl) h i hi hm ?_
 have : ((mget m n).map fun t : Rv => t).getD noRv = (mget m n).getD noRv := by cases mget m n <;> rfl
 rw [this]; exact hk
theorem zm9 (h : St w0 E w) {k : Option Addr → PT} (hk : ∀ b s w', BkS b ⟨[], []⟩ s → St w0 (s :: E) w' → k (some ⟨b, 0, none⟩) w') : L.call Pr z97 [] (.one (.one .ptr)) k w := by
 refine z00 zg7 ?_
 unfold zcj
 refine MpS.new h Value.string vRv fun r s w hm h => ?_
 refine MpS.new h Value.string Value.bool fun r2 s2 w hm2 h => ?_
 refine nw h ?_; clear h; (try clear w); intro b w h
 refine ⟨_, rfl, hk b _ w ⟨⟨by simp, by simp⟩, r, r2, s, s2, hm, hm2, rfl⟩ ?_⟩
 have h := fr2_ (fr2_ (fr1_ h))
 exact h.glue3
theorem zaO (h : St w0 E w) (i : Nat) {b : Nat} {a : ABook} {s : Seg} (hi : nth E i = some s) (hs : BkS b a s) {rev : ByteArray} {k : eRv.T × Bool × Unit → PT} (hk : ∀ w', St w0 E w' → k (bkGet a rev, bkHas a rev, ()) w') :
  L.call Pr z2j [.pointer (some ⟨b, 0, none⟩), .string rev] (.tup [eRv, .one .bool]) k w := by
 obtain ⟨ok, rA, rP, sA, sP, hA, hP, rfl⟩ := hs
 refine z00 (zbo _ _) ?_
 unfold z7h
 have h := (h.front i hi).split3
 refine nw h ?_; clear h; (try clear w); intro b1 w h
 (refine nn ?_; refine ldC h ?_)
 refine rlookup2 h 2 rfl hA ?_
 unfold bkGet bkHas at hk
 generalize (mget a.all rev).getD noRv = t at hk
 refine nw h ?_; clear h; (try clear w); intro b5 w h
 (refine stC h ?_; clear h; (try clear w); intro w h; dsimp only [putN, setN] at h; refine laC h ?_; refine stC h ?_; clear h; (try clear w); intro w h; dsimp only [putN, setN] at h; refine laC h ?_)
 exact ⟨(t, _, ()), rfl, hk w (St.again i hi (dl0_ (dl0_ h)).glue3)⟩
theorem zhP (h : St w0 E w) (i : Nat) {b : Nat} {a : ABook} {s : Seg} (hi : nth E i = some s) (hs : BkS b a s) {rev : ByteArray} {k : Bool → PT} (hk : ∀ w', St w0 E w' → k (bkProved a rev) w') :
  L.call Pr z3V [.pointer (some ⟨b, 0, none⟩), .string rev] (.one (.one .bool)) k w := by
 obtain ⟨ok, rA, rP, sA, sP, hA, hP, rfl⟩ := hs
 refine z00 (z9i _ _) ?_
 unfold z5M
 have h := (h.front i hi).split3
 (refine nn ?_; refine ldC h ?_)
 refine MpS.get mkStr zi2 zbool (fun t : Bool => t) (fun _ => rfl) h 2 rfl hP ?_
 refine ⟨_, rfl, ?_⟩
 have : ((mget a.pv rev).map fun t : Bool => t).getD false = bkProved a rev := by unfold bkProved; cases mget a.pv rev <;> rfl
 rw [this]
 exact hk w (St.again i hi h.glue3)
def bkProve (a : ABook) (rev : ByteArray) : ABook × Int := if bkHas a rev = true then (⟨a.all, mset a.pv rev true⟩, 0) else (a, 6)
theorem zjs (h : St w0 E w) (i : Nat) {b : Nat} {a : ABook} {s : Seg} (hi : nth E i = some s) (hs : BkS b a s) {rev : ByteArray} {k : Int → PT} (hk : ∀ s' w', BkS b (bkProve a rev).1 s' → St w0 (setN E i s') w' → k (bkProve a rev).2 w') :
  L.call Pr z4e [.pointer (some ⟨b, 0, none⟩), .string rev] (.one (.one (.int .i64))) k w := by
 have hs0 := hs
 obtain ⟨ok, rA, rP, sA, sP, hA, hP, rfl⟩ := hs
 refine z00 (zad _ _) ?_
 unfold z6c
 unfold bkProve bkHas at hk
 have h := (h.front i hi).split3
 (refine nn ?_; refine ldC h ?_)
 refine rlookup2 h 1 rfl hA ?_
 generalize (mget a.all rev).getD noRv = t at hk
 refine nw h ?_; clear h; (try clear w); intro b4 w h
 (refine stC h ?_; clear h; (try clear w); intro w h; dsimp only [putN, setN] at h)
 refine it (fun hc => ?_) (fun hc => ?_) <;> (try simp only [zB] at hc)
 ·rw [if_neg (by simp [hc])] at hk
  exact ⟨_, rfl, hk _ w hs0 (St.back i hi (dl0_ h).glue3)⟩
 ·rw [if_pos (by simpa using hc)] at hk
  (refine nn ?_; refine ldC h ?_)
  refine MpS.set mkStr zi2 h 3 rfl hP true rfl fun sP' w hP' h => ?_
  exact ⟨_, rfl, hk _ w ⟨⟨ok.name, ok.few⟩, rA, rP, sA, sP', hA, hP', rfl⟩ (St.back i hi (dl0_ h).glue3)⟩
def bkStamp (a : ABook) (c : Cfg) (gen : Nat) : ABook × ByteArray × Bool :=
 if bkHas a (revB c.1 gen) = true then (a, revB c.1 gen, false) else (⟨mset a.all (revB c.1 gen) (rvOf (revB c.1 gen) gen c), a.pv⟩, revB c.1 gen, true)
theorem zld (c : ByteArray) {g : Nat} (hg : g < 100) : revB c g ≠ s_ := fun e => by
 have := z8s c hg
 rw [e] at this
 have h0 : s_.size = 0 := rfl
 omega
theorem zmx (w : World) : (do eqGuard .neq z0l (.tmp 0) (.tmp 0) (.agg (rvC noRv).toArray) (.agg #[.string s_, I 0, .string s_, I 0, I 0, I 0, I 0, I 0]); binOp .neq z0l (.agg (rvC noRv).toArray) (.agg #[.string s_, I 0, .string s_, I 0, I 0, I 0, I 0, I 0]) : Sem Value).run Pr w = .ok (.bool false) w := by kernel_rfl
theorem zmw (t : Rv) (ht : t.1 ≠ s_) (w : World) : (do eqGuard .neq z0l (.tmp 0) (.tmp 0) (.agg (rvC t).toArray) (.agg #[.string s_, I 0, .string s_, I 0, I 0, I 0, I 0, I 0]); binOp .neq z0l (.agg (rvC t).toArray) (.agg #[.string s_, I 0, .string s_, I 0, I 0, I 0, I 0, I 0]) : Sem Value).run Pr w = .ok (.bool true) w := by
 refine zkS (r := false) (by kernel_rfl) ?_
 have hS : Pr.underlying z0l = some (.struct (Pr.fieldsOf z0l)) := by kernel_rfl
 have hp : Pr.stoodInHeld z0l = false := by kernel_rfl
 rw [show (10000 : Nat) = 9999 + 1 from rfl, run_equalIn_agg w 9999 z0l _ _ hS hp]
 have u9 := Tryz.underlying9
 have i9 := Tryz.isAgg9
 have z9 := Tryz.sizeOf9
 simp only [Program.fieldsOf, Tryz.underlying175]
 go_simp
 have e : ¬ (ByteArray.toList t.1 = ByteArray.toList s_) := fun e => ht (by
  have : (@BEq.beq ByteArray _ t.1 s_) = true := by rw [beq_toListBytes]; simp [e]
  exact zj8.1 this)
 simp [e]
abbrev Thg := HT [.str, .int .i64, .int .i64, .int .i64, .int .i64, .int .i64, .int .i64, .int .i64, .bool]
abbrev eThg : E1 := .agg [.str, .int .i64, .int .i64, .int .i64, .int .i64, .int .i64, .int .i64, .int .i64, .bool]
def vThg (t : Thg) : Value := eThg.val t
def noThg : Thg := (s_, 0, 0, 0, 0, 0, 0, 0, false, ())
abbrev Thg.ver (t : Thg) : Int := t.2.2.2.2.2.2.1
abbrev Thg.gen (t : Thg) : Int := t.2.2.2.2.2.2.2.1
abbrev Thg.is (t : Thg) : Bool := t.2.2.2.2.2.2.2.2.1
def thgOf (c : Cfg) (ver gen : Int) (is : Bool) : Thg := (c.1, c.2.1, c.2.2.1, c.2.2.2.1, c.2.2.2.2.1, c.2.2.2.2.2.1, ver, gen, is, ())
theorem zgf : Pr.underlying z0n = some (.map z01 z0a) := by kernel_rfl
theorem mkS : MK Pr z01 Value.string := ziG z4F
theorem zthg (w : World) : (zeroValue z0a).run Pr w = .ok (eThg.val noThg) w := by
 have h : (Pr.info? z0a).map (·.zero) = some (some (.agg #[.string s_, I 0, I 0, I 0, I 0, I 0, I 0, I 0, .bool false])) := by kernel_rfl
 cases hi : Pr.info? z0a with
 | none => rw [hi] at h; cases h
 | some i => rw [hi] at h; simp only [Option.map_some, Option.some.injEq] at h; exact zv hi h w
def tget (m : List (ByteArray × Thg)) (n : ByteArray) : Thg := (mget m n).getD noThg
def RackS (b : Nat) (m : List (ByteArray × Thg)) (s : Seg) : Prop := ∃ r sm, MpS Value.string vThg r m sm ∧ s = [Cl b z0B [.map (some r), .func (.func z0V) #[] #[]]] ++ sm
theorem tlook {r : Nat} {m : List (ByteArray × Thg)} {s : Seg} (h : St w0 E w) (i : Nat) (hi : nth E i = some s) (hm : MpS Value.string vThg r m s) {n : ByteArray} {kk : eThg.T → PT} (hk : kk (tget m n) w) :
  L.semR Pr (.one eThg) (Instr.lookup z0n (.map (some r)) (.string n) false) kk w := by
 refine MpS.get mkS zgf zthg (fun t : Thg => t) (fun _ => rfl) h i hi hm ?_
 have : ((mget m n).map fun t : Thg => t).getD noThg = tget m n := by unfold tget; cases mget m n <;> rfl
 rw [this]; exact hk
theorem zlX (h : St w0 E w) {k : Option Addr → PT} (hk : ∀ b s w', RackS b [] s → St w0 (s :: E) w' → k (some ⟨b, 0, none⟩) w') :
  L.call Pr z2A [.func (.func z0V) #[] #[]] (.one (.one .ptr)) k w := by
 refine z00 (z77 ⟨.func z0V, #[], #[]⟩) ?_
 unfold z4q
 refine MpS.new h Value.string vThg fun r s w hm h => ?_
 refine nw h ?_; clear h; (try clear w); intro b w h
 exact ⟨_, rfl, hk b _ w ⟨r, s, hm, rfl⟩ h.glue⟩
def mayC (t : Thg) (ver : Int) (fresh : Bool) : Int :=
 if fresh = true ∧ ver = 0 then (if t.is = true then 5 else 0) else if t.is = true then (if t.ver = ver then 0 else 7) else 6
theorem zn4 (h : St w0 E w) (i : Nat) {b : Nat} {m : List (ByteArray × Thg)} {s : Seg} (hi : nth E i = some s) (hs : RackS b m s) {n : ByteArray} {ver : Int} {fresh : Bool} {k : Int → PT} (hk : ∀ w', St w0 E w' → k (mayC (tget m n) ver fresh) w') :
  L.call Pr z1X [.pointer (some ⟨b, 0, none⟩), .string n, I ver, .bool fresh] (.one (.one (.int .i64))) k w := by
 obtain ⟨r, sm, hm, rfl⟩ := hs
 refine z00 (z5V _ _ _ _) ?_
 unfold z3q
 have h := (h.front i hi).split
 (refine nn ?_; refine ldC h ?_)
 refine tlook h 1 rfl hm ?_
 generalize tget m n = t at hk
 refine nw h ?_; clear h; (try clear w); intro b4 w h
 (refine stC h ?_; clear h; (try clear w); intro w h; dsimp only [putN, setN] at h)
 have fin : ∀ {e : Int} {w : World}, e = mayC t ver fresh → St w0 ([Cl b4 z0a [.string t.1, I t.2.1, I t.2.2.1, I t.2.2.2.1, I t.2.2.2.2.1, I t.2.2.2.2.2.1, I t.2.2.2.2.2.2.1, I t.2.2.2.2.2.2.2.1, .bool t.2.2.2.2.2.2.2.2.1]] :: [Cl b z0B [.map (some r), .func (.func z0V) #[] #[]]] :: sm :: delN E i) w →
   ∃ x, I e = RT.val (.one (.one (.int .i64))) x ∧ k x w := by
  rintro e w rfl h
  exact ⟨_, rfl, hk w (St.setN_same' i hi (St.back i hi (dl0_ h).glue))⟩
 have c2 : ∀ {k5 : Unit → PT} {w : World}, ¬ (fresh = true ∧ ver = 0) → (∀ {w}, mayC t ver fresh = 0 → St w0 ([Cl b4 z0a [.string t.1, I t.2.1, I t.2.2.1, I t.2.2.2.1, I t.2.2.2.2.1, I t.2.2.2.2.2.1, I t.2.2.2.2.2.2.1, I t.2.2.2.2.2.2.2.1, .bool t.2.2.2.2.2.2.2.2.1]] :: [Cl b z0B [.map (some r), .func (.func z0V) #[] #[]]] :: sm :: delN E i) w → k5 () w) →
   St w0 ([Cl b4 z0a [.string t.1, I t.2.1, I t.2.2.1, I t.2.2.2.1, I t.2.2.2.2.1, I t.2.2.2.2.2.1, I t.2.2.2.2.2.2.1, I t.2.2.2.2.2.2.2.1, .bool t.2.2.2.2.2.2.2.2.1]] :: [Cl b z0B [.map (some r), .func (.func z0V) #[] #[]]] :: sm :: delN E i) w →
   L.load (.one (.bool)) ((⟨b4, 0, none⟩ : Addr).add 8) (fun (x18 : Bool) =>
   L.ite (!x18) (
    fun w => ∃ x, Value.int .i64 6 = RT.val (.one (.one (.int .i64))) x ∧ k x w) <|
   L.load (.one (.int .i64)) ((⟨b4, 0, none⟩ : Addr).add 6) fun (x19 : Int) =>
   L.ite (x19 != ver) (
    fun w => ∃ x, Value.int .i64 7 = RT.val (.one (.one (.int .i64))) x ∧ k x w) <|
   k5 (())) w := by
  intro k5 w hf hk5 h
  (refine ldC h ?_)
  refine it (fun h1 => ?_) (fun h1 => ?_) <;> (try simp only [zB] at h1)
  ·exact fin (by unfold mayC; rw [if_neg hf, if_neg (by simp [Thg.is, h1])]) h
  (refine ldC h ?_)
  have h1 : t.is = true := by simpa using h1
  refine it (fun h2 => ?_) (fun h2 => ?_) <;> (try simp only [zB] at h2)
  ·exact fin (by unfold mayC; rw [if_neg hf, if_pos h1, if_neg h2]) h
  ·exact hk5 (by unfold mayC; rw [if_neg hf, if_pos h1, if_pos h2]) h
 refine z1k (fun z w => mayC t ver fresh = 0 ∧ St w0 ([Cl b4 z0a [.string t.1, I t.2.1, I t.2.2.1, I t.2.2.2.1, I t.2.2.2.2.1, I t.2.2.2.2.2.1, I t.2.2.2.2.2.2.1, I t.2.2.2.2.2.2.2.1, .bool t.2.2.2.2.2.2.2.2.1]] :: [Cl b z0B [.map (some r), .func (.func z0V) #[] #[]]] :: sm :: delN E i) w) (fun k5 hk5 => ?_) (fun z w ⟨hz, h⟩ => fin hz.symm h)
 cases fresh with
 | false => exact itF rfl (itF rfl (c2 (by simp) (fun h1 h => hk5 _ _ ⟨h1, h⟩) h))
 | true =>
  refine itT rfl ?_
  refine it (fun hv => ?_) (fun hv => ?_) <;> (try simp only [zB] at hv)
  ·(refine ldC h ?_)
   refine it (fun h1 => ?_) (fun h1 => ?_) <;> (try simp only [zB] at h1)
   ·exact fin (by unfold mayC; rw [if_pos ⟨rfl, hv⟩, if_pos h1]) h
   ·refine itT rfl (itT (by simp [hv]) ?_)
    exact fin (by unfold mayC; rw [if_pos ⟨rfl, hv⟩, if_neg (by simp [Thg.is, h1])]) h
  ·refine itT rfl (itF (by simp [hv]) ?_)
   exact c2 (fun hh => hv hh.2) (fun h1 h => hk5 _ _ ⟨h1, h⟩) h
theorem zn6 (h : St w0 E w) (i : Nat) {b : Nat} {m : List (ByteArray × Thg)} {s : Seg} (hi : nth E i = some s) (hs : RackS b m s) {n : ByteArray} {k : eThg.T × Bool × Unit → PT} (hk : ∀ w', St w0 E w' → k (tget m n, (tget m n).is, ()) w') :
  L.call Pr z1Y [.pointer (some ⟨b, 0, none⟩), .string n] (.tup [eThg, .one .bool]) k w := by
 obtain ⟨r, sm, hm, rfl⟩ := hs
 refine z00 (z5W _ _) ?_
 unfold z3r
 have h := (h.front i hi).split
 refine nw h ?_; clear h; (try clear w); intro b1 w h
 (refine nn ?_; refine ldC h ?_)
 refine tlook h 2 rfl hm ?_
 generalize tget m n = t at hk
 refine nw h ?_; clear h; (try clear w); intro b5 w h
 (refine stC h ?_; clear h; (try clear w); intro w h; dsimp only [putN, setN] at h; refine dr h ?_; clear h; (try clear w); intro w h; refine laC h ?_; refine ldC h ?_; refine stC h ?_; clear h; (try clear w); intro w h; dsimp only [putN, setN] at h; refine ckC h ?_; refine laC h ?_)
 exact ⟨(t, t.is, ()), rfl, hk w (St.setN_same' i hi (St.back i hi (dl0_ (dl0_ h)).glue))⟩
def sameC (a b : Cfg) : Bool := (a.1 == b.1) && ((a.2.1 == b.2.1) && ((a.2.2.1 == b.2.2.1) && ((a.2.2.2.1 == b.2.2.2.1) && ((a.2.2.2.2.1 == b.2.2.2.2.1) && ((a.2.2.2.2.2.1 == b.2.2.2.2.2.1) && true)))))
theorem zkm (a b : Cfg) (w : World) : (Op.equalIn 10000 z0b (.agg (Cfg.cells a).toArray) (.agg (Cfg.cells b).toArray)).run Pr w = .ok (sameC a b) w := by
 have hS : Pr.underlying z0b = some (.struct (Pr.fieldsOf z0b)) := by kernel_rfl
 have hp : Pr.stoodInHeld z0b = false := by kernel_rfl
 obtain ⟨a1, a2, a3, a4, a5, a6, ⟨⟩⟩ := a
 obtain ⟨b1, b2, b3, b4, b5, b6, ⟨⟩⟩ := b
 rw [show (10000 : Nat) = 9999 + 1 from rfl, run_equalIn_agg w 9999 z0b _ _ hS hp]
 have u3 := Tryz.underlying3
 have i3 := Tryz.isAgg3
 have z3 := Tryz.sizeOf3
 have u9 := Tryz.underlying9
 have i9 := Tryz.isAgg9
 have z9 := Tryz.sizeOf9
 simp only [Program.fieldsOf, Tryz.underlying23]
 go_simp
 have e : (ByteArray.toList a1 = ByteArray.toList b1) ↔ (@BEq.beq ByteArray _ a1 b1) = true := by rw [beq_toListBytes]; simp
 unfold sameC
 by_cases h1 : (@BEq.beq ByteArray _ a1 b1) = true
 ·rw [if_pos (e.2 h1)]
  simp only [show (a1 == b1) = true from h1, Bool.true_and]
  by_cases h2 : @Eq Int a2 b2
  ·by_cases h3 : @Eq Int a3 b3
   ·by_cases h4 : @Eq Int a4 b4
    ·by_cases h5 : @Eq Int a5 b5
     ·by_cases h6 : @Eq Int a6 b6
      ·cases h2; cases h3; cases h4; cases h5; cases h6; simp
      ·cases h2; cases h3; cases h4; cases h5; simp [h6]
     ·cases h2; cases h3; cases h4; simp [h5]
    ·cases h2; cases h3; simp [h4]
   ·cases h2; simp [h3]
  ·simp [h2]
 ·rw [if_neg (fun h => h1 (e.1 h))]
  have : (a1 == b1) = false := by simpa using h1
  simp [this]
theorem zkT (a b : Cfg) (w : World) : (do eqGuard .eql z0b (.tmp 0) (.tmp 0) (.agg (Cfg.cells a).toArray) (.agg (Cfg.cells b).toArray); binOp .eql z0b (.agg (Cfg.cells a).toArray) (.agg (Cfg.cells b).toArray) : Sem Value).run Pr w = .ok (.bool (sameC a b)) w :=
 zkU (by kernel_rfl) (zkm a b w)
theorem zlP (h : St w0 E w) {a b : Cfg} {k : Bool → PT} (hk : ∀ w', St w0 E w' → k (sameC a b) w') :
  L.callV Pr (.func (.func z0V) #[] #[]) [.agg (Cfg.cells a).toArray, .agg (Cfg.cells b).toArray] (.one (.one .bool)) k w := by
 refine z3U (fs := #[]) (cs := #[]) zdW (ze1 a b) ?_
 unfold za1
 refine nw h ?_; clear h; (try clear w); intro b1 w h
 refine nw h ?_; clear h; (try clear w); intro b2 w h
 (refine laC h ?_; refine laC h ?_)
 unfold L.chkSem
 refine ⟨zkT a b w, _, rfl, ?_⟩
 exact hk w (dl0_ (dl0_ h))
def cfgOf (t : Thg) : Cfg := (t.1, t.2.1, t.2.2.1, t.2.2.2.1, t.2.2.2.2.1, t.2.2.2.2.2.1, ())
def putC (m : List (ByteArray × Thg)) (n : ByteArray) (c : Cfg) (ver : Int) : List (ByteArray × Thg) :=
 mset m n (thgOf c ver (if (tget m n).is = true ∧ sameC (cfgOf (tget m n)) c = true then (tget m n).gen else (tget m n).gen + 1) true)
theorem zn1 (h : St w0 E w) (i : Nat) {b : Nat} {m : List (ByteArray × Thg)} {s : Seg} (hi : nth E i = some s) (hs : RackS b m s) {n : ByteArray} {c : Cfg} {ver : Int} (hg : 0 ≤ (tget m n).gen ∧ (tget m n).gen < 4611686018427387904) {k : Unit → PT}
  (hk : ∀ s' w', RackS b (putC m n c ver) s' → St w0 (setN E i s') w' → k () w') :
  L.call Pr z1W [.pointer (some ⟨b, 0, none⟩), .string n, .agg (Cfg.cells c).toArray, I ver] (.tup []) k w := by
 obtain ⟨r, sm, hm, rfl⟩ := hs
 refine z00 (z5U _ _ c _) ?_
 unfold z3p
 unfold putC at hk
 have h := (h.front i hi).split
 refine nw h ?_; clear h; (try clear w); intro b1 w h
 (refine nn ?_; refine ldC h ?_)
 refine tlook h 2 rfl hm ?_
 generalize tget m n = t at hk hg
 refine nw h ?_; clear h; (try clear w); intro b5 w h
 (refine stC h ?_; clear h; (try clear w); intro w h; dsimp only [putN, setN] at h)
 let cells : Int → List Value := fun g => [.string t.1, I t.2.1, I t.2.2.1, I t.2.2.2.1, I t.2.2.2.2.1, I t.2.2.2.2.2.1, I t.2.2.2.2.2.2.1, I g, .bool t.2.2.2.2.2.2.2.2.1]
 have hw : IntKind.wrap .i64 (t.gen + 1) = t.gen + 1 := wr (by omega) (by omega)
 refine z1k (fun z w => St w0 ([Cl b5 z0a (cells (if t.is = true ∧ sameC (cfgOf t) c = true then t.gen else t.gen + 1))] :: [Cl b1 z0b (Cfg.cells c)] :: [Cl b z0B [.map (some r), .func (.func z0V) #[] #[]]] :: sm :: delN E i) w) (fun k6 hk6 => ?_) (fun z w h => ?_)
 ·have h : St w0 ([Cl b5 z0a (cells t.gen)] :: [Cl b1 z0b (Cfg.cells c)] :: [Cl b z0B [.map (some r), .func (.func z0V) #[] #[]]] :: sm :: delN E i) w := h
  dsimp only [cells] at h hk6
  have more : ∀ {w}, ¬ (t.is = true ∧ sameC (cfgOf t) c = true) → St w0 ([Cl b5 z0a [.string t.1, I t.2.1, I t.2.2.1, I t.2.2.2.1, I t.2.2.2.2.1, I t.2.2.2.2.2.1, I t.2.2.2.2.2.2.1, I t.gen, .bool t.2.2.2.2.2.2.2.2.1]] :: [Cl b1 z0b (Cfg.cells c)] :: [Cl b z0B [.map (some r), .func (.func z0V) #[] #[]]] :: sm :: delN E i) w →
    L.load (.one (.int .i64)) ((⟨b5, 0, none⟩ : Addr).add 7) (fun (x9 : Int) =>
     L.store ((⟨b5, 0, none⟩ : Addr).add 7) [.int .i64 (IntKind.wrap .i64 (x9 + 1))] <| k6 (())) w := by
   intro w hn h
   (refine ldC h ?_; refine stC h ?_; clear h; (try clear w); intro w h; dsimp only [putN, setN] at h)
   rw [hw] at h
   refine hk6 _ w ?_
   rw [if_neg hn]; exact h
  (refine dr h ?_; clear h; (try clear w); intro w h; refine ldC h ?_)
  refine it (fun h1 => ?_) (fun h1 => ?_) <;> (try simp only [zB] at h1)
  ·exact more (fun hh => by have := hh.1; simp only [Thg.is] at this; rw [h1] at this; cases this) h
  ·have h1 : t.is = true := by simpa using h1
   (refine nn ?_; refine ldC h ?_; refine laC h ?_; refine laC h ?_)
   refine zlP (a := cfgOf t) (b := c) h fun w h => ?_
   refine it (fun h2 => ?_) (fun h2 => ?_) <;> (try simp only [zB] at h2)
   ·exact more (fun hh => by rw [hh.2] at h2; cases h2) h
   ·have h2 : sameC (cfgOf t) c = true := by simpa using h2
    refine hk6 _ w ?_
    rw [if_pos ⟨h1, h2⟩]; exact h
 ·dsimp only [cells] at h
  (refine dr h ?_; clear h; (try clear w); intro w h; refine nn ?_; refine ldC h ?_; refine laC h ?_; refine ldC h ?_)
  refine MpS.set mkS zgf h 3 rfl hm (thgOf c ver (if t.is = true ∧ sameC (cfgOf t) c = true then t.gen else t.gen + 1) true) rfl fun sm' w hm' h => ?_
  exact ⟨(), rfl, hk _ w ⟨r, sm', hm', rfl⟩ (St.back i hi (dl0_ (dl0_ h)).glue)⟩
abbrev Tgt := HT [.str, .str, .int .i64]
def eT (t : Tgt) : List Value := [.string t.1, .string t.2.1, I t.2.2.1]
theorem encT : Enc eT 3 := ⟨fun _ => rfl, fun _ => rfl, by decide⟩
structure ARt where
 name : ByteArray
 cfg : ByteArray
 ts : List Tgt
 roll : Int
abbrev Thr := HT [.str, .str, .slice, .int .i64, .int .i64, .int .i64, .bool]
abbrev eThr : E1 := .agg [.str, .str, .slice, .int .i64, .int .i64, .int .i64, .bool]
abbrev Thr.ver (t : Thr) : Int := t.2.2.2.2.1
abbrev Thr.gen (t : Thr) : Int := t.2.2.2.2.2.1
abbrev Thr.is (t : Thr) : Bool := t.2.2.2.2.2.2.1
def vThr (t : Thr) : Value := eThr.val t
structure AThr where
 r : ARt
 ver : Int
 gen : Int
 is : Bool
def noAThr : AThr := ⟨⟨s_, s_, [], 0⟩, 0, 0, false⟩
structure RtE where
 k : ByteArray
 t : Thr
 ts : List Tgt
 sg : Seg
def RtE.ok (x : RtE) : Prop := Rw eT z0O 3 x.t.2.2.1 x.ts x.sg
def RtE.abs (x : RtE) : AThr := ⟨⟨x.t.1, x.t.2.1, x.ts, x.t.2.2.2.1⟩, x.t.ver, x.t.gen, x.t.is⟩
abbrev RtE.kt (x : RtE) : ByteArray × Thr := (x.k, x.t)
abbrev RtE.ka (x : RtE) : ByteArray × AThr := (x.k, x.abs)
def rget (m : List (ByteArray × AThr)) (n : ByteArray) : AThr := (mget m n).getD noAThr
def RackR (b : Nat) (m : List (ByteArray × AThr)) (s : Seg) : Prop := ∃ r sm, ∃ Q : List RtE, MpS Value.string vThr r (Q.map RtE.kt) sm ∧ (∀ x ∈ Q, x.ok) ∧ m = Q.map RtE.ka ∧
 s = [Cl b z2X [.map (some r), .func (.func z2N) #[] #[]]] ++ (sm ++ (Q.map RtE.sg).flatten)
theorem zlW (h : St w0 E w) {k : Option Addr → PT} (hk : ∀ b s w', RackR b [] s → St w0 (s :: E) w' → k (some ⟨b, 0, none⟩) w') :
  L.call Pr z2W [.func (.func z2N) #[] #[]] (.one (.one .ptr)) k w := by
 refine z00 (z7y ⟨.func z2N, #[], #[]⟩) ?_
 unfold z4C
 refine MpS.new h Value.string vThr fun r s w hm h => ?_
 refine nw h ?_; clear h; (try clear w); intro b w h
 exact ⟨_, rfl, hk b _ w ⟨r, s, [], hm, by simp, rfl, by simp⟩ h.glue⟩
def mayV (is : Bool) (tv ver : Int) (fresh : Bool) : Int :=
 if fresh = true ∧ ver = 0 then (if is = true then 5 else 0) else if is = true then (if tv = ver then 0 else 7) else 6
theorem RackR.put {r b : Nat} {Q : List RtE} {sm : Seg} (x : RtE) (hx : x.ok) (hQ : ∀ x ∈ Q, x.ok) (hm : MpS Value.string vThr r (mset (Q.map RtE.kt) x.k x.t) sm)
  (h : St w0 (x.sg :: (Q.map RtE.sg).flatten :: [Cl b z2X [.map (some r), .func (.func z2N) #[] #[]]] :: sm :: E) w) :
  ∃ s, RackR b (mset (Q.map RtE.ka) x.k x.abs) s ∧ St w0 (s :: E) w := by
 have e1 := z9D (key := RtE.k) RtE.t x Q
 have e2 := z9D (key := RtE.k) RtE.abs x Q
 have h := St.lput (key := RtE.k) h
 refine ⟨_, ⟨r, sm, lput RtE.k Q x, by rw [e1]; exact hm, fun y hy => ?_, e2.symm, rfl⟩, ?_⟩
 ·rcases zdI hy with rfl | hy
  ·exact hx
  ·exact hQ y hy
 ·have h := fr2_ (fr2_ h)
  exact h.glue3
def dropRt (m : List (ByteArray × AThr)) (n : ByteArray) : List (ByteArray × AThr) := mset m n ⟨⟨s_, s_, [], 0⟩, 0, (rget m n).gen, false⟩
def argS (l : List ByteArray) (m : Nat) : TT [.one .str] := ((l[m]?).getD s_, ())
theorem zj9 {l : List ByteArray} {m : Nat} {x : ByteArray} (h : l[m]? = some x) : argS l m = (x, ()) := by simp [argS, h]
structure AShelf where
 m : List (ByteArray × Thg)
 r : List (ByteArray × AThr)
 n : Int
structure AShelf.Ok (a : AShelf) : Prop where
 lo : 0 ≤ a.n
 hi : a.n < 1000000000
 gen : ∀ x, 0 ≤ (tget a.m x).gen ∧ (tget a.m x).gen ≤ a.n
 fm : a.m.length ≤ a.n
 fr : a.r.length ≤ a.n
abbrev shB (b bc br : Nat) (n : Int) : Seg := [Cl b z9Q [.pointer (some ⟨bc, 0, none⟩), .pointer (some ⟨br, 0, none⟩), I n]]
def ShS (b : Nat) (a : AShelf) (s : Seg) : Prop := a.Ok ∧ ∃ bc br sc sr, RackS bc a.m sc ∧ RackR br a.r sr ∧ s = shB b bc br a.n ++ (sc ++ sr)
theorem zgh (m : List (ByteArray × Thg)) (n x : ByteArray) (t : Thg) : tget (mset m n t) x = if n = x then t else tget m x := by
 unfold tget; rw [z5B]; split <;> rfl
theorem ziF {κ υ : Type} [DecidableEq κ] (m : List (κ × υ)) (k : κ) (u : υ) : (mset m k u).length ≤ m.length + 1 := by
 cases h : mget m k with
 | none => rw [z3l h]; simp
 | some v => rw [zdH h]; omega
def shPut (a : AShelf) (c : Cfg) (ver : Int) : AShelf × Int × Int :=
 if specC c ≠ 0 then (a, 0, specC c) else if mayC (tget a.m c.1) ver true ≠ 0 then (a, 0, mayC (tget a.m c.1) ver true) else (⟨putC a.m c.1 c (a.n + 1), a.r, a.n + 1⟩, a.n + 1, 0)
theorem zlN (h : St w0 E w) (i : Nat) {b : Nat} {a : AShelf} {s : Seg} (hi : nth E i = some s) (hs : ShS b a s) (hn : a.n < 900000000) {c : Cfg} {ver : Int} {k : Int × Int × Unit → PT}
  (hk : ∀ s' w', ShS b (shPut a c ver).1 s' → St w0 (setN E i s') w' → k ((shPut a c ver).2.1, (shPut a c ver).2.2, ()) w') :
  L.call Pr z2B [.pointer (some ⟨b, 0, none⟩), .agg (Cfg.cells c).toArray, I ver] (.tup [.one (.int .i64), .one (.int .i64)]) k w := by
 have hs0 := hs
 obtain ⟨ok, bc, br, sc, sr, hC, hR, rfl⟩ := hs
 have hlo := ok.lo
 refine z00 (z78 _ c _) ?_
 unfold z4r
 have h := (h.front i hi).split3
 refine nw h ?_; clear h; (try clear w); intro b1 w h
 (refine laC h ?_)
 refine zjg (c := c) h fun w h => ?_
 unfold shPut at hk
 refine jd ?_
 refine it (fun he => ?_) (fun he => ?_) <;> (try simp only [zB] at he)
 ·(refine dr h ?_; clear h; (try clear w); intro w h; refine nn ?_; refine ldC h ?_; refine ldC h ?_)
  refine zn4 h 2 rfl hC fun w h => ?_
  rw [if_neg (by simpa using he)] at hk
  refine it (fun hm => ?_) (fun hm => ?_) <;> (try simp only [zB] at hm)
  ·rw [if_pos hm] at hk
   exact ⟨_, rfl, hk _ w hs0 (St.back i hi (dl0_ h).glue3)⟩
  ·rw [if_neg (by simpa using hm)] at hk
   (refine nn ?_; refine ldC h ?_; refine nn ?_; refine stC h ?_; clear h; (try clear w); intro w h; dsimp only [putN, setN] at h; refine dr h ?_; clear h; (try clear w); intro w h; refine nn ?_; refine ldC h ?_; refine ldC h ?_; refine laC h ?_; refine nn ?_; refine ldC h ?_)
   rw [wr (by omega) (by omega)] at h ⊢
   have hgc := ok.gen c.1
   refine zn1 (c := c) h 2 rfl hC (by omega) fun sc' w hC' h => ?_
   have h : St w0 ([Cl b1 z0b (Cfg.cells c)] :: shB b bc br (a.n + 1) :: sc' :: sr :: delN E i) w := h
   (refine nn ?_; refine ldC h ?_)
   refine ⟨(a.n + 1, 0, ()), rfl, hk _ w ⟨⟨by simp only; omega, by simp only; omega, fun x => ?_, ?_, ?_⟩, bc, br, sc', sr, hC', hR, rfl⟩ (St.back i hi (dl0_ h).glue3)⟩
   ·simp only [putC]
    rw [zgh]
    have hx := ok.gen x
    split
    ·simp only [thgOf, Thg.gen]
     split <;> constructor <;> (simp only [Thg.gen] at hgc ⊢; omega)
    ·omega
   ·have := ok.fm; have := ziF a.m c.1 (thgOf c (a.n + 1) (if (tget a.m c.1).is = true ∧ sameC (cfgOf (tget a.m c.1)) c = true then (tget a.m c.1).gen else (tget a.m c.1).gen + 1) true)
    simp only [putC]; omega
   ·have := ok.fr; simp only; omega
 ·refine it (fun hm => ?_) (fun hm => ?_) <;> (try simp only [zB] at hm)
  ·rw [if_pos he] at hk
   exact ⟨_, rfl, hk _ w hs0 (St.back i hi (dl0_ h).glue3)⟩
  ·exact (he hm).elim
theorem zlB {T : List (ByteArray × Rv)} {n : ByteArray} (h : ∀ p ∈ T, p.2.1 = p.1 ∧ p.1 ≠ s_) {t : Rv} (hm : mget T n = some t) : t.1 = n ∧ n ≠ s_ := by
 have := z3T hm
 have h2 := h _ this
 exact h2
def nbRv (x6 : Rv) : Bool := !((x6.1 == s_) && ((x6.2.1 == 0) && ((x6.2.2.1 == s_) && ((x6.2.2.2.1 == 0) && ((x6.2.2.2.2.1 == 0) && ((x6.2.2.2.2.2.1 == 0) && ((x6.2.2.2.2.2.2.1 == 0) && ((x6.2.2.2.2.2.2.2.1 == 0) && true))))))))
theorem nbRv1 {t : Rv} (ht : t.1 ≠ s_) : nbRv t = true := by
 have : (t.1 == s_) = false := by
  cases e : (t.1 == s_) with
  | false => rfl
  | true => exact absurd (zj8.1 e) ht
 unfold nbRv
 rw [this]; rfl
theorem zjr (h : St w0 E w) (i : Nat) {b : Nat} {a : ABook} {s : Seg} (hi : nth E i = some s) (hs : BkS b a s) {c : Cfg} {g : Nat} (hc : shortB c.1.data.toList 16 = true) (h1 : 1 ≤ g) (hg : g < 100) (hf : a.all.length < 999999) {k : ByteArray × Bool × Unit → PT}
  (hk : ∀ s' w', BkS b (bkStamp a c g).1 s' → St w0 (setN E i s') w' → k ((bkStamp a c g).2.1, (bkStamp a c g).2.2, ()) w') :
  L.call Pr z4d [.pointer (some ⟨b, 0, none⟩), .agg (Cfg.cells c).toArray, I g] (.tup [.one .str, .one .bool]) k w := by
 have hs0 := hs
 obtain ⟨ok, rA, rP, sA, sP, hA, hP, rfl⟩ := hs
 refine z00 (zac _ c _) ?_
 unfold z6b
 have hne := zld c.1 hg
 unfold bkStamp bkHas at hk
 have h := (h.front i hi).split3
 refine nw h ?_; clear h; (try clear w); intro b1 w h
 (refine ldC h ?_)
 refine zni h z4F hc h1 hg fun w h => ?_
 generalize revB c.1 g = rev at hk hne
 refine itF (by rw [z7d]; exact decide_eq_false hne) ?_
 (refine nn ?_; refine ldC h ?_)
 refine rlookup h 2 rfl hA ?_
 unfold L.chkSem
 cases hm : mget a.all rev with
 | none =>
  rw [hm] at hk
  refine ⟨zmx w, itF rfl ?_⟩
  rw [if_neg (by simp)] at hk
  (refine dr h ?_; clear h; (try clear w); intro w h; refine nn ?_; refine ldC h ?_; refine laC h ?_)
  refine MpS.set mkStr zdo h 2 rfl hA (rvOf rev g c) rfl fun sA' w hA' h => ?_
  dsimp only [setN] at h
  refine ⟨(rev, true, ()), rfl, hk _ w ⟨⟨?_, ?_⟩, rA, rP, sA', sP, hA', hP, rfl⟩ (St.back i hi (dl0_ h).glue3)⟩
  ·intro p hp
   rcases z1A hp with rfl | hp
   ·exact ⟨rfl, hne⟩
   ·exact ok.name p hp
  ·have := ziF a.all rev (rvOf rev g c); show (mset a.all rev (rvOf rev g c)).length < 1000000; omega
 | some t =>
  rw [hm] at hk
  have ht := zlB ok.name hm
  have ht1 : t.1 ≠ s_ := by rw [ht.1]; exact ht.2
  dsimp only [Option.getD]
  refine ⟨(zmw t ht1 w).trans (by show _ = Result.ok (Value.bool (nbRv t)) w; rw [nbRv1 ht1]), itT (nbRv1 ht1) ?_⟩
  rw [if_pos (by rfl)] at hk
  exact ⟨(rev, false, ()), rfl, hk _ w hs0 (St.back i hi (dl0_ h).glue3)⟩
theorem zjt (h : St w0 E w) (i : Nat) {s : Seg} (hi : nth E i = some s) {r : Nat} {m : List (ByteArray × Rv)} (hm : MpS Value.string vRv r m s) (hn : m.length < 1000000000) {k : Sl → PT}
  (hk : ∀ v s' w', Rw eS z01 1 v (ssort (m.map (·.1))) s' → St w0 (s' :: E) w' → k v w') : L.call Pr z1r [.map (some r)] (.one (.one .slice)) k w := by
 refine z00 (z4v _) ?_
 unfold z2s
 refine z00 (z1H _) ?_
 unfold z0S
 have h := h.front i hi
 refine nw h ?_; clear h; (try clear w); intro c w h
 refine ⟨⟨.func z08, #[], #[.pointer (some ⟨c, 0, none⟩)]⟩, rfl, ?_⟩
 have hY : YldM Pr w0 [[Cl c z0k [.map (some r)]], s] (.func (.func z08) #[] #[.pointer (some ⟨c, 0, none⟩)]) (m.map (·.1)) Value.string := by
  intro yv R J Jd F w h hJ step fin fin2
  refine ⟨z1C, z1D yv ⟨c, 0, none⟩ ?_⟩
  unfold z0M
  exact zfI (kv := Value.string) (vv := vRv) unS (fun _ => rfl) zdo (lk := .str) (ev := eRv) (fun x => x) (fun _ => rfl) (fun x : Rv => x) (fun _ => rfl) J Jd hm h hJ (fun seen k F X w hl hJ h => step seen k F X w (by simpa using hl) hJ h) fin fin2
 refine z9V (fv := ⟨.func z08, #[], #[.pointer (some ⟨c, 0, none⟩)]⟩) hY h (by simpa using hn) fun v s' w hr h => ⟨v, rfl, hk v s' w hr ?_⟩
 have h := fr1_ h
 exact St.again (i + 1) (E := s' :: E) hi h
def bkAll (a : ABook) : List ByteArray := ssort (a.all.map (·.1))
theorem zju (h : St w0 E w) (i : Nat) {b : Nat} {a : ABook} {s : Seg} (hi : nth E i = some s) (hs : BkS b a s) {k : Sl → PT} (hk : ∀ v s' w', Rw eS z01 1 v (bkAll a) s' → St w0 (s' :: E) w' → k v w') :
  L.call Pr z4Z [.pointer (some ⟨b, 0, none⟩)] (.one (.one .slice)) k w := by
 obtain ⟨ok, rA, rP, sA, sP, hA, hP, rfl⟩ := hs
 refine z00 (zbp _) ?_
 unfold z7i
 have h := (h.front i hi).split3
 have hf := ok.few
 (refine nn ?_; refine ldC h ?_)
 refine zjt h 1 rfl hA (by omega) fun v s' w hr h => ?_
 refine z9W h (Rw.rd encS h 0 rfl hr) (by rw [z6q, List.length_map]; omega) (Rw.nil0 encS hr) fun v' s2 w hr2 _ h => ⟨v', rfl, hk v' s2 w hr2 ?_⟩
 have h := dl1_ h
 have h := fr3_ (fr3_ (fr3_ h))
 have h := h.glue3
 exact St.again (i + 1) (E := s2 :: E) hi h
def bkStep (a : ABook) (c : ByteArray) (q : ByteArray → Bool) (t : Rv) (rev : ByteArray) : Rv :=
 if (bkGet a rev).2.2.1 = c then if t.2.1 < (bkGet a rev).2.1 then if q rev = true then bkGet a rev else t else t else t
def bkBest (a : ABook) (c : ByteArray) (q : ByteArray → Bool) : Rv := (bkAll a).foldl (bkStep a c q) noRv
def bkReady (a : ABook) (c : ByteArray) : ByteArray := (bkBest a c (bkProved a)).1
end Go.Proofs.YtkmalcoocklikaaGreatDoor

namespace Go.Proofs
open Go.Shelf
def Tryz.laysM171_ren : Go.Shelf.Ren := ⟨fun | 171 => 73 | 243 => 134 | 246 => 207 | 283 => 258 | 284 => 259 | 285 => 260 | 286 => 261 | 129 => 246 | 317 => 291 | 318 => 292 | 319 => 293 | 320 => 294 | 337 => 310 | 338 => 311 | n => n, fun | 3 => 3 | 9 => 9 | 2 => 2 | 4 => 4 | 171 => 404 | 0 => 0 | 53 => 398 | 37 => 85 | 5 => 5 | 173 => 406 | 212 => 440 | 51 => 396 | 20 => 20 | 213 => 441 | 46 => 331 | 232 => 464 | 233 => 465 | n => n, fun | 17 => 1 | 18 => 4 | 19 => 5 | n => n⟩
theorem Tryz.laysM171 : Go.Proofs.LaysM.n171 Tryz.prog Tryz.laysM171_ren := {
 mixed := by kernel_rfl
 f129 := Tryz.func246.trans (congrArg some (by kernel_rfl))
 f171 := Tryz.func73.trans (congrArg some (by kernel_rfl))
 f243 := Tryz.func134.trans (congrArg some (by kernel_rfl))
 f246 := Tryz.func207.trans (congrArg some (by kernel_rfl))
 f283 := Tryz.func258.trans (congrArg some (by kernel_rfl))
 f284 := Tryz.func259.trans (congrArg some (by kernel_rfl))
 f285 := Tryz.func260.trans (congrArg some (by kernel_rfl))
 f286 := Tryz.func261.trans (congrArg some (by kernel_rfl))
 f317 := Tryz.func291.trans (congrArg some (by kernel_rfl))
 f318 := Tryz.func292.trans (congrArg some (by kernel_rfl))
 f319 := Tryz.func293.trans (congrArg some (by kernel_rfl))
 f320 := Tryz.func294.trans (congrArg some (by kernel_rfl))
 f337 := Tryz.func310.trans (congrArg some (by kernel_rfl))
 f338 := Tryz.func311.trans (congrArg some (by kernel_rfl))
 t0 := Tryz.underlying0
 a0 := Tryz.isAgg0
 z0 := Tryz.sizeOf0
 v0 := Tryz.zeroValue0
 t2 := Tryz.underlying2
 a2 := Tryz.isAgg2
 z2 := Tryz.sizeOf2
 v2 := Tryz.zeroValue2
 t3 := Tryz.underlying3
 a3 := Tryz.isAgg3
 z3 := Tryz.sizeOf3
 v3 := Tryz.zeroValue3
 t4 := Tryz.underlying4
 a4 := Tryz.isAgg4
 z4 := Tryz.sizeOf4
 v4 := Tryz.zeroValue4
 t5 := Tryz.underlying5
 a5 := Tryz.isAgg5
 z5 := Tryz.sizeOf5
 v5 := Tryz.zeroValue5
 t9 := Tryz.underlying9
 a9 := Tryz.isAgg9
 z9 := Tryz.sizeOf9
 v9 := Tryz.zeroValue9
 t20 := Tryz.underlying20
 a20 := Tryz.isAgg20
 z20 := Tryz.sizeOf20
 v20 := Tryz.zeroValue20
 t37 := Tryz.underlying85
 a37 := Tryz.isAgg85
 z37 := Tryz.sizeOf85
 v37 := Tryz.zeroValue85
 t46 := Tryz.underlying331
 a46 := Tryz.isAgg331
 z46 := Tryz.sizeOf331
 v46 := Tryz.zeroValue331
 t51 := Tryz.underlying396
 a51 := Tryz.isAgg396
 z51 := Tryz.sizeOf396
 v51 := Tryz.zeroValue396
 t53 := Tryz.underlying398
 a53 := Tryz.isAgg398
 z53 := Tryz.sizeOf398
 v53 := Tryz.zeroValue398
 t171 := Tryz.underlying404
 a171 := Tryz.isAgg404
 z171 := Tryz.sizeOf404
 v171 := Tryz.zeroValue404
 t173 := Tryz.underlying406
 a173 := Tryz.isAgg406
 z173 := Tryz.sizeOf406
 v173 := Tryz.zeroValue406
 t212 := Tryz.underlying440
 a212 := Tryz.isAgg440
 z212 := Tryz.sizeOf440
 v212 := Tryz.zeroValue440
 t213 := Tryz.underlying441
 a213 := Tryz.isAgg441
 z213 := Tryz.sizeOf441
 t232 := Tryz.underlying464
 a232 := Tryz.isAgg464
 z232 := Tryz.sizeOf464
 v232 := Tryz.zeroValue464
 t233 := Tryz.underlying465
 a233 := Tryz.isAgg465
 z233 := Tryz.sizeOf465
 v233 := Tryz.zeroValue465
 g17 := by kernel_rfl
 g18 := by kernel_rfl
 g19 := by kernel_rfl
 i0 := by kernel_rfl
 i2 := by kernel_rfl
 i3 := by kernel_rfl
 i4 := by kernel_rfl
 i5 := by kernel_rfl
 i9 := by kernel_rfl
 i20 := by kernel_rfl
 i37 := by kernel_rfl
 i46 := by kernel_rfl
 i51 := by kernel_rfl
 i53 := by kernel_rfl
 i171 := by kernel_rfl
 i173 := by kernel_rfl
 i212 := by kernel_rfl
 i232 := by kernel_rfl
 i233 := by kernel_rfl
 m17 := by kernel_rfl
 m18 := by kernel_rfl
 m19 := by kernel_rfl }
open Go.RowKit Go.Sort Go.Lib in
theorem Tryz.strconv_Itoa (n : Int) (h0 : -9223372036854775808 ≤ n) (h1 : n ≤ 9223372036854775807) (w : World) (htab : Lib.TabIs Tryz.prog w "internal/strconv.uint64pow10" .u64 Lib.pow10Tab) :
  Calls Tryz.prog 73 #[.int .i64 n] w fun e w' => e = .returned (.string ⟨(Lib.itoa n).toArray⟩) ∧ ∃ k os, w' = grow (w.drewN k) os := Any.strconv_Itoa Tryz.laysM171 n h0 h1 w htab
end Go.Proofs

namespace Go.Proofs
open Go.Shelf
def Tryz.lays156_ren : Go.Shelf.Ren := ⟨fun | 156 => 74 | 165 => 135 | 166 => 136 | 169 => 137 | 240 => 208 | 241 => 209 | 276 => 262 | 277 => 263 | n => n, fun | 31 => 33 | 9 => 9 | 3 => 3 | 4 => 4 | 0 => 0 | 20 => 20 | 72 => 243 | 76 => 246 | 70 => 241 | 37 => 85 | 75 => 245 | 127 => 366 | 164 => 408 | 5 => 5 | 80 => 73 | n => n, fun | n => n⟩
theorem Tryz.lays156 : Go.Proofs.Lays.n156 Tryz.prog Tryz.lays156_ren := {
 mixed := by kernel_rfl
 f156 := Tryz.func74.trans (congrArg some (by kernel_rfl))
 f165 := Tryz.func135.trans (congrArg some (by kernel_rfl))
 f166 := Tryz.func136.trans (congrArg some (by kernel_rfl))
 f169 := Tryz.func137.trans (congrArg some (by kernel_rfl))
 f240 := Tryz.func208.trans (congrArg some (by kernel_rfl))
 f241 := Tryz.func209.trans (congrArg some (by kernel_rfl))
 f276 := Tryz.func262.trans (congrArg some (by kernel_rfl))
 f277 := Tryz.func263.trans (congrArg some (by kernel_rfl))
 t0 := Tryz.underlying0
 a0 := Tryz.isAgg0
 z0 := Tryz.sizeOf0
 v0 := Tryz.zeroValue0
 t3 := Tryz.underlying3
 a3 := Tryz.isAgg3
 z3 := Tryz.sizeOf3
 v3 := Tryz.zeroValue3
 t4 := Tryz.underlying4
 a4 := Tryz.isAgg4
 z4 := Tryz.sizeOf4
 v4 := Tryz.zeroValue4
 t9 := Tryz.underlying9
 a9 := Tryz.isAgg9
 z9 := Tryz.sizeOf9
 v9 := Tryz.zeroValue9
 t20 := Tryz.underlying20
 a20 := Tryz.isAgg20
 z20 := Tryz.sizeOf20
 v20 := Tryz.zeroValue20
 t31 := Tryz.underlying33
 a31 := Tryz.isAgg33
 z31 := Tryz.sizeOf33
 v31 := Tryz.zeroValue33
 t37 := Tryz.underlying85
 a37 := Tryz.isAgg85
 z37 := Tryz.sizeOf85
 v37 := Tryz.zeroValue85
 t70 := Tryz.underlying241
 a70 := Tryz.isAgg241
 z70 := Tryz.sizeOf241
 v70 := Tryz.zeroValue241
 t72 := Tryz.underlying243
 a72 := Tryz.isAgg243
 z72 := Tryz.sizeOf243
 v72 := Tryz.zeroValue243
 t75 := Tryz.underlying245
 a75 := Tryz.isAgg245
 z75 := Tryz.sizeOf245
 v75 := Tryz.zeroValue245
 t76 := Tryz.underlying246
 a76 := Tryz.isAgg246
 z76 := Tryz.sizeOf246
 v76 := Tryz.zeroValue246
 t127 := Tryz.underlying366
 a127 := Tryz.isAgg366
 z127 := Tryz.sizeOf366
 v127 := Tryz.zeroValue366
 t164 := Tryz.underlying408
 a164 := Tryz.isAgg408
 z164 := Tryz.sizeOf408
 v164 := Tryz.zeroValue408 }
theorem Tryz.Builder_Extra_156 : Builder.Extra Tryz.prog Tryz.lays156_ren := {
 sizeBuilder := by kernel_rfl
 liesBuilder := by kernel_rfl
 t5 := Tryz.underlying5
 a5 := Tryz.isAgg5
 z5 := Tryz.sizeOf5
 v5 := Tryz.zeroValue5
 infoByte := by kernel_rfl
 cellsByte := by kernel_rfl
 sizeByte := by kernel_rfl
 neB5 := by decide }
open Go.RowKit in
theorem Tryz.strings_Join (bk o c : Nat) (xs : List ByteArray) (sep : ByteArray) (w : World)
  (hcells : ∀ (j : Nat) x, xs[j]? = some x → w.cell? ⟨bk, o + j, none⟩ = some (.string x))
  (hbk : bk < w.heap.size) (hN : xs.length ≤ 140737488355328) (hcap : xs.length ≤ c)
  (hlen : (Lib.join (xs.map (·.data.toList)) sep.data.toList).length ≤ 140737488355328) :
  Calls Tryz.prog 74 #[.slice (some ⟨bk, o, none⟩) xs.length c, .string sep] w fun e w' => e = .returned (.string ⟨(Lib.join (xs.map (·.data.toList)) sep.data.toList).toArray⟩) ∧ Below w.heap.size w w' := Any.strings_Join Tryz.lays156 Tryz.Builder_Extra_156 bk o c xs sep w hcells hbk hN hcap hlen
end Go.Proofs
namespace Go.Proofs.YtkmalcoocklikaaGreatDoor
open Go.Dm
attribute [local irreducible] L.load L.store L.chk L.new L.nonnil L.guard L.ite L.draw L.idx L.sem L.semR L.semU L.chkSem L.next L.call L.callV L.join L.alts L.loop L.begin L.endRound L.range
variable {w0 w : World} {E : List Seg}
abbrev bTab (w0 : World) := Tab Pr w0
theorem zmb [bTab w0] (h : St w0 E w) {n : Int} (h0 : 0 ≤ n) (h1 : n ≤ 9223372036854775807) {k : ByteArray → PT} (hk : ∀ w', St w0 E w' → k (decD n.toNat) w') : L.call Pr z3L [I n] (.one (.one .str)) k w := by
 refine z8z (Tryz.strconv_Itoa n (by omega) h1 w h.tab) fun e w' ⟨he, m, os, hw⟩ => ⟨decD n.toNat, ?_, ?_⟩
 ·rw [he, ← zk4, Int.toNat_of_nonneg h0]; rfl
 ·subst hw
  exact hk _ ((h.drawn).grow os)
theorem zjw (h : St w0 E w) (i : Nat) {s : Seg} (hi : nth E i = some s) {v : Sl} {l : List ByteArray} (hr : Rw eS z01 1 v l s) (hn : l.length < 1000000000) (hsz : (joinB l).size < 1000000000000) {k : ByteArray → PT} (hk : ∀ w', St w0 E w' → k (joinB l) w') :
  L.call Pr z6l [SlV v, .string z9v] (.one (.one .str)) k w := by
 refine zk3 (e := z01) (s := s) (v := v) (l := l) rfl encS (fun g off cap w h1 h2 h3 => Tryz.strings_Join g off cap l z9v w h1 h2 (by omega) h3 ?_) (fun p cap w => Any.strings_Join_none Tryz.lays156 Tryz.Builder_Extra_156 p cap z9v w) h i hi hr hk
 have : (joinB l).size = (Lib.join (l.map (·.data.toList)) [32]).length := by rw [← z3c, z8y]
 show (Lib.join (l.map (·.data.toList)) [32]).length ≤ _
 omega
def revOk (r : ByteArray) : Prop := r = s_ ∨ ∃ c g, shortB c.data.toList 16 = true ∧ 1 ≤ g ∧ g < 100 ∧ r = revB c g
def tagBad (t : ByteArray) : Bool := !decide (t = s_) && !shortB t.data.toList 8
def tgE (t : Tgt) : Int := if tagBad t.2.1 = true then 1 else if 0 ≤ @id Int t.2.2.1 ∧ @id Int t.2.2.1 ≤ 100 then 0 else 2
theorem zmq (c : ByteArray) {g : Nat} (hg : g < 100) : revB c g ≠ s_ := fun e => by
 have := z8s c hg
 rw [e] at this
 have h0 : s_.size = 0 := rfl
 omega
theorem zkt (h : St w0 E w) {t : Tgt} (hr : revOk t.1) {k : Int → PT} (hk : ∀ w', St w0 E w' → k (tgE t) w') : L.call Pr z6O [.agg #[.string t.1, .string t.2.1, I t.2.2.1]] (.one (.one (.int .i64))) k w := by
 refine z00 (zdZ t) ?_
 unfold z9Z
 refine nw h ?_; clear h; (try clear w); intro b1 w h
 (refine ldC h ?_)
 have fin : ∀ {w}, St w0 ([Cl b1 z0O [.string t.1, .string t.2.1, I t.2.2.1]] :: E) w →
   (L.ite (tagBad t.2.1) (fun w' => ∃ y, Value.int .i64 1 = RT.val (.one (.one (.int .i64))) y ∧ k y w') <|
    L.load (.one (.int .i64)) ((⟨b1, 0, none⟩ : Addr).add 2) fun (x13 : Int) =>
    L.callV Pr (.func (.func z0T) #[.agg #[.int .i64 0, .int .i64 100]] #[]) [.int .i64 x13] (.one (.one (.bool))) fun (x14 : Bool) =>
    L.ite (!x14) (fun w' => ∃ y, Value.int .i64 2 = RT.val (.one (.one (.int .i64))) y ∧ k y w') <|
    fun w' => ∃ y, Value.int .i64 0 = RT.val (.one (.one (.int .i64))) y ∧ k y w') w := by
  intro w h
  refine it (fun hb => ?_) (fun hb => ?_)
  ·have := hk w (dl0_ h)
   unfold tgE at this
   rw [if_pos hb] at this
   exact ⟨1, rfl, this⟩
  ·(refine ldC h ?_)
   refine z3U (fs := #[.agg #[.int .i64 0, .int .i64 100]]) (cs := #[]) zcq (z8f (0, 100, ()) t.2.2.1) ?_
   unfold z5N
   refine nw h ?_; clear h; (try clear w); intro b2 w h
   (dsimp only [setN, List.cons_append, List.nil_append] at h; refine ldC h ?_)
   have fin2 : ∀ {w}, ∀ b : Bool, (b = decide (0 ≤ @id Int t.2.2.1 ∧ @id Int t.2.2.1 ≤ 100)) → St w0 ([Cl b2 zcd [I 0, I 100]] :: [Cl b1 z0O [.string t.1, .string t.2.1, I t.2.2.1]] :: E) w → (∃ x, Value.bool b = RT.val (.one (.one .bool)) x ∧
     (L.ite (!x) (fun w' => ∃ y, Value.int .i64 2 = RT.val (.one (.one (.int .i64))) y ∧ k y w') <| fun w' => ∃ y, Value.int .i64 0 = RT.val (.one (.one (.int .i64))) y ∧ k y w') w) := by
    intro w b e h
    refine ⟨b, rfl, ?_⟩
    have := hk w (dl0_ (dl0_ h))
    unfold tgE at this
    rw [if_neg (by simp [hb])] at this
    refine it (fun hx => ?_) (fun hx => ?_)
    ·have hx : b = false := by simpa using hx
     rw [if_neg (of_decide_eq_false (e.symm.trans hx))] at this
     exact ⟨2, rfl, this⟩
    ·have hx : b = true := by simpa using hx
     rw [if_pos (of_decide_eq_true (e.symm.trans hx))] at this
     exact ⟨0, rfl, this⟩
   refine it (fun h0 => ?_) (fun h0 => ?_)
   ·have h0 := of_decide_eq_true h0
    (refine ldC h ?_)
    refine fin2 _ ?_ h
    exact decide_eq_decide.2 ⟨fun hh => ⟨h0, hh⟩, fun hh => hh.2⟩
   ·have h0 := of_decide_eq_false h0
    exact fin2 _ (decide_eq_false fun hh => h0 hh.1).symm h
 have tag : ∀ {w} {k4 : Bool × Unit → PT}, (∀ w', St w0 ([Cl b1 z0O [.string t.1, .string t.2.1, I t.2.2.1]] :: E) w' → k4 (tagBad t.2.1, ()) w') → St w0 ([Cl b1 z0O [.string t.1, .string t.2.1, I t.2.2.1]] :: E) w →
   (L.load (.one (.str)) ((⟨b1, 0, none⟩ : Addr).add 1) fun (x7 : ByteArray) =>
    L.ite (!(x7.toList == s_.toList)) (
     L.load (.one (.str)) ((⟨b1, 0, none⟩ : Addr).add 1) fun (x8 : ByteArray) =>
     L.call Pr z2C [.string x8] (.one (.one (.bool))) fun (x9 : Bool) =>
     k4 (!x9, ())) <|
    k4 (false, ())) w := by
  intro w k4 hk4 h
  (refine ldC h ?_)
  rw [z7d]
  refine it (fun hb => ?_) (fun hb => ?_)
  ·have hb : decide (t.2.1 = s_) = false := by simpa using hb
   (refine ldC h ?_)
   refine znh h z4F fun w h => ?_
   have := hk4 w h
   unfold tagBad at this
   rw [hb] at this
   exact this
  ·have hb : decide (t.2.1 = s_) = true := by simpa using hb
   have := hk4 w h
   unfold tagBad at this
   rw [hb] at this
   exact this
 rcases hr with hr | ⟨c, g, hc, h1, hg, hr⟩
 ·rw [hr] at h fin tag ⊢
  refine zkE ?_
  refine z1k (fun z w => z = (tagBad t.2.1, ()) ∧ St w0 ([Cl b1 z0O [.string s_, .string t.2.1, I t.2.2.1]] :: E) w) (fun k4 hk4 => ?_) (fun z w ⟨hz, h⟩ => by subst hz; exact fin h)
  (refine ldC h ?_)
  refine itF (by simp) ?_
  exact tag (fun w h => hk4 _ w ⟨rfl, h⟩) h
 ·rw [hr] at h fin tag ⊢
  refine zg6 h z4F hc h1 hg fun w h => ?_
  refine z1k (fun z w => z = (tagBad t.2.1, ()) ∧ St w0 ([Cl b1 z0O [.string (revB c g), .string t.2.1, I t.2.2.1]] :: E) w) (fun k4 hk4 => ?_) (fun z w ⟨hz, h⟩ => by subst hz; exact fin h)
  (refine ldC h ?_)
  refine itT (by rw [z7d]; simp [zmq c hg]) (itF rfl ?_)
  exact tag (fun w h => hk4 _ w ⟨rfl, h⟩) h
abbrev tagIs (g : ByteArray) (x : Tgt) : Bool := decide (x.2.1 = g)
theorem zhQ {b : Nat} {t : Tgt} (h : St w0 ([Cl b z0O (eT t)] :: E) w) {v : Sl} {ts : List Tgt} (r : RdE w0 E eT v ts) (hn : ts.length < 1000000) {k : Bool → PT} (hk : ∀ w', St w0 ([Cl b z0O (eT t)] :: E) w' → k (ts.any (tagIs t.2.1)) w') :
  L.call Pr z0P [.slice v.a v.len v.cap, .func (.func z45) #[] #[.pointer (some ⟨b, 0, none⟩)]] (.one (.one .bool)) k w := by
 refine z00 (z2K v ⟨.func z45, #[], #[.pointer (some ⟨b, 0, none⟩)]⟩) ?_
 unfold z1l
 refine z00 (z39 v ⟨.func z45, #[], #[.pointer (some ⟨b, 0, none⟩)]⟩) ?_
 unfold z1x
 have hl := (r w (dl0_ h)).len
 refine z0G (fun q y w => ∃ i : Nat, y = ((i : Int), ()) ∧ q + i = ts.length ∧ (ts.take i).any (tagIs t.2.1) = false ∧ St w0 ([Cl b z0O (eT t)] :: E) w) ts.length ⟨0, rfl, rfl, rfl, h⟩ ?_
 clear h; (try clear w)
 rintro q y w ⟨i, rfl, hq, hno, h⟩ again hag
 dsimp only
 refine it (fun hb => ?_) (fun hb => ?_) <;> (try simp only [zB] at hb)
 ·have hi : i < ts.length := by omega
  have hx : ts[i]? = some ts[i] := List.getElem?_eq_getElem hi
  generalize ts[i] = x at hx
  have rr := r w (dl0_ h)
  refine rr.ix encT (by omega) (by simpa using hi) fun a ha => ?_
  rw [Int.toNat_natCast] at ha
  refine rr.lda encT ha hx rfl ?_
  refine z3U (fs := #[]) (cs := #[.pointer (some ⟨b, 0, none⟩)]) zf8 (zfc x ⟨b, 0, none⟩) ?_
  unfold zb5
  have h : St w0 ([Cl b z0O [.string t.1, .string t.2.1, I t.2.2.1]] :: E) w := h
  refine nw h ?_; clear h; (try clear w); intro b1 w h
  (refine ldC h ?_; refine ldC h ?_)
  refine ⟨_, rfl, ?_⟩
  have h : St w0 ([Cl b z0O (eT t)] :: E) w := dl0_ h
  rw [z7d]
  refine it (fun hc => ?_) (fun hc => ?_)
  ·refine ⟨_, rfl, _, rfl, ?_⟩
   have e : ts.any (tagIs t.2.1) = true := List.any_eq_true.2 ⟨x, List.mem_of_getElem? hx, hc⟩
   have := hk w h
   rw [e] at this
   rw [decide_eq_true (show (i : Int) ≥ 0 by omega)]
   exact this
  ·rw [wr (by omega) (by omega)]
   refine hag (q - 1) _ w (by omega) ⟨i + 1, by simp, by omega, ?_, h⟩
   rw [List.take_add_one, hx, List.any_append, hno]
   simpa using hc
 ·have e : ts.take i = ts := List.take_of_length_le (by omega)
  rw [e] at hno
  refine ⟨_, rfl, _, rfl, ?_⟩
  have := hk w h
  rw [hno] at this
  exact this
def twiceAt (ts : List Tgt) (i : Nat) : Bool := match ts[i]? with
 | some t => !decide (t.2.1 = s_) && (ts.take i).any (tagIs t.2.1)
 | none => false
def pct (t : Tgt) : Int := t.2.2.1
def allE (ts : List Tgt) : Int := if (List.range ts.length).any (twiceAt ts) = true then 5 else if (ts.map pct).sum = 100 then 0 else 4
theorem zmk {l : List Tgt} (h : ∀ t ∈ l, 0 ≤ pct t ∧ pct t ≤ 100) : 0 ≤ (l.map pct).sum ∧ (l.map pct).sum ≤ 100 * l.length := by
 induction l with
 | nil => simp
 | cons t l ih =>
  have h1 := h t (by simp)
  have h2 := ih fun x hx => h x (by simp [hx])
  simp only [List.map_cons, List.sum_cons, List.length_cons]
  omega
theorem zlK (h : St w0 E w) {v : Sl} {ts : List Tgt} (r : RdE w0 E eT v ts) (hvc : v.len ≤ v.cap) (hn : ts.length ≤ 1000) (hp : ∀ t ∈ ts, 0 ≤ pct t ∧ pct t ≤ 100) {k : Int → PT} (hk : ∀ w', St w0 E w' → k (allE ts) w') :
  L.call Pr zay [.slice v.a v.len v.cap] (.one (.one (.int .i64))) k w := by
 refine z00 (zhS v) ?_
 unfold zdi
 have hl := (r w h).len
 refine z0G (fun q y w => ∃ i : Nat, y = (((ts.take i).map pct).sum, (i : Int), ()) ∧ q + i = ts.length ∧ (List.range i).any (twiceAt ts) = false ∧ St w0 E w) ts.length ⟨0, rfl, rfl, rfl, h⟩ ?_
 clear h; (try clear w)
 rintro q y w ⟨i, rfl, hq, hno, h⟩ again hag
 dsimp only
 refine it (fun hb => ?_) (fun hb => ?_) <;> (try simp only [zB] at hb)
 ·have hi : i < ts.length := by omega
  have hx : ts[i]? = some ts[i] := List.getElem?_eq_getElem hi
  generalize ts[i] = t at hx
  have ht := hp t (List.mem_of_getElem? hx)
  have hs := zmk (l := ts.take i) fun x hx => hp x (List.mem_of_mem_take hx)
  rw [List.length_take] at hs
  have es : ((ts.take (i + 1)).map pct).sum = ((ts.take i).map pct).sum + pct t := by rw [List.take_add_one, hx]; simp
  have tw : twiceAt ts i = (!decide (t.2.1 = s_) && (ts.take i).any (tagIs t.2.1)) := by unfold twiceAt; rw [hx]
  have next : ∀ {w}, twiceAt ts i = false → St w0 E w → again (IntKind.wrap .i64 (((ts.take i).map pct).sum + pct t), IntKind.wrap .i64 ((i : Int) + 1), ()) w := by
   intro w hf h
   rw [wr (by omega) (by omega), wr (by omega) (by omega)]
   refine hag (q - 1) _ w (by omega) ⟨i + 1, by rw [es]; simp, by omega, ?_, h⟩
   rw [List.range_succ, List.any_append, hno]; simp [hf]
  refine jd ?_
  have rr := r w h
  refine rr.ix encT (by omega) (by simpa using hi) fun a ha => ?_
  rw [Int.toNat_natCast] at ha
  refine rr.lda encT ha hx rfl ?_
  refine nw h ?_; clear h; (try clear w); intro b7 w h
  (refine stC h ?_; clear h; (try clear w); intro w h; dsimp only [putN, setN] at h; refine ldC h ?_; refine ldC h ?_)
  rw [z7d]
  refine it (fun hc => ?_) (fun hc => ?_)
  ·refine gd (by omega) ?_
   have hc : decide (t.2.1 = s_) = false := by simpa using hc
   rw [hc] at tw
   have h : St w0 ([Cl b7 z0O (eT t)] :: E) w := h
   have r2 : RdE w0 E eT ⟨if Int.toNat ((v.cap : Nat) : Int) = Int.toNat (0 : Int) then v.a else Option.map (fun a : Addr => a.add (Int.toNat (0 : Int) * 3)) v.a, Int.toNat (i : Int) - Int.toNat (0 : Int), Int.toNat ((v.cap : Nat) : Int) - Int.toNat (0 : Int)⟩ (ts.take i) := by
    intro w h
    have := (r w h).cut encT 0 i (by omega) (by omega) hvc (v.cap - 0)
    simpa using this
   refine zhQ h r2 (by rw [List.length_take]; omega) fun w h => ?_
   refine it (fun hd => ?_) (fun hd => ?_)
   ·have e : (List.range ts.length).any (twiceAt ts) = true := List.any_eq_true.2 ⟨i, List.mem_range.2 hi, by rw [tw, hd]; rfl⟩
    have := hk w (dl0_ h)
    unfold allE at this
    rw [if_pos e] at this
    exact ⟨_, rfl, this⟩
   ·have hd : (ts.take i).any (tagIs t.2.1) = false := by simpa using hd
    exact next (by rw [tw, hd]; rfl) (dl0_ h)
  ·have hc : decide (t.2.1 = s_) = true := by simpa using hc
   exact next (by rw [tw, hc]; rfl) (dl0_ h)
 ·have e : ts.take i = ts := List.take_of_length_le (by omega)
  have ei : i = ts.length := by omega
  rw [e]
  rw [ei] at hno
  have := hk w h
  unfold allE at this
  rw [if_neg (by simp [hno])] at this
  refine it (fun hs => ?_) (fun hs => ?_) <;> (try simp only [zB] at hs)
  ·rw [if_neg hs] at this; exact ⟨_, rfl, this⟩
  ·rw [if_pos hs] at this; exact ⟨_, rfl, this⟩
def specE (a : ARt) : Int :=
 if shortB a.name.data.toList 16 = true ∧ shortB a.cfg.data.toList 16 = true then
  if 0 ≤ a.roll ∧ a.roll ≤ 60 then
   if 1 ≤ a.ts.length ∧ a.ts.length ≤ 6 then
    match a.ts.find? fun t => decide (tgE t ≠ 0) with
    | some t => tgE t
    | none => allE a.ts
   else 3
  else 2
 else 1
theorem zmh {t : Tgt} (h : tgE t = 0) : 0 ≤ pct t ∧ pct t ≤ 100 := by
 unfold tgE at h
 split at h
 ·cases h
 ·split at h
  ·rename_i h2; exact h2
  ·cases h
theorem zlJ (h : St w0 E w) {a : ARt} {v : Sl} (r : RdE w0 E eT v a.ts) (hvc : v.len ≤ v.cap) (hr : ∀ t ∈ a.ts, revOk t.1) {k : Int → PT} (hk : ∀ w', St w0 E w' → k (specE a) w') :
  L.call Pr z0r [.agg #[.string a.name, .string a.cfg, .slice v.a v.len v.cap, I a.roll]] (.one (.one (.int .i64))) k w := by
 refine z00 (zfd (a.name, a.cfg, v, a.roll, ())) ?_
 unfold zb6
 have hl := (r w h).len
 refine nw h ?_; clear h; (try clear w); intro b1 w h
 unfold specE at hk
 refine z1k (fun z w => z = (!(shortB a.name.data.toList 16 && shortB a.cfg.data.toList 16), ()) ∧ St w0 ([Cl b1 z5G [.string a.name, .string a.cfg, .slice v.a v.len v.cap, I a.roll]] :: E) w) (fun k2 hk2 => ?_) (fun z w ⟨hz, h⟩ => ?_)
 ·(dsimp only [setN, List.cons_append, List.nil_append] at h; refine ldC h ?_)
  refine zf3 h z4F fun w h => ?_
  refine it (fun hc => ?_) (fun hc => ?_)
  ·have hc : shortB a.name.data.toList 16 = false := by simpa using hc
   rw [hc] at hk2 ⊢
   exact hk2 _ w ⟨rfl, h⟩
  ·have hc : shortB a.name.data.toList 16 = true := by simpa using hc
   rw [hc] at hk2
   (refine ldC h ?_)
   refine zf3 h z4F fun w h => ?_
   exact hk2 _ w ⟨by simp, h⟩
 ·subst hz
  dsimp only
  have out : ∀ {w} {x : Int}, (∀ w', St w0 E w' → k x w') → St w0 ([Cl b1 z5G [.string a.name, .string a.cfg, .slice v.a v.len v.cap, I a.roll]] :: E) w → ∃ y, I x = RT.val (.one (.one (.int .i64))) y ∧ k y w := fun hx h => ⟨_, rfl, hx _ (dl0_ h)⟩
  refine it (fun hc => ?_) (fun hc => ?_)
  ·have hc : (shortB a.name.data.toList 16 && shortB a.cfg.data.toList 16) = false := (Bool.not_eq_true' _).mp hc
   rw [if_neg (fun hh => by rw [hh.1, hh.2] at hc; cases hc)] at hk
   exact out hk h
  rw [if_pos (by simpa using hc)] at hk
  (refine ldC h ?_)
  refine z5H h fun w h => ?_
  refine it (fun hc => ?_) (fun hc => ?_)
  ·have hc := of_decide_eq_false ((Bool.not_eq_true' _).mp hc)
   rw [if_neg hc] at hk
   exact out hk h
  rw [if_pos (by simpa using hc)] at hk
  (refine ldC h ?_)
  refine z5H h fun w h => ?_
  refine it (fun hc => ?_) (fun hc => ?_)
  ·have hc := of_decide_eq_false (show decide (1 ≤ ((v.len : Nat) : Int) ∧ ((v.len : Nat) : Int) ≤ 6) = false from (Bool.not_eq_true' _).mp hc)
   rw [if_neg (by omega)] at hk
   exact out hk h
  have hc := of_decide_eq_true (show decide (1 ≤ ((v.len : Nat) : Int) ∧ ((v.len : Nat) : Int) ≤ 6) = true by simpa using hc)
  rw [if_pos (by omega)] at hk
  (refine ldC h ?_)
  refine z0G (fun q y w => ∃ i : Nat, y = ((i : Int), ()) ∧ q + i = a.ts.length ∧ (a.ts.take i).find? (fun t => decide (tgE t ≠ 0)) = none ∧ St w0 ([Cl b1 z5G [.string a.name, .string a.cfg, .slice v.a v.len v.cap, I a.roll]] :: E) w) a.ts.length ⟨0, rfl, rfl, rfl, h⟩ ?_
  clear h; (try clear w)
  rintro q y w ⟨i, rfl, hq, hno, h⟩ again hag
  dsimp only
  refine it (fun hb => ?_) (fun hb => ?_) <;> (try simp only [zB] at hb)
  ·have hi : i < a.ts.length := by omega
   have hx : a.ts[i]? = some a.ts[i] := List.getElem?_eq_getElem hi
   have hdr : a.ts = a.ts.take i ++ a.ts[i] :: a.ts.drop (i + 1) := by rw [← List.drop_eq_getElem_cons hi, List.take_append_drop]
   generalize a.ts[i] = t at hx hdr
   have rr := r w (dl0_ h)
   refine rr.ix encT (by omega) (by simpa using hi) fun ad ha => ?_
   rw [Int.toNat_natCast] at ha
   refine rr.lda encT ha hx rfl ?_
   refine nw h ?_; clear h; (try clear w); intro b17 w h
   (refine stC h ?_; clear h; (try clear w); intro w h; dsimp only [putN, setN] at h; refine laC h ?_)
   refine zkt (t := t) h (hr t (List.mem_of_getElem? hx)) fun w h => ?_
   have h := dl0_ h
   refine it (fun hc => ?_) (fun hc => ?_)
   ·have hc : tgE t ≠ 0 := by simpa using hc
    have e : a.ts.find? (fun t => decide (tgE t ≠ 0)) = some t := by
     rw [hdr, List.find?_append, hno]; simp [hc]
    rw [e] at hk
    exact out hk h
   ·have hc : tgE t = 0 := by simpa using hc
    rw [wr (by omega) (by omega)]
    refine hag (q - 1) _ w (by omega) ⟨i + 1, by simp, by omega, ?_, h⟩
    rw [List.take_add_one, hx, List.find?_append, hno]; simp [hc]
  ·have e : a.ts.take i = a.ts := List.take_of_length_le (by omega)
   rw [e] at hno
   rw [hno] at hk
   have hall : ∀ t ∈ a.ts, 0 ≤ pct t ∧ pct t ≤ 100 := fun t ht => zmh (by simpa using List.find?_eq_none.1 hno t ht)
   (refine ldC h ?_)
   refine zlK h (fun w h => r w (dl0_ h)) hvc (by omega) hall fun w h => ?_
   exact out hk h
theorem rt {v : Sl} {l : List Tgt} (r : Rd w eT v l) {n : Int} {x : Tgt} (hx : l[n.toNat]? = some x) (h0 : 0 ≤ n) {f : Nat} {lf : Lf} {u : Value} {y : lf.T} {kk : lf.T → PT} (hu : nth (eT x) f = some u) (hy : un2 lf u = some y) (hk : kk y w) :
  L.idx v.a n v.len 3 (fun a => L.load (.one lf) (a.add f) kk) w :=
 r.ix encT h0 (List.getElem?_eq_some_iff.1 hx).1 fun a ha => r.ld encT ha hx hu hy hk
theorem zlO (h : St w0 E w) {k : Option Addr → PT} (hk : ∀ b s w', ShS b ⟨[], [], 0⟩ s → St w0 (s :: E) w' → k (some ⟨b, 0, none⟩) w') : L.call Pr z98 [] (.one (.one .ptr)) k w := by
 refine z00 zg8 ?_
 unfold zck
 refine zlX h fun bc sc w hC h => ?_
 refine zlW h fun br sr w hR h => ?_
 refine nw h ?_; clear h; (try clear w); intro b w h
 refine ⟨_, rfl, hk b _ w ⟨⟨by simp, by simp, fun x => by simp [tget, mget, noThg, Thg.gen], by simp, by simp⟩, bc, br, sc, sr, hC, hR, rfl⟩ ?_⟩
 have h := fr2_ (fr2_ (fr1_ h))
 exact h.glue3
abbrev eCfg : E1 := .agg [.str, .int .i64, .int .i64, .int .i64, .int .i64, .int .i64]
def noCfg : Cfg := (s_, 0, 0, 0, 0, 0, ())
def shCfg (a : AShelf) (n : ByteArray) : Cfg × Int × Int × Bool × Unit := if (tget a.m n).is = true then (cfgOf (tget a.m n), (tget a.m n).ver, (tget a.m n).gen, true, ()) else (noCfg, 0, 0, false, ())
theorem zdg (h : St w0 E w) (i : Nat) {b : Nat} {a : AShelf} {s : Seg} (hi : nth E i = some s) (hs : ShS b a s) {n : ByteArray} {k : eCfg.T × Int × Int × Bool × Unit → PT}
  (hk : ∀ w', St w0 E w' → k (shCfg a n) w') :
  L.call Pr z2u [.pointer (some ⟨b, 0, none⟩), .string n] (.tup [eCfg, .one (.int .i64), .one (.int .i64), .one .bool]) k w := by
 obtain ⟨ok, bc, br, sc, sr, hC, hR, rfl⟩ := hs
 refine z00 (z8I _ _) ?_
 unfold z5c
 unfold shCfg at hk
 have h := (h.front i hi).split3
 refine nw h ?_; clear h; (try clear w); intro b1 w h
 (refine nn ?_; refine ldC h ?_)
 refine zn6 h 2 rfl hC fun w h => ?_
 generalize tget a.m n = t at hk
 refine nw h ?_; clear h; (try clear w); intro b5 w h
 (refine stC h ?_; clear h; (try clear w); intro w h; dsimp only [putN, setN] at h)
 refine it (fun hc => ?_) (fun hc => ?_) <;> (try simp only [zB] at hc)
 ·(refine stC h ?_; clear h; (try clear w); intro w h; dsimp only [putN, setN] at h; refine laC h ?_)
  have hc : ¬ t.is = true := by simp [Thg.is, hc]
  rw [if_neg hc] at hk
  exact ⟨(noCfg, 0, 0, false, ()), rfl, hk w (St.again i hi (dl0_ (dl0_ h)).glue3)⟩
 ·have hc : t.is = true := by simpa using hc
  rw [if_pos hc] at hk
  (refine dr h ?_; clear h; (try clear w); intro w h; refine laC h ?_; refine ldC h ?_; refine ldC h ?_; refine stC h ?_; clear h; (try clear w); intro w h; dsimp only [putN, setN] at h; refine ckC h ?_; refine ckC h ?_; refine ckC h ?_; refine laC h ?_)
  exact ⟨(cfgOf t, t.ver, t.gen, true, ()), rfl, hk w (St.again i hi (dl0_ (dl0_ h)).glue3)⟩
def dropC (m : List (ByteArray × Thg)) (n : ByteArray) : List (ByteArray × Thg) := mset m n (s_, 0, 0, 0, 0, 0, 0, (tget m n).gen, false, ())
def shDrop (a : AShelf) (kind : Int) (n : ByteArray) (ver : Int) : AShelf × Int :=
 if kind = 1 then (if mayC (tget a.m n) ver false = 0 then (⟨dropC a.m n, a.r, a.n + 1⟩, 0) else (a, mayC (tget a.m n) ver false))
 else if kind = 2 then (if mayV (rget a.r n).is (rget a.r n).ver ver false = 0 then (⟨a.m, dropRt a.r n, a.n + 1⟩, 0) else (a, mayV (rget a.r n).is (rget a.r n).ver ver false))
 else (a, 12)
abbrev Shr := HT [.str, .int .i64]
def eSh (t : Shr) : List Value := [.string t.1, I t.2.1]
abbrev Tgo := HT [.str, .str]
def eTo (t : Tgo) : List Value := [.string t.1, .string t.2.1]
structure ATab where
 sh : List Shr
 tg : List Tgo
structure TabR (w0 : World) (E : List Seg) (p : HT [.slice, .slice]) (t : ATab) : Prop where
 sh : RdE w0 E eSh p.1 t.sh
 tg : RdE w0 E eTo p.2.1 t.tg
 nsh : p.1.a = none → t.sh = []
 ntg : p.2.1.a = none → t.tg = []
 fsh : t.sh.length < 100000
 ftg : t.tg.length < 100000
theorem TabR.there {p : HT [.slice, .slice]} {t : ATab} {s : Seg} (r : TabR w0 E p t) : TabR w0 (s :: E) p t := ⟨fun w h => r.sh w (dl0_ h), fun w h => r.tg w (dl0_ h), r.nsh, r.ntg, r.fsh, r.ftg⟩
def pickL : List Shr → Int → ByteArray
 | [], _ => s_
 | s :: l, d => if d < s.2.1 then s.1 else pickL l (d - s.2.1)
def tPick (t : ATab) (d : Int) : ByteArray := pickL t.sh (d % 100)
def tagL : List Tgo → ByteArray → ByteArray × Bool
 | [], _ => (s_, false)
 | x :: l, g => if x.1 = g then (x.2.1, true) else tagL l g
def shT (s : Shr) : ByteArray := (s.1 ++ zjI) ++ decD (@id Int s.2.1).toNat
def toT (s : Tgo) : ByteArray := (s.1 ++ zjH) ++ s.2.1
def tabParts (t : ATab) : List ByteArray := t.sh.map shT ++ t.tg.map toT
def tabText (t : ATab) : ByteArray := joinB (tabParts t)
end Go.Proofs.YtkmalcoocklikaaGreatDoor

namespace Go.Proofs
open Go.Shelf
end Go.Proofs
namespace Go.Proofs.YtkmalcoocklikaaGreatDoor
open Go.Dm
attribute [local irreducible] L.load L.store L.chk L.new L.nonnil L.guard L.ite L.draw L.idx L.sem L.semR L.semU L.chkSem L.next L.call L.callV L.join L.alts L.loop L.begin L.endRound L.range
variable {w0 w : World} {E : List Seg}
def ofL (x : List UInt8) : ByteArray := ⟨x.toArray⟩
def scomp (l : List ByteArray) : List ByteArray := (Lib.compact (l.map bl)).map ofL
def wOf : List Shr → ByteArray → Int
 | [], _ => 0
 | s :: l, r => if s.1 = r then s.2.1 else wOf l r
def namesOf (fr to : List Shr) : List ByteArray := scomp (ssort (fr.map (·.1) ++ to.map (·.1)))
def upOf (fr to : List Shr) (gone whole : Int) (n : ByteArray) : Int := if 0 < wOf to n - wOf fr n then (wOf to n - wOf fr n) * gone / whole else 0
def rollStep (fr to : List Shr) (gone whole : Int) (st : Int × List Shr) (n : ByteArray) : Int × List Shr :=
 let d := wOf fr n - wOf to n
 let m := if 0 < d then 0 - (if st.1 < d then st.1 else d) else upOf fr to gone whole n
 (if 0 < d then st.1 + m else st.1, if 0 < wOf fr n + m then st.2 ++ [(n, wOf fr n + m, ())] else st.2)
def rollL (fr to : List Shr) (gone whole : Int) : List Shr :=
 ((namesOf fr to).foldl (rollStep fr to gone whole) (((namesOf fr to).map (upOf fr to gone whole)).sum, [])).2
def sharesOf (fr to : List Shr) (gone whole : Int) : List Shr := if whole ≤ 0 ∨ whole ≤ gone then to else if gone ≤ 0 then fr else rollL fr to gone whole
abbrev Wy := HT [.slice, .slice, .int .i64, .int .i64, .slice, .slice]
abbrev eWy : E1 := .agg [.slice, .slice, .int .i64, .int .i64, .slice, .slice]
def vWy (t : Wy) : Value := eWy.val t
structure AWay where
 fr : List Shr
 to : List Shr
 since : Int
 whole : Int
 ns : List Shr
 ng : List Tgo
abbrev WBd (l : List Shr) : Prop := ∀ s ∈ l, 0 ≤ @id Int s.2.1 ∧ @id Int s.2.1 ≤ 1000
structure AWay.Ok (a : AWay) : Prop where
 fr : WBd a.fr
 to : WBd a.to
 ns : WBd a.ns
 lf : a.fr.length < 100000
 lt : a.to.length < 100000
 ln : a.ns.length < 100000
 lg : a.ng.length < 100000
structure WyE where
 k : ByteArray
 t : Wy
 a : AWay
def WyE.ok (P : List Seg) (x : WyE) : Prop :=
 (∃ s ∈ P, Rw eSh z5F 2 x.t.1 x.a.fr s) ∧ (∃ s ∈ P, Rw eSh z5F 2 x.t.2.1 x.a.to s) ∧ x.t.2.2.1 = x.a.since ∧ x.t.2.2.2.1 = x.a.whole ∧ (∃ s ∈ P, Rw eSh z5F 2 x.t.2.2.2.2.1 x.a.ns s) ∧ (∃ s ∈ P, Rw eTo zfZ 2 x.t.2.2.2.2.2.1 x.a.ng s)
abbrev WyE.kt (x : WyE) : ByteArray × Wy := (x.k, x.t)
abbrev WyE.ka (x : WyE) : ByteArray × AWay := (x.k, x.a)
theorem WyE.ok.more {P P' : List Seg} {x : WyE} (h : x.ok P) (hp : ∀ s ∈ P, s ∈ P') : x.ok P' := by
 obtain ⟨⟨s1, h1, r1⟩, ⟨s2, h2, r2⟩, e1, e2, ⟨s3, h3, r3⟩, ⟨s4, h4, r4⟩⟩ := h
 exact ⟨⟨s1, hp _ h1, r1⟩, ⟨s2, hp _ h2, r2⟩, e1, e2, ⟨s3, hp _ h3, r3⟩, ⟨s4, hp _ h4, r4⟩⟩
abbrev ARoll := List (ByteArray × AWay)
def RolS (b : Nat) (m : ARoll) (s : Seg) : Prop := ∃ r sm, ∃ (P : List Seg) (Q : List WyE), MpS Value.string vWy r (Q.map WyE.kt) sm ∧ (∀ x ∈ Q, x.ok P) ∧ m = Q.map WyE.ka ∧ s = [Cl b z9R [.map (some r)]] ++ (sm ++ P.flatten)
theorem zlQ (h : St w0 E w) {k : Option Addr → PT} (hk : ∀ b s w', RolS b [] s → St w0 (s :: E) w' → k (some ⟨b, 0, none⟩) w') : L.call Pr zaz [] (.one (.one .ptr)) k w := by
 refine z00 zhT ?_
 unfold zdj
 refine MpS.new h Value.string vWy fun r s w hm h => ?_
 refine nw h ?_; clear h; (try clear w); intro b w h
 exact ⟨_, rfl, hk b _ w ⟨r, s, [], [], hm, by simp, rfl, by simp⟩ h.glue⟩
def roTab (m : ARoll) (n : ByteArray) : ATab := match mget m n with
 | some a => ⟨a.ns, a.ng⟩
 | none => ⟨[], []⟩
instance : DecidableEq Shr := inferInstanceAs (DecidableEq (ByteArray × Int × Unit))
instance : DecidableEq Tgo := inferInstanceAs (DecidableEq (ByteArray × ByteArray × Unit))
def wayOf (m : ARoll) (n : ByteArray) (t : ATab) (now whole : Int) : AWay := match mget m n with
 | some a => if a.to = t.sh ∧ a.whole = whole then a else ⟨a.ns, t.sh, now, whole, [], []⟩
 | none => ⟨t.sh, t.sh, now, whole, [], []⟩
def nowOf (m : ARoll) (n : ByteArray) (t : ATab) (now whole : Int) : ATab := ⟨sharesOf (wayOf m n t now whole).fr (wayOf m n t now whole).to (now - (wayOf m n t now whole).since) whole, t.tg⟩
def roTurn (m : ARoll) (n : ByteArray) (t : ATab) (now whole : Int) : ARoll :=
 mset m n ⟨(wayOf m n t now whole).fr, (wayOf m n t now whole).to, (wayOf m n t now whole).since, (wayOf m n t now whole).whole, (nowOf m n t now whole).sh, t.tg⟩
structure WyR (P : List Seg) (t : Wy) (a : AWay) : Prop where
 fr : ∃ s ∈ P, Rw eSh z5F 2 t.1 a.fr s
 to : ∃ s ∈ P, Rw eSh z5F 2 t.2.1 a.to s
 since : t.2.2.1 = a.since
 whole : t.2.2.2.1 = a.whole
theorem zstr (w : World) : (zeroValue z01).run Pr w = .ok ((E1.one .str).val s_) w := by
 have h : (Pr.info? z01).map (·.zero) = some (some (.string s_)) := by kernel_rfl
 cases hi : Pr.info? z01 with
 | none => rw [hi] at h; cases h
 | some i => rw [hi] at h; simp only [Option.map_some, Option.some.injEq] at h; exact zv hi h w
def ordI (m : List (ByteArray × Int)) : List (HT [.str, (.int .i64)]) := (ssort (m.map (·.1))).map fun k => (k, (mget m k).getD (0 : Int), ())
def ordS (m : List (ByteArray × ByteArray)) : List (HT [.str, .str]) := (ssort (m.map (·.1))).map fun k => (k, (mget m k).getD s_, ())
def tgtOf (a : ABook) (cfg : ByteArray) (t : Tgt) : ByteArray × Int :=
 if t.1 = s_ then (if bkReady a cfg = s_ then (s_, 9) else (bkReady a cfg, 0)) else if bkHas a t.1 = true then (if bkProved a t.1 = true then (t.1, 0) else (s_, 9)) else (s_, 6)
abbrev rtV (r : ARt) (v : Sl) : Value := .agg #[.string r.name, .string r.cfg, .slice v.a v.len v.cap, I r.roll]
abbrev MSI := List (ByteArray × Int)
abbrev MSS := List (ByteArray × ByteArray)
def resGo (a : ABook) (cfg : ByteArray) : List Tgt → MSI → MSS → Int × MSI × MSS
 | [], ws, ts => (0, ws, ts)
 | t :: l, ws, ts => if (tgtOf a cfg t).2 = 0 then resGo a cfg l (mset ws (tgtOf a cfg t).1 ((mget ws (tgtOf a cfg t).1).getD 0 + pct t)) (if t.2.1 = s_ then ts else mset ts t.2.1 (tgtOf a cfg t).1) else ((tgtOf a cfg t).2, ws, ts)
abbrev posW (x : Shr) : Bool := decide (@id Int x.2.1 > 0)
def resolve (a : ABook) (r : ARt) : ATab × Int :=
 if (resGo a r.cfg r.ts [] []).1 = 0 then (⟨(ordI (resGo a r.cfg r.ts [] []).2.1).filter posW, ordS (resGo a r.cfg r.ts [] []).2.2⟩, 0) else (⟨[], []⟩, (resGo a r.cfg r.ts [] []).1)
structure AEv where
 kind : Int
 name : ByteArray
 tag : ByteArray
 n : Int
 draw : Int
 c : Cfg
 r : ARt
 v : Sl
abbrev EvT := HT [.int .i64, .str, .str, .int .i64, .int .i64, .str, .int .i64, .int .i64, .int .i64, .int .i64, .int .i64, .str, .str, .slice, .int .i64]
abbrev AEv.t (e : AEv) : EvT := (e.kind, e.name, e.tag, e.n, e.draw, e.c.1, e.c.2.1, e.c.2.2.1, e.c.2.2.2.1, e.c.2.2.2.2.1, e.c.2.2.2.2.2.1, e.r.name, e.r.cfg, e.v, e.r.roll, ())
abbrev evV (e : AEv) : Value := .agg #[I e.kind, .string e.name, .string e.tag, I e.n, I e.draw, .string e.c.1, I e.c.2.1, I e.c.2.2.1, I e.c.2.2.2.1, I e.c.2.2.2.2.1, I e.c.2.2.2.2.2.1, .string e.r.name, .string e.r.cfg, .slice e.v.a e.v.len e.v.cap, I e.r.roll]
abbrev Has := HT [.bool, .bool, .bool, .bool, .bool, .bool]
def shp (k : Int) : Has × Bool :=
 if k = 1 then ((true, false, false, false, true, false, ()), true) else if k = 2 then ((true, false, false, false, false, true, ()), true) else if k = 3 then ((true, true, false, true, false, false, ()), true)
 else if k = 4 then ((true, true, true, true, false, false, ()), true) else if k = 5 ∨ k = 6 ∨ k = 7 ∨ k = 8 then ((true, false, false, false, false, false, ()), true) else if k = 9 then ((false, false, false, false, false, false, ()), true)
 else if k = 10 ∨ k = 11 ∨ k = 12 ∨ k = 13 then ((false, true, false, false, false, false, ()), true) else ((false, false, false, false, false, false, ()), false)
theorem zlM (h : St w0 E w) {x : Int} {k : Has × Bool × Unit → PT} (hk : ∀ w', St w0 E w' → k ((shp x).1, (shp x).2, ()) w') : L.call Pr z6R [I x] (.tup [.agg [.bool, .bool, .bool, .bool, .bool, .bool], .one .bool]) k w := by
 refine z00 (ze5 x) ?_
 unfold za5
 unfold shp at hk
 refine nw h ?_; clear h; (try clear w); intro b1 w h
 ((try dsimp only [setN, List.cons_append, List.nil_append] at h); repeat' (first | refine nn ?_ | (refine dr h ?_; clear h; (try clear w); intro w h) | refine ldC h ?_ | refine laC h ?_ | refine ckC h ?_ | (refine stC h ?_; clear h; (try clear w); intro w h; (try dsimp only [putN, setN] at h)) | rw [z3H] | refine jd ?_ | (refine it (fun hc => ?_) (fun hc => ?_) <;> (try simp only [zB] at hc))))
 all_goals exact ⟨(_, _, ()), rfl, eqk (hk w (dl0_ h)) (by clear h hk; simp_all)⟩
theorem zlU {t : Bool} {x : Int} {k : Bool → PT} (hk : k (t || decide (x = 0)) w) : L.call Pr z3S [.bool t, I x] (.one (.one .bool)) k w := by
 refine z00 (zby t x) ?_
 unfold z7r
 cases t with
 | true => exact itT rfl ⟨true, rfl, hk⟩
 | false => exact itF rfl ⟨_, rfl, eqk hk (by rw [Bool.false_or, Bool.eq_iff_iff]; simp)⟩
theorem zlT {t : Bool} {x : ByteArray} {k : Bool → PT} (hk : k (t || decide (x = s_)) w) : L.call Pr z2D [.bool t, .string x] (.one (.one .bool)) k w := by
 refine z00 (z9m t x) ?_
 unfold z5S
 cases t with
 | true => exact itT rfl ⟨true, rfl, hk⟩
 | false => exact itF rfl ⟨_, rfl, eqk hk (by rw [z7d, Bool.false_or])⟩
theorem zlV (h : St w0 E w) {t : Bool} {c : Cfg} {k : Bool → PT} (hk : ∀ w', St w0 E w' → k (t || sameC c noCfg) w') : L.call Pr z2E [.bool t, .agg (Cfg.cells c).toArray] (.one (.one .bool)) k w := by
 refine z00 (z7a t c) ?_
 unfold z4t
 refine nw h ?_; clear h; (try clear w); intro b1 w h
 refine nw h ?_; clear h; (try clear w); intro b2 w h
 cases t with
 | true => exact itT rfl ⟨true, rfl, hk w (dl0_ (dl0_ h))⟩
 | false =>
  refine itF rfl ?_
  (refine laC h ?_; refine laC h ?_)
  unfold L.chkSem
  refine ⟨zkT c noCfg w, _, rfl, ?_⟩
  exact hk w (dl0_ (dl0_ h))
def bareE (r : ARt) (n : Nat) : Bool := decide (r.name = s_) && (decide (r.cfg = s_) && (decide (r.roll = 0) && decide (n = 0)))
theorem zng (h : St w0 E w) {r : ARt} {v : Sl} {k : Bool → PT} (hk : ∀ w', St w0 E w' → k (bareE r v.len) w') : L.call Pr z7J [rtV r v] (.one (.one .bool)) k w := by
 refine z00 (zfl (r.name, r.cfg, v, r.roll, ())) ?_
 unfold zbe
 refine nw h ?_; clear h; (try clear w); intro b1 w h
 (dsimp only [setN, List.cons_append, List.nil_append] at h; refine ldC h ?_)
 rw [z7d]
 unfold bareE at hk
 cases h1 : decide (r.name = s_) with
 | false => exact itF rfl ⟨false, rfl, by rw [h1] at hk; exact hk w (dl0_ h)⟩
 | true =>
  refine itT rfl ?_
  (refine ldC h ?_)
  rw [z7d]
  cases h2 : decide (r.cfg = s_) with
  | false => exact itF rfl ⟨false, rfl, by rw [h1, h2] at hk; exact hk w (dl0_ h)⟩
  | true =>
   refine itT rfl ?_
   (refine ldC h ?_)
   refine it (fun h3 => ?_) (fun h3 => ?_)
   ·(refine ldC h ?_)
    have h3 : decide (r.roll = 0) = true := by simpa using h3
    rw [h1, h2, h3] at hk
    refine ⟨_, rfl, eqk (hk w (dl0_ h)) ?_⟩
    rw [Bool.eq_iff_iff]; simp
   ·have h3 : decide (r.roll = 0) = false := by simpa using h3
    rw [h1, h2, h3] at hk
    exact ⟨false, rfl, hk w (dl0_ h)⟩
def wiB (n a b : Int) : Bool := decide (a ≤ n) && decide (n ≤ b)
theorem z6D {n a b : Int} {k : Bool → PT} (hk : k (wiB n a b) w) : L.call Pr z0C [I n, I a, I b] (.one (.one .bool)) k w := by
 refine z00 (zcP n a b) ?_
 unfold z8Y
 unfold wiB at hk
 refine it (fun h1 => ?_) (fun h1 => ?_)
 ·have h1 : decide (a ≤ n) = true := h1
  rw [h1] at hk
  exact ⟨_, rfl, hk⟩
 ·have h1 : decide (a ≤ n) = false := h1
  rw [h1] at hk
  exact ⟨_, rfl, hk⟩
def numE (e : AEv) : Bool := if e.kind = 1 ∨ e.kind = 2 then wiB e.n 0 2147483647 else if e.kind = 3 then wiB e.n 1 2 else wiB e.n 1 2147483647
theorem zhN (h : St w0 E w) {e : AEv} {k : Bool → PT} (hk : ∀ w', St w0 E w' → k (numE e) w') : L.call Pr z6o [evV e] (.one (.one .bool)) k w := by
 refine z00 (zcQ e.t) ?_
 unfold z8Z
 unfold numE at hk
 refine nw h ?_; clear h; (try clear w); intro b1 w h
 (dsimp only [setN, List.cons_append, List.nil_append] at h; refine ldC h ?_)
 refine jd ?_
 refine it (fun h1 => ?_) (fun h1 => ?_)
 ·have h1' : e.kind = 1 := by simpa using h1
  refine itT h1 ?_
  (refine ldC h ?_)
  refine z6D ⟨_, rfl, ?_⟩
  rw [if_pos (.inl h1')] at hk
  exact hk w (dl0_ h)
 ·have h1' : ¬ e.kind = 1 := by simpa using h1
  refine it (fun h2 => ?_) (fun h2 => ?_)
  ·have h2' : e.kind = 2 := by simpa using h2
   (refine ldC h ?_)
   refine z6D ⟨_, rfl, ?_⟩
   rw [if_pos (.inr h2')] at hk
   exact hk w (dl0_ h)
  ·have h2' : ¬ e.kind = 2 := by simpa using h2
   rw [if_neg (fun hh => hh.elim h1' h2')] at hk
   refine it (fun h3 => ?_) (fun h3 => ?_)
   ·have h3' : e.kind = 3 := by simpa using h3
    rw [if_pos h3'] at hk
    (refine ldC h ?_)
    exact z6D ⟨_, rfl, hk w (dl0_ h)⟩
   ·have h3' : ¬ e.kind = 3 := by simpa using h3
    rw [if_neg h3'] at hk
    (refine ldC h ?_)
    exact z6D ⟨_, rfl, hk w (dl0_ h)⟩
def RevN (n : ByteArray) : Prop := ∃ c g, shortB c.data.toList 16 = true ∧ 1 ≤ g ∧ g < 100 ∧ n = revB c g
def namedE (e : AEv) : Bool := if e.kind = 12 ∨ e.kind = 13 then true else shortB e.name.data.toList 16
theorem zjn (h : St w0 E w) {e : AEv} (hr : e.kind = 12 ∨ e.kind = 13 → RevN e.name) {k : Bool → PT} (hk : ∀ w', St w0 E w' → k (namedE e) w') : L.call Pr z5m [evV e] (.one (.one .bool)) k w := by
 refine z00 (ze6 e.t) ?_
 unfold za6
 unfold namedE at hk
 refine nw h ?_; clear h; (try clear w); intro b1 w h
 (dsimp only [setN, List.cons_append, List.nil_append] at h; refine ldC h ?_)
 refine it (fun h1 => ?_) (fun h1 => ?_)
 ·have h1' : e.kind = 12 := by simpa using h1
  obtain ⟨c, g, hc, g1, g2, en⟩ := hr (.inl h1')
  rw [if_pos (.inl h1')] at hk
  (refine ldC h ?_)
  rw [en]
  exact zg6 h z4F hc g1 g2 fun w h => ⟨_, rfl, hk w (dl0_ h)⟩
 ·have h1' : ¬ e.kind = 12 := by simpa using h1
  (refine ldC h ?_)
  refine it (fun h2 => ?_) (fun h2 => ?_)
  ·have h2' : e.kind = 13 := by simpa using h2
   obtain ⟨c, g, hc, g1, g2, en⟩ := hr (.inr h2')
   rw [if_pos (.inr h2')] at hk
   (refine ldC h ?_)
   rw [en]
   exact zg6 h z4F hc g1 g2 fun w h => ⟨_, rfl, hk w (dl0_ h)⟩
  ·have h2' : ¬ e.kind = 13 := by simpa using h2
   rw [if_neg (fun hh => hh.elim h1' h2')] at hk
   (refine ldC h ?_)
   exact zf3 h z4F fun w h => ⟨_, rfl, hk w (dl0_ h)⟩
def noneE (s : Has) (e : AEv) : Bool :=
 (s.1 || decide (e.n = 0)) && ((s.2.1 || decide (e.name = s_)) && ((s.2.2.1 || decide (e.tag = s_)) && ((s.2.2.2.1 || decide (e.draw = 0)) && ((s.2.2.2.2.1 || sameC e.c noCfg) && (s.2.2.2.2.2.1 || bareE e.r e.v.len)))))
def chkS (s : Has) (e : AEv) : Int :=
 if noneE s e = false then 2 else if s.1 = true ∧ numE e = false then 2 else if s.2.1 = true ∧ namedE e = false then 1
 else if s.2.2.1 = true ∧ e.tag ≠ s_ ∧ shortB e.tag.data.toList 8 = false then 1 else if s.2.2.2.1 = true ∧ wiB e.draw 0 2147483647 = false then 2
 else if s.2.2.2.2.1 = true then specC e.c else if s.2.2.2.2.2.1 = true then specE e.r else 0
def chkEv (e : AEv) : Int := if (shp e.kind).2 = false then 12 else chkS (shp e.kind).1 e
theorem zih (k : Int) : (shp k).1 = (true, false, false, false, true, false, ()) ∨ (shp k).1 = (true, false, false, false, false, true, ()) ∨ (shp k).1 = (true, true, false, true, false, false, ()) ∨ (shp k).1 = (true, true, true, true, false, false, ()) ∨
  (shp k).1 = (true, false, false, false, false, false, ()) ∨ (shp k).1 = (false, false, false, false, false, false, ()) ∨ (shp k).1 = (false, true, false, false, false, false, ()) := by
 unfold shp
 repeat' split
 all_goals simp
theorem zjo (h : St w0 E w) {e : AEv} (hn : e.kind = 12 ∨ e.kind = 13 → RevN e.name) (rd : RdE w0 E eT e.v e.r.ts) (hvc : e.v.len ≤ e.v.cap) (hrv : ∀ t ∈ e.r.ts, revOk t.1) {k : Int → PT} (hk : ∀ w', St w0 E w' → k (chkEv e) w') :
  L.call Pr z6S [evV e] (.one (.one (.int .i64))) k w := by
 refine z00 (ze7 e.t) ?_
 unfold za7
 unfold chkEv at hk
 refine nw h ?_; clear h; (try clear w); intro b1 w h
 (dsimp only [setN, List.cons_append, List.nil_append] at h; refine ldC h ?_)
 refine zlM h fun w h => ?_
 have hs := zih e.kind
 generalize (shp e.kind).1 = s at *
 generalize (shp e.kind).2 = t at *
 refine nw h ?_; clear h; (try clear w); intro b4 w h
 (refine stC h ?_; clear h; (try clear w); intro w h; dsimp only [putN, setN] at h)
 cases t with
 | false => exact itT rfl ⟨12, rfl, by rw [if_pos rfl] at hk; exact hk w (dl0_ (dl0_ h))⟩
 | true =>
  refine itF rfl ?_
  rw [if_neg (by decide)] at hk
  unfold chkS at hk
  have rd' : ∀ {s1 s2 : Seg} {w}, St w0 (s1 :: s2 :: E) w → Rd w eT e.v e.r.ts := fun h => rd _ (dl0_ (dl0_ h))
  rcases hs with rfl | rfl | rfl | rfl | rfl | rfl | rfl
  all_goals repeat' (first | refine nn ?_ | (refine dr h ?_; clear h; (try clear w); intro w h) | refine ldC h ?_ | refine laC h ?_ | refine ckC h ?_ | (refine stC h ?_; clear h; (try clear w); intro w h; (try dsimp only [putN, setN] at h)) | rw [z3H] | refine jd ?_ | refine itT rfl ?_ | refine itF rfl ?_ | refine zlU ?_ | refine zlT ?_ | (refine zlV (c := e.c) h fun w h => ?_) | (refine zng (r := e.r) (v := e.v) h fun w h => ?_) | (refine zhN (e := e) h fun w h => ?_) | (refine zjn (e := e) h hn fun w h => ?_) | (refine znh h z4F fun w h => ?_) | refine z6D ?_ | (refine zjg (c := e.c) h fun w h => ?_) | (refine zlJ (a := e.r) (v := e.v) h (fun w h => rd' h) hvc hrv fun w h => ?_) | (refine it (fun hc => ?_) (fun hc => ?_)))
  all_goals exact ⟨_, rfl, eqk (hk w (dl0_ (dl0_ h))) (by clear hk h rd rd' hrv hn hvc; (try simp only [z7d] at *); simp_all [noneE])⟩
end Go.Proofs.YtkmalcoocklikaaGreatDoor

namespace Go.Proofs
open Go.Shelf
def Tryz.lays189_ren : Go.Shelf.Ren := ⟨fun | 189 => 113 | 125 => 185 | 257 => 184 | 128 => 245 | 129 => 246 | 294 => 236 | 295 => 237 | 296 => 238 | 297 => 239 | 298 => 240 | 299 => 241 | 216 => 242 | 300 => 243 | 301 => 244 | 328 => 276 | 329 => 277 | 330 => 278 | 331 => 279 | 332 => 280 | 215 => 281 | 343 => 297 | n => n, fun | 28 => 24 | 3 => 3 | 46 => 331 | 0 => 0 | 51 => 396 | 53 => 398 | 4 => 4 | 183 => 390 | 182 => 389 | 131 => 273 | 5 => 5 | 9 => 9 | 218 => 421 | 222 => 425 | 228 => 443 | 229 => 46 | n => n, fun | n => n⟩
theorem Tryz.lays189 : Go.Proofs.Lays.n189 Tryz.prog Tryz.lays189_ren := {
 mixed := by kernel_rfl
 f125 := Tryz.func185.trans (congrArg some (by kernel_rfl))
 f128 := Tryz.func245.trans (congrArg some (by kernel_rfl))
 f129 := Tryz.func246.trans (congrArg some (by kernel_rfl))
 f189 := Tryz.func113.trans (congrArg some (by kernel_rfl))
 f215 := Tryz.func281.trans (congrArg some (by kernel_rfl))
 f216 := Tryz.func242.trans (congrArg some (by kernel_rfl))
 f257 := Tryz.func184.trans (congrArg some (by kernel_rfl))
 f294 := Tryz.func236.trans (congrArg some (by kernel_rfl))
 f295 := Tryz.func237.trans (congrArg some (by kernel_rfl))
 f296 := Tryz.func238.trans (congrArg some (by kernel_rfl))
 f297 := Tryz.func239.trans (congrArg some (by kernel_rfl))
 f298 := Tryz.func240.trans (congrArg some (by kernel_rfl))
 f299 := Tryz.func241.trans (congrArg some (by kernel_rfl))
 f300 := Tryz.func243.trans (congrArg some (by kernel_rfl))
 f301 := Tryz.func244.trans (congrArg some (by kernel_rfl))
 f328 := Tryz.func276.trans (congrArg some (by kernel_rfl))
 f329 := Tryz.func277.trans (congrArg some (by kernel_rfl))
 f330 := Tryz.func278.trans (congrArg some (by kernel_rfl))
 f331 := Tryz.func279.trans (congrArg some (by kernel_rfl))
 f332 := Tryz.func280.trans (congrArg some (by kernel_rfl))
 f343 := Tryz.func297.trans (congrArg some (by kernel_rfl))
 t0 := Tryz.underlying0
 a0 := Tryz.isAgg0
 z0 := Tryz.sizeOf0
 v0 := Tryz.zeroValue0
 t3 := Tryz.underlying3
 a3 := Tryz.isAgg3
 z3 := Tryz.sizeOf3
 v3 := Tryz.zeroValue3
 t4 := Tryz.underlying4
 a4 := Tryz.isAgg4
 z4 := Tryz.sizeOf4
 v4 := Tryz.zeroValue4
 t5 := Tryz.underlying5
 a5 := Tryz.isAgg5
 z5 := Tryz.sizeOf5
 v5 := Tryz.zeroValue5
 t9 := Tryz.underlying9
 a9 := Tryz.isAgg9
 z9 := Tryz.sizeOf9
 v9 := Tryz.zeroValue9
 t28 := Tryz.underlying24
 a28 := Tryz.isAgg24
 z28 := Tryz.sizeOf24
 v28 := Tryz.zeroValue24
 t46 := Tryz.underlying331
 a46 := Tryz.isAgg331
 z46 := Tryz.sizeOf331
 v46 := Tryz.zeroValue331
 t51 := Tryz.underlying396
 a51 := Tryz.isAgg396
 z51 := Tryz.sizeOf396
 v51 := Tryz.zeroValue396
 t53 := Tryz.underlying398
 a53 := Tryz.isAgg398
 z53 := Tryz.sizeOf398
 v53 := Tryz.zeroValue398
 t131 := Tryz.underlying273
 a131 := Tryz.isAgg273
 z131 := Tryz.sizeOf273
 v131 := Tryz.zeroValue273
 t182 := Tryz.underlying389
 a182 := Tryz.isAgg389
 z182 := Tryz.sizeOf389
 v182 := Tryz.zeroValue389
 t183 := Tryz.underlying390
 a183 := Tryz.isAgg390
 z183 := Tryz.sizeOf390
 v183 := Tryz.zeroValue390
 t218 := Tryz.underlying421
 a218 := Tryz.isAgg421
 z218 := Tryz.sizeOf421
 v218 := Tryz.zeroValue421
 t222 := Tryz.underlying425
 a222 := Tryz.isAgg425
 z222 := Tryz.sizeOf425
 v222 := Tryz.zeroValue425
 t228 := Tryz.underlying443
 a228 := Tryz.isAgg443
 z228 := Tryz.sizeOf443
 v228 := Tryz.zeroValue443
 t229 := Tryz.underlying46
 a229 := Tryz.isAgg46
 z229 := Tryz.sizeOf46
 v229 := Tryz.zeroValue46 }
open Go.Sort Go.RowKit in
theorem Tryz.slices_Sort_int (blk off cap : Nat) (zs : List Int) (w : World) (hH : Holds (Value.int .i64) w blk off zs.toArray) (hblk : blk < w.heap.size) (hsz : zs.length < 4611686018427387904) :
  Calls Tryz.prog 113 #[.slice (some ⟨blk, off, none⟩) zs.length cap] w fun e w' =>
   e = .returned (.tuple #[]) ∧ ∃ n os, w' = grow (putRow (Value.int .i64) (Sort.ahead w n) blk off (zs.mergeSort fun x y => decide (x ≤ y)).toArray) os := Any.slices_Sort_int Tryz.lays189 blk off cap zs w hH hblk hsz
end Go.Proofs
namespace Go.Proofs.YtkmalcoocklikaaGreatDoor
open Go.Dm
attribute [local irreducible] L.load L.store L.chk L.new L.nonnil L.guard L.ite L.draw L.idx L.sem L.semR L.semU L.chkSem L.next L.call L.callV L.join L.alts L.loop L.begin L.endRound L.range
variable {w0 w : World} {E : List Seg}
def isort (l : List Int) : List Int := l.mergeSort fun x y => decide (x ≤ y)
theorem z8w (l : List Int) : (isort l).Perm l := List.mergeSort_perm ..
theorem zdK (l : List Int) : (isort l).Pairwise (· ≤ ·) := by
 have := List.pairwise_mergeSort (le := fun x y : Int => decide (x ≤ y)) (fun a b c h1 h2 => by simp only [decide_eq_true_eq] at *; omega) (fun a b => by simp only [Bool.or_eq_true, decide_eq_true_eq]; omega) l
 exact this.imp fun h => by simpa using h
theorem zgI {l m : List Int} (h : l.Perm m) : isort l = isort m :=
 List.Perm.eq_of_pairwise (fun a b _ _ h1 h2 => by omega) (zdK l) (zdK m) (((z8w l).trans h).trans (z8w m).symm)
theorem zk7 {l m : List Int} (h : l.Perm m) (hm : m.Pairwise (· ≤ ·)) : isort l = m :=
 List.Perm.eq_of_pairwise (fun a b _ _ h1 h2 => by omega) (zdK l) hm ((z8w l).trans h)
theorem z7L (l : List Int) : (isort l).length = l.length := (z8w l).length_eq
theorem zjv (h : St w0 E w) (i : Nat) {s : Seg} (hi : nth E i = some s) {v : Sl} {l : List Int} (hr : Rw eI z0i 1 v l s) (hn : l.length < 1000000000) {k : Unit → PT} (hk : ∀ s' w', Rw eI z0i 1 v (isort l) s' → St w0 (setN E i s') w' → k () w') :
  L.call Pr z3h [.slice v.a v.len v.cap] (.tup []) k w :=
 zif (encv := Value.int .i64) (fun _ => rfl) encI (isort l) (z7L l) (fun g off cap w h1 h2 => Tryz.slices_Sort_int g off cap l w h1 h2 (by omega)) (fun p cap w => Any.slices_Sort_int_none Tryz.lays189 p cap w) h i hi hr hk
theorem zf5 {a1 a2 : Seg} {F : List Seg} {fv : FV} {keys : List Int} (hY : YldM Pr w0 [a1, a2] fv.val keys (Value.int .i64)) (h : St w0 (a1 :: a2 :: F) w) (hn : keys.length < 1000000000) {k : Sl → PT}
  (hk : ∀ seen v s w', seen.Perm keys → Rw eI z0i 1 v seen s → St w0 (s :: a1 :: a2 :: F) w' → k v w') : L.call Pr z2h [.slice none 0 0, fv.val] (.one (.one .slice)) k w := by
 refine z00 (z5Z ⟨none, 0, 0⟩ fv) ?_
 unfold z3A
 refine nw h ?_; clear h; (try clear w); intro b1 w h
 have h := fr2_ (fr2_ h)
 have h : St w0 ([a1, a2] ++ [Cl b1 z0X [SlV ⟨none, 0, 0⟩]] :: [] :: F) w := h.eq (by simp)
 refine zem (l := .int .i64) (arg := fun x => x) (A := [a1, a2]) (keys := keys) hY h (fun seen G => ∃ v s, G = [Cl b1 z0X [SlV v]] :: s :: F ∧ Rw eI z0i 1 v seen s) (fun j G => False) ⟨_, _, rfl, Rw.nil⟩ ?_ ?_ ?_
 ·rintro seen x G X w lv lp d R hm ⟨v, s, rfl, hr⟩ h hN hE
  have h : St w0 ([Rec lv lp .busy none] :: [DfM d] :: a1 :: a2 :: [Cl b1 z0X [SlV v]] :: s :: (F ++ X)) w := h
  (refine ldC h ?_)
  refine nw h ?_; clear h; (try clear w); intro b8 w h
  refine Rw.app encI elI h 5 rfl hr x rfl (by omega) (by omega) fun v' s' w hr' h => ?_
  (dsimp only [setN, List.cons_append, List.nil_append] at h; refine stC h ?_; clear h; (try clear w); intro w h; dsimp only [putN, setN] at h)
  exact hN _ w ⟨v', s', rfl, hr'⟩ h
 ·rintro d seen G w hp ⟨v, s, rfl, hr⟩ h
  have h : St w0 ([DfM d] :: a1 :: a2 :: [Cl b1 z0X [SlV v]] :: s :: F) w := h
  refine jumpN ?_
  (refine ldC h ?_)
  (first | refine um0_ h ?_ | refine um1_ h ?_ | refine um2_ h ?_ | refine um3_ h ?_ | refine um4_ h ?_ | refine um5_ h ?_ | refine um6_ h ?_ | refine um7_ h ?_ | refine um8_ h ?_ | refine um9_ h ?_ | refine z93 h ?_ | refine z92 h ?_); clear h; (try clear w); intro w h
  refine ⟨v, rfl, hk seen v s w hp hr ?_⟩
  have h := fr3_ (fr1_ (fr1_ h))
  have h := dl3_ h
  exact h
 ·rintro d j G w hf; exact hf.elim
theorem zdV {a1 a2 : Seg} {F : List Seg} {fv : FV} {keys : List Int} (hY : YldM Pr w0 [a1, a2] fv.val keys (Value.int .i64)) (h : St w0 (a1 :: a2 :: F) w) (hn : keys.length < 1000000000) {k : Sl → PT}
  (hk : ∀ v s w', Rw eI z0i 1 v (isort keys) s → St w0 (s :: a2 :: F) w' → k v w') : L.call Pr z2z [fv.val] (.one (.one .slice)) k w := by
 refine z00 (z9j fv) ?_
 unfold z5O
 refine z00 (z8H fv) ?_
 unfold z5b
 refine zf5 hY h hn fun seen v s w hp hr h => ⟨v, rfl, ?_⟩
 refine zjv h 0 rfl hr (by rw [hp.length_eq]; exact hn) fun s w hr h => ?_
 rw [zgI hp] at hr
 exact ⟨v, rfl, hk v s w hr (dl1_ h)⟩
def unI : Value → Int
 | .int _ n => n
 | _ => 0
abbrev KI : Int → Value := Value.int .i64
def vOne (x : ByteArray × Option Addr) : Value := .agg #[.string x.1, .pointer x.2]
theorem z7C : Pr.underlying z2T = some (.map z0i z68) := by kernel_rfl
theorem z3b : Pr.underlying z0o = some (.map z0i z4J) := by kernel_rfl
theorem zeg : Pr.underlying z5n = some (.map z0i z0i) := by kernel_rfl
theorem zl1 : Pr.underlying z0i = some (.int .i64) := by kernel_rfl
theorem mkI : MK Pr z0i KI := zmy zl1
theorem zb (w : World) : (zeroValue z68).run Pr w = .ok ((E1.one .bool).val false) w := by
 have h : (Pr.info? z68).map (·.zero) = some (some (.bool false)) := by kernel_rfl
 cases hi : Pr.info? z68 with
 | none => rw [hi] at h; cases h
 | some i => rw [hi] at h; simp only [Option.map_some, Option.some.injEq] at h; exact zv hi h w
theorem zi (w : World) : (zeroValue z0i).run Pr w = .ok ((E1.one (.int .i64)).val (0 : Int)) w := by
 have h : (Pr.info? z0i).map (·.zero) = some (some (I 0)) := by kernel_rfl
 cases hi : Pr.info? z0i with
 | none => rw [hi] at h; cases h
 | some i => rw [hi] at h; simp only [Option.map_some, Option.some.injEq] at h; exact zv hi h w
theorem zo (w : World) : (zeroValue z4J).run Pr w = .ok ((E1.agg [.str, .ptr]).val (s_, none, ())) w := by
 have h : (Pr.info? z4J).map (·.zero) = some (some (.agg #[.string s_, .pointer none])) := by kernel_rfl
 cases hi : Pr.info? z4J with
 | none => rw [hi] at h; cases h
 | some i => rw [hi] at h; simp only [Option.map_some, Option.some.injEq] at h; exact zv hi h w
theorem znM (h : St w0 E w) (i : Nat) {s : Seg} (hi : nth E i = some s) {r : Nat} {m : List (Int × (ByteArray × Option Addr))} (hm : MpS KI vOne r m s) (hn : m.length < 1000000000) {k : Sl → PT}
  (hk : ∀ v s' w', Rw eI z0i 1 v (isort (m.map (·.1))) s' → St w0 (s' :: E) w' → k v w') :
  L.call Pr z0Q [.map (some r)] (.one (.one .func)) (fun x5 => L.call Pr z2z [.func x5.fn x5.fs x5.cs] (.one (.one .slice)) k) w := by
 refine z00 (z2L _) ?_
 unfold z1m
 have h := h.front i hi
 refine nw h ?_; clear h; (try clear w); intro c w h
 refine ⟨⟨.func z0h, #[], #[.pointer (some ⟨c, 0, none⟩)]⟩, rfl, ?_⟩
 have hY : YldM Pr w0 [[Cl c z0o [.map (some r)]], s] (.func (.func z0h) #[] #[.pointer (some ⟨c, 0, none⟩)]) (m.map (·.1)) KI := by
  intro yv R J Jd F w h hJ step fin fin2
  refine ⟨z2w, z2x yv ⟨c, 0, none⟩ ?_⟩
  unfold z1i
  exact zfI (kv := KI) (vv := vOne) unI (fun _ => rfl) z3b (lk := .int .i64) (ev := .agg [.str, .ptr]) (fun x => x) (fun _ => rfl) (fun x : ByteArray × Option Addr => (x.1, x.2, ())) (fun _ => rfl) J Jd hm h hJ (fun seen k F X w hl hJ h => step seen k F X w (by simpa using hl) hJ h) fin fin2
 refine zdV (fv := ⟨.func z0h, #[], #[.pointer (some ⟨c, 0, none⟩)]⟩) hY h (by simpa using hn) fun v s' w hr h => hk v s' w hr ?_
 have h := fr1_ h
 exact St.setN_same' (i + 1) (E := s' :: E) hi (St.back (i + 1) (E := s' :: E) hi h)
structure APod where
 st : Int
 conc : Int
 reqs : List Int
def insI (x : Int) : List Int → List Int
 | [] => [x]
 | y :: l => if y < x then y :: insI x l else x :: y :: l
structure APod.Ok (p : APod) : Prop where
 pw : p.reqs.Pairwise (· < ·)
 dr : p.st = 3 → p.reqs ≠ []
 dead : p.st = 4 → p.reqs = []
 few : p.reqs.length < 100000000
def podUp (p : APod) : APod × Int := if p.st ≠ 1 then (p, 9) else ({ p with st := 2 }, 0)
def podDrain (p : APod) : APod × Int := if p.st ≠ 1 ∧ p.st ≠ 2 then (p, 9) else ({ p with st := if p.reqs = [] then 4 else 3 }, 0)
def podKill (p : APod) : APod × List Int × Int := if p.st = 4 then (p, [], 9) else ({ p with st := 4, reqs := [] }, p.reqs, 0)
def podTake (p : APod) (id : Int) : APod × Int :=
 if p.st ≠ 2 then (p, 9) else if id ∈ p.reqs then (p, 5) else if (p.reqs.length : Int) ≥ p.conc then (p, 8) else ({ p with reqs := insI id p.reqs }, 0)
def podGive (p : APod) (id : Int) : APod × Int :=
 if id ∈ p.reqs then ({ p with reqs := p.reqs.erase id, st := if p.st = 3 ∧ p.reqs.erase id = [] then 4 else p.st }, 0) else (p, 6)
theorem z7M (x : Int) (l : List Int) : (insI x l).Perm (x :: l) := by
 induction l with
 | nil => exact .refl _
 | cons y l ih =>
  simp only [insI]
  split
  ·exact (ih.cons y).trans (.swap ..)
  ·exact .refl _
theorem z8x {x y : Int} {l : List Int} : y ∈ insI x l ↔ y = x ∨ y ∈ l := by
 rw [(z7M x l).mem_iff]; simp
theorem ziL {x : Int} : ∀ {l : List Int}, l.Pairwise (· < ·) → x ∉ l → (insI x l).Pairwise (· < ·)
 | [], _, _ => by simp [insI]
 | y :: l, h, hx => by
  simp only [List.mem_cons, not_or] at hx
  rw [List.pairwise_cons] at h
  simp only [insI]
  split
  ·rename_i hy
   rw [List.pairwise_cons]
   refine ⟨fun z hz => ?_, ziL h.2 hx.2⟩
   rcases z8x.1 hz with rfl | hz
   ·exact hy
   ·exact h.1 z hz
  ·rename_i hy
   rw [List.pairwise_cons]
   refine ⟨fun z hz => ?_, List.pairwise_cons.2 h⟩
   rcases List.mem_cons.1 hz with rfl | hz
   ·omega
   ·have := h.1 z hz; omega
theorem zgJ (x : Int) (l : List Int) : (insI x l).length = l.length + 1 := by rw [(z7M x l).length_eq]; rfl
def BagIs (m : List (Int × Bool)) (reqs : List Int) : Prop := (∀ p ∈ m, p.2 = true) ∧ (m.map (·.1)).Perm reqs
theorem BagIs.get {m : List (Int × Bool)} {reqs : List Int} (h : BagIs m reqs) (id : Int) : ((mget m id).map fun x => x).getD false = decide (id ∈ reqs) := by
 cases hg : mget m id with
 | none =>
  have := z1N.1 hg
  rw [h.2.mem_iff] at this
  simp [this]
 | some b =>
  have hm := z3T hg
  have hb := h.1 _ hm
  simp only at hb
  subst hb
  have : id ∈ reqs := h.2.mem_iff.1 (List.mem_map_of_mem (f := (·.1)) hm)
  simp [this]
theorem BagIs.len {m : List (Int × Bool)} {reqs : List Int} (h : BagIs m reqs) : m.length = reqs.length := by
 have := h.2.length_eq
 simpa using this
theorem BagIs.put {m : List (Int × Bool)} {reqs : List Int} (h : BagIs m reqs) {id : Int} (hn : id ∉ reqs) : BagIs (mset m id true) (insI id reqs) := by
 have hg : mget m id = none := z1N.2 (fun hm => hn (h.2.mem_iff.1 hm))
 rw [z3l hg]
 refine ⟨fun p hp => ?_, ?_⟩
 ·rcases List.mem_append.1 hp with hp | hp
  ·exact h.1 p hp
  ·simp at hp; subst hp; rfl
 ·rw [List.map_append]
  refine List.Perm.trans ?_ (z7M id reqs).symm
  exact List.perm_append_comm.trans (h.2.cons id)
theorem mdel_perm : ∀ {m : List (Int × Bool)} {k : Int}, ((mdel m k).map (·.1)).Perm ((m.map (·.1)).erase k)
 | [], k => by simp [mdel]
 | p :: m, k => by
  simp only [mdel]
  by_cases e : p.1 = k
  ·rw [if_pos e]; subst e; simp
  ·rw [if_neg e, List.map_cons, List.map_cons, List.erase_cons_tail (by simpa using e)]
   exact (mdel_perm (m := m) (k := k)).cons _
theorem zgw {κ υ : Type} [DecidableEq κ] : ∀ {m : List (κ × υ)} {k : κ} {p : κ × υ}, p ∈ mdel m k → p ∈ m
 | q :: m, k, p, h => by
  simp only [mdel] at h
  split at h
  ·exact List.mem_cons_of_mem _ h
  ·rcases List.mem_cons.1 h with rfl | h
   ·exact List.mem_cons_self ..
   ·exact List.mem_cons_of_mem _ (zgw h)
theorem BagIs.take {m : List (Int × Bool)} {reqs : List Int} (h : BagIs m reqs) (id : Int) : BagIs (mdel m id) (reqs.erase id) :=
 ⟨fun p hp => h.1 p (zgw hp), mdel_perm.trans (h.2.erase id)⟩
def PodS (b : Nat) (p : APod) (s : Seg) : Prop := p.Ok ∧ ∃ r m sm, MpS KI Value.bool r m sm ∧ BagIs m p.reqs ∧ s = [Cl b z7S [I p.st, .map (some r), I p.conc]] ++ sm
theorem zn2 (h : St w0 E w) {conc : Int} {k : Option Addr → PT} (hk : ∀ b s w', PodS b ⟨1, conc, []⟩ s → St w0 (s :: E) w' → k (some ⟨b, 0, none⟩) w') : L.call Pr zbY [I conc] (.one (.one .ptr)) k w := by
 refine z00 (zjx _) ?_
 unfold zf7
 refine MpS.new h KI Value.bool fun r s w hm h => ?_
 refine nw h ?_; clear h; (try clear w); intro b w h
 exact ⟨_, rfl, hk b _ w ⟨⟨by simp, by simp, by simp, by simp⟩, r, [], s, hm, ⟨by simp, .refl _⟩, rfl⟩ h.glue⟩
theorem zkw (h : St w0 E w) (i : Nat) {b : Nat} {p : APod} {s : Seg} (hi : nth E i = some s) (hp : PodS b p s) {k : Int → PT} (hk : k p.st w) : L.call Pr z0Y [.pointer (some ⟨b, 0, none⟩)] (.one (.one (.int .i64))) k w := by
 obtain ⟨ok, r, m, sm, hm, hb, rfl⟩ := hp
 refine z00 (zcy _) ?_
 unfold z7Y
 have h := (h.front i hi).split
 (refine nn ?_; refine ldC h ?_)
 exact ⟨_, rfl, hk⟩
theorem zlS (h : St w0 E w) (i : Nat) {b : Nat} {p : APod} {s : Seg} (hi : nth E i = some s) (hp : PodS b p s) {k : Int → PT} (hk : k p.reqs.length w) : L.call Pr z1z [.pointer (some ⟨b, 0, none⟩)] (.one (.one (.int .i64))) k w := by
 obtain ⟨ok, r, m, sm, hm, hb, rfl⟩ := hp
 refine z00 (z90 _) ?_
 unfold z6p
 have h := (h.front i hi).split
 (refine nn ?_; refine ldC h ?_)
 refine MpS.len z7C h 1 rfl hm ⟨_, rfl, ?_⟩
 rw [hb.len]; exact hk
theorem znD (h : St w0 E w) (i : Nat) {b : Nat} {p : APod} {s : Seg} (hi : nth E i = some s) (hp : PodS b p s) {k : Int → PT} (hk : ∀ s' w', PodS b (podUp p).1 s' → St w0 (setN E i s') w' → k (podUp p).2 w') :
  L.call Pr z7G [.pointer (some ⟨b, 0, none⟩)] (.one (.one (.int .i64))) k w := by
 have hp' := hp
 obtain ⟨ok, r, m, sm, hm, hb, rfl⟩ := hp
 refine z00 (zff _) ?_
 unfold zb8
 have h := (h.front i hi).split
 (refine nn ?_; refine ldC h ?_)
 refine it (fun hc => ?_) (fun hc => ?_) <;> (try simp only [zB] at hc)
 ·have e : podUp p = (p, 9) := by simp only [podUp]; rw [if_pos hc]
  rw [e] at hk
  exact ⟨_, rfl, hk _ w hp' (St.back i hi h.glue)⟩
 ·have e : podUp p = ({ p with st := 2 }, 0) := by simp only [podUp]; rw [if_neg (by simpa using hc)]
  rw [e] at hk
  (refine nn ?_; refine stC h ?_; clear h; (try clear w); intro w h; dsimp only [putN, setN] at h)
  exact ⟨_, rfl, hk _ w ⟨⟨ok.pw, by simp, by simp, ok.few⟩, r, m, sm, hm, hb, rfl⟩ (St.back i hi h.glue)⟩
theorem zn3 {b r : Nat} {st conc : Int} {m : List (Int × Bool)} {reqs : List Int} {sm : Seg} {F : List Seg} (hm : MpS KI Value.bool r m sm) (hb : BagIs m reqs) (h : St w0 ([Cl b z7S [I st, .map (some r), I conc]] :: sm :: F) w) {k : Unit → PT}
  (hk : ∀ w', St w0 ([Cl b z7S [I (if st = 3 ∧ reqs = [] then 4 else st), .map (some r), I conc]] :: sm :: F) w' → k () w') : L.call Pr z6P [.pointer (some ⟨b, 0, none⟩)] (.tup []) k w := by
 refine z00 (ze2 _) ?_
 unfold za2
 (refine nn ?_; refine ldC h ?_)
 refine it (fun hc => ?_) (fun hc => ?_) <;> (try simp only [zB] at hc)
 ·refine z00 (z90 _) ?_
  unfold z6p
  (refine nn ?_; refine ldC h ?_)
  refine MpS.len z7C h 1 rfl hm ⟨_, rfl, ?_⟩
  have hl := hb.len
  refine it (fun hd => ?_) (fun hd => ?_) <;> (try simp only [zB] at hd)
  ·have : reqs = [] := List.eq_nil_of_length_eq_zero (by omega)
   rw [if_pos ⟨hc, this⟩] at hk
   (refine nn ?_; refine stC h ?_; clear h; (try clear w); intro w h; dsimp only [putN, setN] at h)
   exact ⟨(), rfl, hk w h⟩
  ·rw [if_neg (fun hh => hd (by rw [hl, hh.2]; rfl))] at hk
   exact ⟨(), rfl, hk w h⟩
 ·rw [if_neg (fun hh => hc hh.1)] at hk
  exact ⟨(), rfl, hk w h⟩
theorem zkx (h : St w0 E w) (i : Nat) {b : Nat} {p : APod} {s : Seg} (hi : nth E i = some s) (hp : PodS b p s) {k : Int → PT} (hk : ∀ s' w', PodS b (podDrain p).1 s' → St w0 (setN E i s') w' → k (podDrain p).2 w') :
  L.call Pr z5A [.pointer (some ⟨b, 0, none⟩)] (.one (.one (.int .i64))) k w := by
 have hp' := hp
 obtain ⟨ok, r, m, sm, hm, hb, rfl⟩ := hp
 refine z00 (zcz _) ?_
 unfold z7Z
 have h := (h.front i hi).split
 refine z1k (fun z w => ¬ (p.st ≠ 1 ∧ p.st ≠ 2) ∧ St w0 ([Cl b z7S [I p.st, .map (some r), I p.conc]] :: sm :: delN E i) w) (fun k1 hk1 => ?_) (fun z w ⟨hc, h⟩ => ?_)
 ·(refine nn ?_; refine ldC h ?_)
  refine it (fun hc => ?_) (fun hc => ?_) <;> (try simp only [zB] at hc)
  ·(refine nn ?_; refine ldC h ?_)
   refine it (fun hd => ?_) (fun hd => ?_) <;> (try simp only [zB] at hd)
   ·have e : podDrain p = (p, 9) := by simp only [podDrain]; rw [if_pos ⟨hc, hd⟩]
    rw [e] at hk
    exact ⟨_, rfl, hk _ w hp' (St.back i hi h.glue)⟩
   ·exact hk1 _ w ⟨fun hh => hh.2 hd, h⟩
  ·exact hk1 _ w ⟨fun hh => hh.1 hc, h⟩
 ·have e : podDrain p = ({ p with st := if p.reqs = [] then 4 else 3 }, 0) := by simp only [podDrain]; rw [if_neg hc]
  rw [e] at hk
  (refine nn ?_; refine stC h ?_; clear h; (try clear w); intro w h; dsimp only [putN, setN] at h)
  refine zn3 hm hb h fun w h => ⟨0, rfl, hk _ w ⟨⟨ok.pw, ?_, ?_, ok.few⟩, r, m, sm, hm, hb, rfl⟩ ?_⟩
  ·intro hh e
   have e : p.reqs = [] := e
   simp [e] at hh
  ·intro hh; apply Classical.byContradiction; intro hne; simp [hne] at hh
  ·have h := St.back i hi h.glue
   simp only [true_and] at h
   exact h
theorem zlR (h : St w0 E w) (i : Nat) {b : Nat} {p : APod} {s : Seg} (hi : nth E i = some s) (hp : PodS b p s) (hfew : p.reqs.length < 10000000) {id : Int} {k : Int → PT} (hk : ∀ s' w', PodS b (podTake p id).1 s' → St w0 (setN E i s') w' → k (podTake p id).2 w') :
  L.call Pr z4M [.pointer (some ⟨b, 0, none⟩), I id] (.one (.one (.int .i64))) k w := by
 have hp' := hp
 obtain ⟨ok, r, m, sm, hm, hb, rfl⟩ := hp
 refine z00 (zcN _ _) ?_
 unfold z8W
 have h := (h.front i hi).split
 (refine nn ?_; refine ldC h ?_)
 refine it (fun hc => ?_) (fun hc => ?_) <;> (try simp only [zB] at hc)
 ·have e : podTake p id = (p, 9) := by simp only [podTake]; rw [if_pos hc]
  rw [e] at hk
  exact ⟨_, rfl, hk _ w hp' (St.back i hi h.glue)⟩
 (refine nn ?_)
 refine z00 (zaQ _ _) ?_
 unfold z6F
 (refine nn ?_; refine ldC h ?_)
 refine MpS.get (kv := KI) (e := .one .bool) (z := false) mkI z7C zb (fun x => x) (fun _ => rfl) h 1 rfl hm ?_
 rw [hb.get]
 have hl := hb.len
 refine it (fun hd => ?_) (fun hd => ?_) <;> (try simp only [zB] at hd)
 ·have e : podTake p id = (p, 5) := by simp only [podTake]; rw [if_neg (by simpa using hc), if_pos hd]
  rw [e] at hk
  exact ⟨5, rfl, 5, rfl, hk _ w hp' (St.back i hi h.glue)⟩
 (refine dr h ?_; clear h; (try clear w); intro w h; refine nn ?_; refine ldC h ?_)
 refine MpS.len z7C h 1 rfl hm ?_
 (refine nn ?_; rw [z3H]; refine ldC h ?_)
 refine it (fun he => ?_) (fun he => ?_) <;> (try simp only [zB] at he)
 ·have e : podTake p id = (p, 8) := by simp only [podTake]; rw [if_neg (by simpa using hc), if_neg hd, if_pos (by omega)]
  rw [e] at hk
  exact ⟨8, rfl, 8, rfl, hk _ w hp' (St.back i hi h.glue)⟩
 ·have e : podTake p id = ({ p with reqs := insI id p.reqs }, 0) := by simp only [podTake]; rw [if_neg (by simpa using hc), if_neg hd, if_neg (by omega)]
  rw [e] at hk
  (refine nn ?_; refine ldC h ?_)
  refine MpS.set (kv := KI) (vv := Value.bool) mkI z7C h 1 rfl hm true rfl fun sm' w hm h => ?_
  refine ⟨0, rfl, 0, rfl, hk _ w ⟨⟨ziL ok.pw hd, ?_, ?_, ?_⟩, r, _, sm', hm, hb.put hd, rfl⟩ (St.back i hi h.glue)⟩
  ·intro _ e2
   have := zgJ id p.reqs
   have e2 : insI id p.reqs = [] := e2
   rw [e2] at this; simp at this
  ·intro hh; simp only at hh; have := hc; omega
  ·simp only; rw [zgJ]; omega
theorem z9U (h : St w0 E w) {v : Sl} {l : List Int} (r : Rd w eI v l) (hn : l.length < 1000000000000) (h64 : v.a = none → l = []) {k : Sl → PT}
  (hk : ∀ (v' : Sl) s' w', Rw eI z0i 1 v' l s' → (v'.a = none ↔ v.a = none) → St w0 (s' :: E) w' → k v' w') : L.call Pr z0J [SlV v] (.one (.one .slice)) k w := by
 refine z00 (z4E _) ?_
 unfold z2Z
 exact z9P (K := fun v w' => ∃ x, v = RT.val (.one (.one .slice)) x ∧ k x w') encI elI h r (by omega) hn h64 fun v' s' w' h1 h2 h3 => ⟨v', rfl, hk v' s' w' h1 h2 h3⟩
theorem Rw.nil_of {α : Type} {enc : α → List Value} {e size : Nat} {v : Sl} {l : List α} {s : Seg} (hE : Enc enc size) (hr : Rw enc e size v l s) (h : v.a = none) : l = [] := by
 have := Rw.len hE hr
 unfold Rw at hr
 generalize fl enc l = cs at hr
 cases hr with
 | nil => simpa using this.symm
 | mk => cases h
structure AHeld where
 id : Int
 rev : ByteArray
 pod : APod
structure AFleet where
 room : Int
 last : Int
 l : List AHeld
structure AFleet.Ok (f : AFleet) : Prop where
 pw : f.l.Pairwise (fun x y => x.id < y.id)
 rng : ∀ x ∈ f.l, 0 < x.id ∧ x.id ≤ f.last
 live : ∀ x ∈ f.l, x.pod.st = 1 ∨ x.pod.st = 2 ∨ x.pod.st = 3
 once : f.l.Pairwise (fun x y => ∀ q ∈ x.pod.reqs, q ∉ y.pod.reqs)
 few : f.l.length < 100000000
 lo : 0 ≤ f.last
 hi : f.last < 4611686018427387904
abbrev Tr := AHeld × Nat × Seg
abbrev trS (t : Tr) : Seg := t.2.2
def ent (t : Tr) : Int × (ByteArray × Option Addr) := (t.1.id, t.1.rev, some ⟨t.2.1, 0, none⟩)
def fFind (l : List AHeld) (id : Int) : Option AHeld := l.find? fun x => decide (x.id = id)
def fWhere (l : List AHeld) (q : Int) : Option AHeld := l.find? fun x => decide (q ∈ x.pod.reqs)
structure FlR (F : AFleet) (L : List Tr) (mA : List (Int × (ByteArray × Option Addr))) (mW : List (Int × Int)) : Prop where
 l : F.l = L.map (·.1)
 ps : ∀ t ∈ L, PodS t.2.1 t.1.pod t.2.2
 all : mA.Perm (L.map ent)
 wth : ∀ q, mget mW q = (fWhere F.l q).map (·.id)
abbrev flB (b : Nat) (rA rW : Nat) (F : AFleet) : Seg := [Cl b z9S [.map (some rA), .map (some rW), I F.room, I F.last]]
def FlS (b : Nat) (F : AFleet) (s : Seg) : Prop := F.Ok ∧ ∃ rA rW mA mW sA sW L, MpS KI vOne rA mA sA ∧ MpS KI KI rW mW sW ∧ FlR F L mA mW ∧ s = flB b rA rW F ++ (sA ++ (sW ++ (L.map trS).flatten))
theorem FlR.ids {F : AFleet} {L : List Tr} {mA mW} (hr : FlR F L mA mW) (ok : F.Ok) : L.Pairwise (fun x y => x.1.id < y.1.id) := by
 have := ok.pw; rw [hr.l, List.pairwise_map] at this; exact this
theorem FlR.keys {F : AFleet} {L : List Tr} {mA mW} (hr : FlR F L mA mW) (ok : F.Ok) : isort (mA.map (·.1)) = L.map (·.1.id) := by
 refine zk7 ?_ ?_
 ·have := hr.all.map (·.1); rw [List.map_map] at this; exact this
 ·rw [List.pairwise_map]; exact (hr.ids ok).imp fun h => by omega
theorem FlR.len {F : AFleet} {L : List Tr} {mA mW} (hr : FlR F L mA mW) : mA.length = F.l.length := by rw [hr.all.length_eq, hr.l]; simp
theorem FlR.nd {F : AFleet} {L : List Tr} {mA mW} (hr : FlR F L mA mW) (ok : F.Ok) : (mA.map (·.1)).Nodup := by
 have := hr.all.map (·.1); rw [List.map_map] at this
 rw [this.nodup_iff]
 have h := (hr.ids ok).imp (S := fun x y => x.1.id ≠ y.1.id) fun h => by omega
 exact List.pairwise_map.2 h
theorem FlR.get {F : AFleet} {L : List Tr} {mA mW} (hr : FlR F L mA mW) (ok : F.Ok) {t : Tr} (ht : t ∈ L) : mget mA t.1.id = some (t.1.rev, some ⟨t.2.1, 0, none⟩) :=
 z9b (hr.nd ok) (hr.all.mem_iff.2 (List.mem_map_of_mem (f := ent) ht))
theorem FlR.get0 {F : AFleet} {L : List Tr} {mA mW} (hr : FlR F L mA mW) {id : Int} (h : fFind F.l id = none) : mget mA id = none := by
 refine z1N.2 fun hm => ?_
 have := (hr.all.map (·.1)).mem_iff.1 hm
 rw [List.map_map] at this
 obtain ⟨t, ht, e⟩ := List.mem_map.1 this
 have e : t.1.id = id := e
 have h2 := List.find?_eq_none.1 h t.1 (by rw [hr.l]; exact List.mem_map_of_mem (f := (·.1)) ht)
 simp [e] at h2
theorem FlR.at {F : AFleet} {L : List Tr} {mA mW} (hr : FlR F L mA mW) {id : Int} {x : AHeld} (h : fFind F.l id = some x) : ∃ A t B, L = A ++ t :: B ∧ t.1 = x ∧ x.id = id := by
 have h1 := List.mem_of_find?_eq_some h
 have h2 := List.find?_some h
 rw [hr.l] at h1
 obtain ⟨t, ht, rfl⟩ := List.mem_map.1 h1
 obtain ⟨A, B, e⟩ := List.append_of_mem ht
 exact ⟨A, t, B, e, rfl, by simpa using h2⟩
theorem znb (h : St w0 E w) {room : Int} {k : Option Addr → PT} (hk : ∀ b s w', FlS b ⟨room, 0, []⟩ s → St w0 (s :: E) w' → k (some ⟨b, 0, none⟩) w') : L.call Pr z9a [I room] (.one (.one .ptr)) k w := by
 refine z00 (zgc _) ?_
 unfold zco
 refine MpS.new h KI vOne fun r1 s1 w hm1 h => ?_
 refine MpS.new h KI KI fun r2 s2 w hm2 h => ?_
 refine nw h ?_; clear h; (try clear w); intro b w h
 refine ⟨_, rfl, hk b _ w ⟨⟨by simp, by simp, by simp, by simp, by simp, by simp, by simp⟩, r1, r2, [], [], s1, s2, [], hm1, hm2, ⟨rfl, by simp, .refl _, fun q => rfl⟩, rfl⟩ ?_⟩
 have h := fr2_ (fr2_ (fr1_ h))
 exact h.eq (by simp)
theorem zm5 (h : St w0 E w) (i : Nat) {b : Nat} {F : AFleet} {s : Seg} (hi : nth E i = some s) (hf : FlS b F s) {k : Int → PT} (hk : k F.l.length w) : L.call Pr z4l [.pointer (some ⟨b, 0, none⟩)] (.one (.one (.int .i64))) k w := by
 obtain ⟨ok, rA, rW, mA, mW, sA, sW, L, hA, hW, hr, rfl⟩ := hf
 refine z00 (zam _) ?_
 unfold z6k
 have h : St w0 (flB b rA rW F :: sA :: sW :: (L.map trS).flatten :: delN E i) w := (h.front i hi).eq (by simp)
 ((try dsimp only [setN, List.cons_append, List.nil_append] at h); repeat (first | refine nn ?_ | (refine dr h ?_; clear h; (try clear w); intro w h) | refine ldC h ?_ | refine laC h ?_ | refine ckC h ?_ | (refine stC h ?_; clear h; (try clear w); intro w h; (try dsimp only [putN, setN] at h)) | rw [z3H]))
 refine MpS.len z3b h 1 rfl hA ⟨_, rfl, ?_⟩
 rw [hr.len]; exact hk
def fOf (l : List AHeld) (id : Int) : ByteArray := ((fFind l id).map (·.rev)).getD s_
theorem znH (h : St w0 E w) (i : Nat) {b : Nat} {F : AFleet} {s : Seg} (hi : nth E i = some s) (hf : FlS b F s) {id : Int} {k : ByteArray → PT} (hk : k (fOf F.l id) w) : L.call Pr z56 [.pointer (some ⟨b, 0, none⟩), I id] (.one (.one .str)) k w := by
 obtain ⟨ok, rA, rW, mA, mW, sA, sW, L, hA, hW, hr, rfl⟩ := hf
 refine z00 (zbx _ _) ?_
 unfold z7q
 have h : St w0 (flB b rA rW F :: sA :: sW :: (L.map trS).flatten :: delN E i) w := (h.front i hi).eq (by simp)
 (refine nn ?_; refine ldC h ?_)
 refine MpS.get mkI z3b zo (fun x : ByteArray × Option Addr => (x.1, x.2, ())) (fun _ => rfl) h 1 rfl hA ⟨_, rfl, ?_⟩
 unfold fOf at hk
 cases hfd : fFind F.l id with
 | none => rw [hfd] at hk; rw [hr.get0 hfd]; exact hk
 | some x =>
  obtain ⟨A, t, B, hL, rfl, hid⟩ := hr.at hfd
  have hg := hr.get ok (t := t) (by rw [hL]; simp)
  rw [hid] at hg
  rw [hfd] at hk; rw [hg]; exact hk
theorem S_of (h : St w0 E w) {p : Option Addr} {rev : ByteArray} {k : FV → PT} (hk : ∀ c0 c1 w', St w0 ([Cl c1 z01 [.string rev]] :: [Cl c0 z0A [.pointer p]] :: E) w' →
  k ⟨.func z2n, #[], #[.pointer (some ⟨c0, 0, none⟩), .pointer (some ⟨c1, 0, none⟩)]⟩ w') : L.call Pr z2k [.pointer p, .string rev] (.one (.one .func)) k w := by
 refine z00 (zbv _ _) ?_
 unfold z7o
 refine nw h ?_; clear h; (try clear w); intro c0 w h
 refine nw h ?_; clear h; (try clear w); intro c1 w h
 exact ⟨_, rfl, hk c0 c1 w h⟩
def argO (l : List Tr) (m : Nat) : TT [.one (.int .i64), .one .ptr] := match l[m]? with
 | some t => (t.1.id, some ⟨t.2.1, 0, none⟩, ())
 | none => (0, none, ())
abbrev revP (rev : ByteArray) (t : Tr) : Bool := decide (t.1.rev = rev)
theorem Y_of {c0 c1 b rA rW : Nat} {F : AFleet} {L : List Tr} {mA mW} {sA : Seg} {rev : ByteArray} (ok : F.Ok) (hA : MpS KI vOne rA mA sA) (hr : FlR F L mA mW) :
  YldX Pr w0 [[Cl c1 z01 [.string rev]], [Cl c0 z0A [.pointer (some ⟨b, 0, none⟩)]], flB b rA rW F, sA]
   (.func (.func z2n) #[] #[.pointer (some ⟨c0, 0, none⟩), .pointer (some ⟨c1, 0, none⟩)]) (L.filter (revP rev)).length fun m => TV _ (argO (L.filter (revP rev)) m) := by
 intro yv R J Jd G w h hJ step fin fin2
 have hll : L.length = F.l.length := by rw [hr.l]; simp
 have hfew := ok.few
 refine ⟨za9, zaj yv ⟨c0, 0, none⟩ ⟨c1, 0, none⟩ ?_⟩
 unfold z6h
 have h : St w0 ([Cl c1 z01 [.string rev]] :: [Cl c0 z0A [.pointer (some ⟨b, 0, none⟩)]] :: flB b rA rW F :: sA :: G) w := h
 (refine ldC h ?_; refine nn ?_; refine ldC h ?_)
 refine znM h 3 rfl hA (by rw [hr.len]; omega) fun v s w hrow h => ?_
 rw [hr.keys ok] at hrow
 have hlen := Rw.len encI hrow
 rw [List.length_map] at hlen
 refine z0G (fun q y w => ∃ (j : Nat) (G : List Seg), @Eq Int y.1 j ∧ q + j = L.length ∧ J ((L.take j).filter (revP rev)).length G ∧
  St w0 (s :: [Cl c1 z01 [.string rev]] :: [Cl c0 z0A [.pointer (some ⟨b, 0, none⟩)]] :: flB b rA rW F :: sA :: G) w) L.length ⟨0, G, rfl, rfl, hJ, h⟩ ?_
 clear hJ
 clear h; (try clear w)
 rintro q ⟨y, ⟨⟩⟩ w ⟨j, G, hy, hq, hJ, h⟩ again hag
 simp only at hy
 subst hy
 refine it (fun hb => ?_) (fun hb => ?_) <;> (try simp only [zB] at hb)
 ·have hj : j < L.length := by omega
  have hx : L[j]? = some L[j] := List.getElem?_eq_getElem hj
  have hft := zeQ (p := revP rev) hx
  refine z1k (fun z w => ∃ G, J ((L.take (j + 1)).filter (revP rev)).length G ∧ St w0 (s :: [Cl c1 z01 [.string rev]] :: [Cl c0 z0A [.pointer (some ⟨b, 0, none⟩)]] :: flB b rA rW F :: sA :: G) w) (fun k8 hk8 => ?_) (fun z w ⟨G, hJ, h⟩ => ?_)
  ·refine Rw.ix encI hrow (by omega) (by simpa using hj) fun a ha => ?_
   refine Rw.ld0 encI h 0 rfl hrow ha (x := L[j].1.id) (by simp [hj]) rfl rfl ?_
   (refine ldC h ?_; refine nn ?_; refine ldC h ?_)
   refine MpS.get mkI z3b zo (fun x : ByteArray × Option Addr => (x.1, x.2, ())) (fun _ => rfl) h 4 rfl hA ?_
   rw [hr.get ok (List.getElem_mem hj)]
   simp only [Option.map_some, Option.getD_some]
   refine nw h ?_; clear h; (try clear w); intro b16 w h
   (refine stC h ?_; clear h; (try clear w); intro w h; dsimp only [putN, setN] at h; refine ldC h ?_; refine ldC h ?_)
   rw [z7d]
   refine it (fun hc => ?_) (fun hc => ?_) <;> (try simp only [zB] at hc)
   ·(refine ldC h ?_)
    have h := dl0_ h
    have hp : revP rev L[j] = true := decide_eq_true hc
    rw [if_pos hp] at hft
    rw [hft] at hk8
    have hat := ziW (p := revP rev) hx hp
    have ea : TV _ (argO (L.filter (revP rev)) ((L.take j).filter (revP rev)).length) = [I L[j].1.id, .pointer (some ⟨L[j].2.1, 0, none⟩)] := by simp only [argO, hat]; rfl
    have hlt : ((L.take j).filter (revP rev)).length < (L.filter (revP rev)).length := by
     rcases Nat.lt_or_ge ((L.take j).filter (revP rev)).length (L.filter (revP rev)).length with h | h
     ·exact h
     ·rw [List.getElem?_eq_none h] at hat; cases hat
    have step := step _ G [s] w hlt hJ (St.toEnd (X := [s]) (A := [_, _, _, _]) h)
    simp only [ea] at step
    refine cv (FCall.mono step fun u w' hu => ?_)
    rcases hu with ⟨rfl, G', h, hJ⟩ | ⟨rfl, hd⟩
    ·exact ⟨true, rfl, itF rfl (hk8 () w' ⟨G', hJ, St.ofEnd (X := [s]) (A := [_, _, _, _]) h⟩)⟩
    ·exact ⟨false, rfl, itT rfl (fin2 w' hd)⟩
   ·have h := dl0_ h
    have hp : ¬ revP rev L[j] = true := fun e => hc (of_decide_eq_true e)
    rw [if_neg hp] at hft
    rw [Nat.add_zero] at hft
    rw [hft] at hk8
    exact hk8 () w ⟨G, hJ, h⟩
  ·refine hag (q - 1) _ w (by omega) ⟨j + 1, G, ?_, by omega, hJ, h⟩
   show IntKind.wrap .i64 _ = _
   rw [wr (by omega) (by omega)]; omega
 ·have e : j = L.length := by omega
  subst e
  rw [List.take_length] at hJ
  exact fin G w hJ (dl0_ h)
theorem z69 (h : St w0 E w) (i : Nat) {Q : List Tr} (hi : nth E i = some (Q.map trS).flatten) {t : Tr} (ht : t ∈ Q) (hp : PodS t.2.1 t.1.pod t.2.2) {k : Int → PT} (hk : k t.1.pod.st w) :
  L.call Pr z0Y [.pointer (some ⟨t.2.1, 0, none⟩)] (.one (.one (.int .i64))) k w := by
 obtain ⟨A, B, rfl⟩ := List.append_of_mem ht
 exact zkw (h.front i hi).pick 0 rfl hp hk
theorem zcg (h : St w0 E w) (i : Nat) {Q : List Tr} (hi : nth E i = some (Q.map trS).flatten) {t : Tr} (ht : t ∈ Q) (hp : PodS t.2.1 t.1.pod t.2.2) {k : Int → PT} (hk : k t.1.pod.reqs.length w) :
  L.call Pr z1z [.pointer (some ⟨t.2.1, 0, none⟩)] (.one (.one (.int .i64))) k w := by
 obtain ⟨A, B, rfl⟩ := List.append_of_mem ht
 exact zlS (h.front i hi).pick 0 rfl hp hk
def revs (l : List AHeld) (rev : ByteArray) : List AHeld := l.filter fun x => decide (x.rev = rev)
theorem FlR.revs {F : AFleet} {L : List Tr} {mA mW} (hr : FlR F L mA mW) (rev : ByteArray) : revs F.l rev = (L.filter (revP rev)).map (·.1) := by
 unfold YtkmalcoocklikaaGreatDoor.revs; rw [hr.l, List.filter_map]; rfl
theorem zdU {l : List Tr} {m : Nat} (hm : m < l.length) : argO l m = (l[m].1.id, some ⟨l[m].2.1, 0, none⟩, ()) := by
 simp [argO, List.getElem?_eq_getElem hm]
theorem zex {L : List Tr} {rev : ByteArray} {m : Nat} (hm : m < (L.filter (revP rev)).length) : (L.filter (revP rev))[m] ∈ L := (List.mem_filter.1 (List.getElem_mem hm)).1
def isUp (x : AHeld) : Bool := decide (x.pod.st ≠ 3)
def fCount (l : List AHeld) (rev : ByteArray) : Nat := ((revs l rev).filter isUp).length
theorem znF (h : St w0 E w) (i : Nat) {b : Nat} {F : AFleet} {s : Seg} (hi : nth E i = some s) (hf : FlS b F s) {rev : ByteArray} {k : Int → PT} (hk : ∀ w', St w0 E w' → k (fCount F.l rev) w') :
  L.call Pr z55 [.pointer (some ⟨b, 0, none⟩), .string rev] (.one (.one (.int .i64))) k w := by
 obtain ⟨ok, rA, rW, mA, mW, sA, sW, L, hA, hW, hr, rfl⟩ := hf
 refine z00 (zbu _ _) ?_
 unfold z7n
 have hll : L.length = F.l.length := by rw [hr.l]; simp
 have hfew := ok.few
 have h : St w0 (flB b rA rW F :: sA :: sW :: (L.map trS).flatten :: delN E i) w := (h.front i hi).eq (by simp)
 refine nw h ?_; clear h; (try clear w); intro b1 w h
 (refine stC h ?_; clear h; (try clear w); intro w h; dsimp only [putN, setN] at h)
 refine S_of h fun c0 c1 w h => ?_
 have h := fr3_ (fr3_ (fr4_ (fr4_ h)))
 refine z6s (A := [_, _, _, _]) (Y_of ok hA hr) h (fun m G => G = [Cl b1 z0i [I ((((L.filter (revP rev)).take m).filter fun t => isUp t.1).length : Nat)]] :: sW :: (L.map trS).flatten :: delN E i) (fun j G => False) rfl ?_ ?_ ?_
 ·rintro m G X w lv lp d R hm rfl h hN hE
  have hx := List.getElem?_eq_getElem hm
  have hft := zeQ (p := fun t : Tr => isUp t.1) hx
  have hlt := List.length_filter_le (revP rev) L
  have hl2 := List.length_filter_le (fun t : Tr => isUp t.1) ((L.filter (revP rev)).take m)
  rw [List.length_take] at hl2
  have h : St w0 ([Rec lv lp .busy none] :: [DfM d] :: [Cl c1 z01 [.string rev]] :: [Cl c0 z0A [.pointer (some ⟨b, 0, none⟩)]] :: flB b rA rW F :: sA :: [Cl b1 z0i [I ((((L.filter (revP rev)).take m).filter fun t => isUp t.1).length : Nat)]] :: sW :: (L.map trS).flatten :: (delN E i ++ X)) w := h
  rw [zdU hm]
  (try dsimp only)
  refine z69 h 8 rfl (zex hm) (hr.ps _ (zex hm)) ?_
  refine it (fun hc => ?_) (fun hc => ?_) <;> (try simp only [zB] at hc)
  ·have hp : isUp (L.filter (revP rev))[m].1 = true := decide_eq_true hc
   rw [if_pos hp] at hft
   (refine ldC h ?_; refine stC h ?_; clear h; (try clear w); intro w h; dsimp only [putN, setN] at h)
   rw [wr (by omega) (by omega)] at h
   refine hN _ w rfl ?_
   rw [hft]; exact h
  ·have hp : ¬ isUp (L.filter (revP rev))[m].1 = true := fun e => (of_decide_eq_true e) hc
   rw [if_neg hp] at hft
   refine hN _ w rfl ?_
   rw [hft]; exact h
 ·rintro d G w rfl h
  have h : St w0 ([DfM d] :: [Cl c1 z01 [.string rev]] :: [Cl c0 z0A [.pointer (some ⟨b, 0, none⟩)]] :: flB b rA rW F :: sA :: [Cl b1 z0i [I ((((L.filter (revP rev)).take (L.filter (revP rev)).length).filter fun t => isUp t.1).length : Nat)]] :: sW :: (L.map trS).flatten :: delN E i) w := h
  refine jumpN ?_
  (refine ldC h ?_)
  (first | refine um0_ h ?_ | refine um1_ h ?_ | refine um2_ h ?_ | refine um3_ h ?_ | refine um4_ h ?_ | refine um5_ h ?_ | refine um6_ h ?_ | refine um7_ h ?_ | refine um8_ h ?_ | refine um9_ h ?_ | refine z93 h ?_ | refine z92 h ?_); clear h; (try clear w); intro w h
  rw [List.take_length]
  have e : fCount F.l rev = ((L.filter (revP rev)).filter fun t => isUp t.1).length := by
   unfold fCount; rw [hr.revs, List.filter_map, List.length_map]; rfl
  refine ⟨_, rfl, ?_⟩
  rw [← e]
  refine hk w (St.setN_same' i hi (St.back i hi (s' := flB b rA rW F ++ (sA ++ (sW ++ (L.map trS).flatten))) ?_))
  have h := dl0_ (dl1_ (dl4_ h))
  exact h.eq (by simp)
 ·rintro d j G w hf; exact hf.elim
def spStep (a : Int × Int × Int) (x : AHeld) : Int × Int × Int :=
 if x.pod.st = 3 then a else if x.pod.st < a.2.1 ∨ (x.pod.st = a.2.1 ∧ (x.pod.reqs.length : Int) ≤ a.2.2) then (x.id, x.pod.st, x.pod.reqs.length) else a
def fSpare (l : List AHeld) (rev : ByteArray) : Int := ((revs l rev).foldl spStep (0, 3, 0)).1
theorem zkA (h : St w0 E w) (i : Nat) {b : Nat} {F : AFleet} {s : Seg} (hi : nth E i = some s) (hf : FlS b F s) {rev : ByteArray} {k : Int → PT} (hk : ∀ w', St w0 E w' → k (fSpare F.l rev) w') :
  L.call Pr z3W [.pointer (some ⟨b, 0, none⟩), .string rev] (.one (.one (.int .i64))) k w := by
 obtain ⟨ok, rA, rW, mA, mW, sA, sW, L, hA, hW, hr, rfl⟩ := hf
 refine z00 (z9k _ _) ?_
 unfold z5P
 have hll : L.length = F.l.length := by rw [hr.l]; simp
 have hfew := ok.few
 have h : St w0 (flB b rA rW F :: sA :: sW :: (L.map trS).flatten :: delN E i) w := (h.front i hi).eq (by simp)
 refine nw h ?_; clear h; (try clear w); intro b1 w h
 refine nw h ?_; clear h; (try clear w); intro b2 w h
 refine nw h ?_; clear h; (try clear w); intro b3 w h
 (refine stC h ?_; clear h; (try clear w); intro w h; dsimp only [putN, setN] at h; refine stC h ?_; clear h; (try clear w); intro w h; dsimp only [putN, setN] at h; refine stC h ?_; clear h; (try clear w); intro w h; dsimp only [putN, setN] at h)
 refine S_of h fun c0 c1 w h => ?_
 have h := fr3_ (fr3_ (fr6_ (fr6_ h)))
 refine z6s (A := [_, _, _, _]) (Y_of ok hA hr) h (fun m G => ∃ a : Int × Int × Int, a = (((L.filter (revP rev)).take m).map (·.1)).foldl spStep (0, 3, 0) ∧ G = [Cl b3 z0i [I a.2.2]] :: [Cl b2 z0i [I a.2.1]] :: [Cl b1 z0i [I a.1]] :: sW :: (L.map trS).flatten :: delN E i) (fun j G => False) ⟨_, rfl, rfl⟩ ?_ ?_ ?_
 ·rintro m G X w lv lp d R hm ⟨⟨a1, a2, a3⟩, ha, rfl⟩ h hN hE
  have hx := List.getElem?_eq_getElem hm
  have hft : spStep (a1, a2, a3) (L.filter (revP rev))[m].1 = (((L.filter (revP rev)).take (m + 1)).map (·.1)).foldl spStep (0, 3, 0) := by
   rw [List.take_add_one, hx, List.map_append, List.foldl_append, ← ha]; rfl
  have h : St w0 ([Rec lv lp .busy none] :: [DfM d] :: [Cl c1 z01 [.string rev]] :: [Cl c0 z0A [.pointer (some ⟨b, 0, none⟩)]] :: flB b rA rW F :: sA :: [Cl b3 z0i [I a3]] :: [Cl b2 z0i [I a2]] :: [Cl b1 z0i [I a1]] :: sW :: (L.map trS).flatten :: (delN E i ++ X)) w := h
  rw [zdU hm]
  (try dsimp only)
  have hmem := zex hm
  have hps := hr.ps _ hmem
  refine z69 h 10 rfl hmem hps ?_
  refine it (fun hc => ?_) (fun hc => ?_) <;> (try simp only [zB] at hc)
  ·simp only [spStep] at hft
   rw [if_pos hc] at hft
   exact hN _ w ⟨_, hft, rfl⟩ h
  simp only [spStep] at hft
  rw [if_neg hc] at hft
  (refine dr h ?_; clear h; (try clear w); intro w h; refine ldC h ?_)
  refine z69 h 10 rfl hmem hps ?_
  (refine ckC h ?_)
  refine it (fun hd => ?_) (fun hd => ?_) <;> (try simp only [zB] at hd)
  ·rw [if_pos (.inl hd)] at hft
   refine z69 h 10 rfl hmem hps ?_
   refine zcg h 10 rfl hmem hps ?_
   (refine stC h ?_; clear h; (try clear w); intro w h; dsimp only [putN, setN] at h; refine stC h ?_; clear h; (try clear w); intro w h; dsimp only [putN, setN] at h; refine stC h ?_; clear h; (try clear w); intro w h; dsimp only [putN, setN] at h)
   exact hN _ w ⟨_, hft, rfl⟩ h
  (refine ldC h ?_)
  refine z69 h 10 rfl hmem hps ?_
  (refine ckC h ?_)
  refine it (fun he => ?_) (fun he => ?_) <;> (try simp only [zB] at he)
  ·(refine ldC h ?_)
   refine zcg h 10 rfl hmem hps ?_
   (refine ckC h ?_)
   refine it (fun hg => ?_) (fun hg => ?_) <;> (try simp only [zB] at hg)
   ·rw [if_pos (.inr ⟨he, hg⟩)] at hft
    refine z69 h 10 rfl hmem hps ?_
    refine zcg h 10 rfl hmem hps ?_
    (refine stC h ?_; clear h; (try clear w); intro w h; dsimp only [putN, setN] at h; refine stC h ?_; clear h; (try clear w); intro w h; dsimp only [putN, setN] at h; refine stC h ?_; clear h; (try clear w); intro w h; dsimp only [putN, setN] at h)
    exact hN _ w ⟨_, hft, rfl⟩ h
   ·rw [if_neg (fun hh => hh.elim hd fun hh => hg hh.2)] at hft
    exact hN _ w ⟨_, hft, rfl⟩ h
  ·rw [if_neg (fun hh => hh.elim hd fun hh => he hh.1)] at hft
   exact hN _ w ⟨_, hft, rfl⟩ h
 ·rintro d G w ⟨a, ha, rfl⟩ h
  have h : St w0 ([DfM d] :: [Cl c1 z01 [.string rev]] :: [Cl c0 z0A [.pointer (some ⟨b, 0, none⟩)]] :: flB b rA rW F :: sA :: [Cl b3 z0i [I a.2.2]] :: [Cl b2 z0i [I a.2.1]] :: [Cl b1 z0i [I a.1]] :: sW :: (L.map trS).flatten :: delN E i) w := h
  refine jumpN ?_
  (refine ldC h ?_)
  (first | refine um0_ h ?_ | refine um1_ h ?_ | refine um2_ h ?_ | refine um3_ h ?_ | refine um4_ h ?_ | refine um5_ h ?_ | refine um6_ h ?_ | refine um7_ h ?_ | refine um8_ h ?_ | refine um9_ h ?_ | refine z93 h ?_ | refine z92 h ?_); clear h; (try clear w); intro w h
  rw [List.take_length] at ha
  have e : fSpare F.l rev = a.1 := by unfold fSpare; rw [hr.revs, ha]
  refine ⟨_, rfl, ?_⟩
  rw [← e]
  refine hk w (St.setN_same' i hi (St.back i hi (s' := flB b rA rW F ++ (sA ++ (sW ++ (L.map trS).flatten))) ?_))
  have h := dl0_ (dl1_ (dl4_ (dl5_ (dl6_ h))))
  exact h.eq (by simp)
 ·rintro d j G w hf; exact hf.elim
def eK (x : Int × Int × Int) : List Value := [I x.1, I x.2.1, I x.2.2]
theorem encK : Enc eK 3 := ⟨fun _ => rfl, fun _ => rfl, by decide⟩
theorem elK : El Pr z10 z0N 3 24 (.agg #[I 0, I 0, I 0]) := zfV (by kernel_rfl) (by kernel_rfl) rfl (by decide)
theorem zkD (h : St w0 E w) {v : Sl} {l : List (Int × Int × Int)} (r : Rd w eK v l) (hn : l.length < 1000000000) (h64 : v.a = none → l = []) {k : Sl → PT}
  (hk : ∀ (v' : Sl) s' w', Rw eK z0N 3 v' l s' → St w0 (s' :: E) w' → k v' w') : L.call Pr z1c [SlV v] (.one (.one .slice)) k w := by
 refine z00 (z3P _) ?_
 unfold z1S
 exact z9P (K := fun v w' => ∃ x, v = RT.val (.one (.one .slice)) x ∧ k x w') encK elK h r (by omega) (by omega) h64 fun v' s' w' h1 h2 h3 => ⟨v', rfl, hk v' s' w' h1 h3⟩
def look (x : AHeld) : Int × Int × Int := (x.id, x.pod.st, x.pod.reqs.length)
def fPods (l : List AHeld) (rev : ByteArray) : List (Int × Int × Int) := (revs l rev).map look
theorem zjm (h : St w0 E w) (i : Nat) {b : Nat} {F : AFleet} {s : Seg} (hi : nth E i = some s) (hf : FlS b F s) {rev : ByteArray} {k : Sl → PT} (hk : ∀ v s' w', Rw eK z0N 3 v (fPods F.l rev) s' → St w0 (s' :: E) w' → k v w') :
  L.call Pr z4k [.pointer (some ⟨b, 0, none⟩), .string rev] (.one (.one .slice)) k w := by
 obtain ⟨ok, rA, rW, mA, mW, sA, sW, L, hA, hW, hr, rfl⟩ := hf
 refine z00 (zal _ _) ?_
 unfold z6j
 have hll : L.length = F.l.length := by rw [hr.l]; simp
 have hfew := ok.few
 have hlt := List.length_filter_le (revP rev) L
 have h : St w0 (flB b rA rW F :: sA :: sW :: (L.map trS).flatten :: delN E i) w := (h.front i hi).eq (by simp)
 refine nw h ?_; clear h; (try clear w); intro b1 w h
 refine S_of h fun c0 c1 w h => ?_
 have h := fr3_ (fr3_ (fr4_ (fr4_ h)))
 have h : St w0 ([[Cl c1 z01 [.string rev]], [Cl c0 z0A [.pointer (some ⟨b, 0, none⟩)]], flB b rA rW F, sA] ++ [Cl b1 z10 [SlV ⟨none, 0, 0⟩]] :: [] :: sW :: (L.map trS).flatten :: delN E i) w := h.eq (by simp)
 refine z6s (A := [_, _, _, _]) (Y_of ok hA hr) h (fun m G => ∃ v sv, Rw eK z0N 3 v (((L.filter (revP rev)).take m).map fun t => look t.1) sv ∧ G = [Cl b1 z10 [SlV v]] :: sv :: sW :: (L.map trS).flatten :: delN E i) (fun j G => False) ⟨_, _, Rw.nil, rfl⟩ ?_ ?_ ?_
 ·rintro m G X w lv lp d R hm ⟨v, sv, hv, rfl⟩ h hN hE
  have hx := List.getElem?_eq_getElem hm
  have h : St w0 ([Rec lv lp .busy none] :: [DfM d] :: [Cl c1 z01 [.string rev]] :: [Cl c0 z0A [.pointer (some ⟨b, 0, none⟩)]] :: flB b rA rW F :: sA :: [Cl b1 z10 [SlV v]] :: sv :: sW :: (L.map trS).flatten :: (delN E i ++ X)) w := h
  rw [zdU hm]
  (try dsimp only)
  have hmem := zex hm
  have hps := hr.ps _ hmem
  (refine dr h ?_; clear h; (try clear w); intro w h; refine ldC h ?_)
  refine z69 h 9 rfl hmem hps ?_
  (refine ckC h ?_)
  refine zcg h 9 rfl hmem hps ?_
  (refine ckC h ?_)
  refine nw h ?_; clear h; (try clear w); intro b11 w h
  (refine ckC h ?_)
  refine Rw.app encK elK h 7 rfl hv (look (L.filter (revP rev))[m].1) rfl (by simp; omega) (by simp; omega) fun v' s' w hv h => ?_
  (dsimp only [setN, List.cons_append, List.nil_append] at h; refine stC h ?_; clear h; (try clear w); intro w h; dsimp only [putN, setN] at h)
  refine hN _ w ⟨v', s', ?_, rfl⟩ h
  rw [List.take_add_one, hx, List.map_append]; exact hv
 ·rintro d G w ⟨v, sv, hv, rfl⟩ h
  have h : St w0 ([DfM d] :: [Cl c1 z01 [.string rev]] :: [Cl c0 z0A [.pointer (some ⟨b, 0, none⟩)]] :: flB b rA rW F :: sA :: [Cl b1 z10 [SlV v]] :: sv :: sW :: (L.map trS).flatten :: delN E i) w := h
  rw [List.take_length] at hv
  have e : fPods F.l rev = (L.filter (revP rev)).map fun t => look t.1 := by unfold fPods; rw [hr.revs, List.map_map]; rfl
  rw [← e] at hv
  have hle : (fPods F.l rev).length ≤ L.length := by rw [e, List.length_map]; exact hlt
  refine jumpN ?_
  (refine ldC h ?_)
  refine zkD h (hv.rd encK h 6 rfl) (by omega) (Rw.nil_of encK hv) fun v' s' w hv' h => ?_
  (first | refine um0_ h ?_ | refine um1_ h ?_ | refine um2_ h ?_ | refine um3_ h ?_ | refine um4_ h ?_ | refine um5_ h ?_ | refine um6_ h ?_ | refine um7_ h ?_ | refine um8_ h ?_ | refine um9_ h ?_ | refine z93 h ?_ | refine z92 h ?_); clear h; (try clear w); intro w h
  refine ⟨_, rfl, hk v' s' w hv' ?_⟩
  have h := dl1_ (dl2_ (dl5_ (dl6_ h)))
  have h := fr4_ (fr4_ (fr4_ (fr4_ h)))
  have h := St.back (i + 1) (E := s' :: E) hi (s' := flB b rA rW F ++ (sA ++ (sW ++ (L.map trS).flatten))) (h.eq (by simp [delN]))
  exact St.setN_same' (i + 1) (E := s' :: E) hi h
 ·rintro d j G w hf; exact hf.elim
def fUpd (l : List AHeld) (id : Int) (g : APod → APod) : List AHeld := l.filterMap fun x => if x.id = id then (if (g x.pod).st = 4 then none else some { x with pod := g x.pod }) else some x
theorem zdb {l : List AHeld} {id : Int} {g : APod → APod} (h : ∀ y ∈ l, y.id ≠ id) : fUpd l id g = l := by
 unfold fUpd
 induction l with
 | nil => rfl
 | cons y l ih =>
  rw [List.filterMap_cons, if_neg (h y (by simp))]
  simp only
  rw [ih fun z hz => h z (by simp [hz])]
theorem zaK {A B : List AHeld} {x : AHeld} {g : APod → APod} (h : (A ++ x :: B).Pairwise (fun x y => x.id < y.id)) : fUpd (A ++ x :: B) x.id g = A ++ ((if (g x.pod).st = 4 then [] else [{ x with pod := g x.pod }]) ++ B) := by
 rw [List.pairwise_append, List.pairwise_cons] at h
 have hA : fUpd A x.id g = A := zdb fun y hy => by have := h.2.2 y hy x (by simp); omega
 have hB : fUpd B x.id g = B := zdb fun y hy => by have := h.2.1.1 y hy; omega
 unfold fUpd at *
 rw [List.filterMap_append, hA, List.filterMap_cons, if_pos rfl]
 congr 1
 split <;> rename_i hc
 ·split at hc
  ·rename_i h4; rw [if_pos h4, hB]; rfl
  ·cases hc
 ·split at hc
  ·cases hc
  ·rename_i h4; cases hc; rw [if_neg h4, hB]; rfl
theorem z3v {l : List AHeld} {id : Int} {x : AHeld} (h : fFind l id = some x) : x ∈ l ∧ x.id = id := ⟨List.mem_of_find?_eq_some h, by simpa using List.find?_some h⟩
theorem z9M {l : List AHeld} (pw : l.Pairwise (fun x y => x.id < y.id)) {x : AHeld} (hx : x ∈ l) : fFind l x.id = some x := by
 unfold fFind
 induction l with
 | nil => simp at hx
 | cons y l ih =>
  rw [List.pairwise_cons] at pw
  rcases List.mem_cons.1 hx with rfl | hx
  ·simp
  ·have := pw.1 x hx
   rw [List.find?_cons_of_neg (by simp; omega)]
   exact ih pw.2 hx
theorem z6W {l : List AHeld} {q : Int} (h : fWhere l q = none) : ∀ x ∈ l, q ∉ x.pod.reqs := fun x hx => by simpa using List.find?_eq_none.1 h x hx
theorem AFleet.Ok.upd {F : AFleet} (ok : F.Ok) {id : Int} {x : AHeld} (hx : fFind F.l id = some x) (g : APod → APod) (hst : (g x.pod).st = 1 ∨ (g x.pod).st = 2 ∨ (g x.pod).st = 3 ∨ (g x.pod).st = 4)
  (hq : ∀ q ∈ (g x.pod).reqs, q ∈ x.pod.reqs ∨ fWhere F.l q = none) : ({ F with l := fUpd F.l id g } : AFleet).Ok := by
 obtain ⟨hm, rfl⟩ := z3v hx
 obtain ⟨A, B, hl⟩ := List.append_of_mem hm
 have pw := ok.pw
 have rng := ok.rng
 have live := ok.live
 have once := ok.once
 have few := ok.few
 have hno : ∀ q, fWhere F.l q = none → ∀ y ∈ A ++ x :: B, q ∉ y.pod.reqs := fun q h => by rw [hl] at h; exact z6W h
 rw [hl] at pw rng live once few
 have e : fUpd F.l x.id g = A ++ ((if (g x.pod).st = 4 then [] else [{ x with pod := g x.pod }]) ++ B) := by rw [hl]; exact zaK pw
 by_cases h4 : (g x.pod).st = 4
 ·rw [if_pos h4, List.nil_append] at e
  have hs : (A ++ B).Sublist (A ++ x :: B) := List.Sublist.append (List.Sublist.refl _) (List.sublist_cons_self ..)
  refine ⟨?_, ?_, ?_, ?_, ?_, ok.lo, ok.hi⟩
  ·rw [show ({ F with l := fUpd F.l x.id g } : AFleet).l = A ++ B from e]; exact pw.sublist hs
  ·rw [show ({ F with l := fUpd F.l x.id g } : AFleet).l = A ++ B from e]; exact fun y hy => rng y (hs.subset hy)
  ·rw [show ({ F with l := fUpd F.l x.id g } : AFleet).l = A ++ B from e]; exact fun y hy => live y (hs.subset hy)
  ·rw [show ({ F with l := fUpd F.l x.id g } : AFleet).l = A ++ B from e]; exact once.sublist hs
  ·rw [show ({ F with l := fUpd F.l x.id g } : AFleet).l = A ++ B from e]; exact Nat.lt_of_le_of_lt hs.length_le few
 ·rw [if_neg h4, List.singleton_append] at e
  have e : ({ F with l := fUpd F.l x.id g } : AFleet).l = A ++ { x with pod := g x.pod } :: B := e
  refine ⟨?_, ?_, ?_, ?_, ?_, ok.lo, ok.hi⟩
  ·rw [e]; rw [List.pairwise_append, List.pairwise_cons] at pw ⊢
   exact ⟨pw.1, pw.2.1, fun a ha b hb => by
    rcases List.mem_cons.1 hb with rfl | hb
    ·exact pw.2.2 a ha x (by simp)
    ·exact pw.2.2 a ha b (by simp [hb])⟩
  ·rw [e]; intro y hy
   rcases List.mem_append.1 hy with hy | hy
   ·exact rng y (by simp [hy])
   ·rcases List.mem_cons.1 hy with rfl | hy
    ·exact rng x (by simp)
    ·exact rng y (by simp [hy])
  ·rw [e]; intro y hy
   rcases List.mem_append.1 hy with hy | hy
   ·exact live y (by simp [hy])
   ·rcases List.mem_cons.1 hy with rfl | hy
    ·simp only; omega
    ·exact live y (by simp [hy])
  ·rw [e]; rw [List.pairwise_append, List.pairwise_cons] at once ⊢
   refine ⟨once.1, ⟨fun b hb q hq1 hq2 => ?_, once.2.1.2⟩, fun a ha b hb q hq1 hq2 => ?_⟩
   ·rcases hq q hq1 with h | h
    ·exact once.2.1.1 b hb q h hq2
    ·exact hno q h b (by simp [hb]) hq2
   ·rcases List.mem_cons.1 hb with rfl | hb
    ·rcases hq q hq2 with h | h
     ·exact once.2.2 a ha x (by simp) q hq1 h
     ·exact hno q h a (by simp [ha]) hq1
    ·exact once.2.2 a ha b (by simp [hb]) q hq1 hq2
  ·rw [e]; simp only [List.length_append, List.length_cons] at few ⊢; exact few
theorem zgx : ∀ {m : List (Int × (ByteArray × Option Addr))} {k : Int}, (m.map (·.1)).Nodup → mdel m k = m.filter fun p => decide (p.1 ≠ k)
 | [], k, _ => rfl
 | p :: m, k, h => by
  rw [List.map_cons, List.nodup_cons] at h
  simp only [mdel]
  by_cases e : p.1 = k
  ·rw [if_pos e, List.filter_cons_of_neg (by simp [e])]
   symm
   rw [List.filter_eq_self]
   intro y hy
   have : y.1 ≠ k := fun e2 => h.1 (by rw [e, ← e2]; exact List.mem_map_of_mem (f := (·.1)) hy)
   simpa using this
  ·rw [if_neg e, List.filter_cons_of_pos (by simpa using e), zgx h.2]
theorem FlR.upd {F : AFleet} {A B : List Tr} {t : Tr} {mA mW mW'} (hr : FlR F (A ++ t :: B) mA mW) (ok : F.Ok) (g : APod → APod) {s' : Seg} (hp : PodS t.2.1 (g t.1.pod) s') (h4 : (g t.1.pod).st ≠ 4)
  (hW : ∀ q, mget mW' q = (fWhere (fUpd F.l t.1.id g) q).map (·.id)) : FlR { F with l := fUpd F.l t.1.id g } (A ++ ({ t.1 with pod := g t.1.pod }, t.2.1, s') :: B) mA mW' := by
 have pw := ok.pw
 rw [hr.l, List.map_append, List.map_cons] at pw
 refine ⟨?_, ?_, ?_, hW⟩
 ·show fUpd F.l t.1.id g = _
  rw [hr.l, List.map_append, List.map_cons, zaK pw, if_neg h4]
  simp
 ·intro y hy
  rcases List.mem_append.1 hy with hy | hy
  ·exact hr.ps y (by simp [hy])
  ·rcases List.mem_cons.1 hy with rfl | hy
   ·exact hp
   ·exact hr.ps y (by simp [hy])
 ·have := hr.all
  simp only [List.map_append, List.map_cons] at this ⊢
  exact this
theorem FlR.del {F : AFleet} {A B : List Tr} {t : Tr} {mA mW mW'} (hr : FlR F (A ++ t :: B) mA mW) (ok : F.Ok) (g : APod → APod) (h4 : (g t.1.pod).st = 4)
  (hW : ∀ q, mget mW' q = (fWhere (fUpd F.l t.1.id g) q).map (·.id)) : FlR { F with l := fUpd F.l t.1.id g } (A ++ B) (mdel mA t.1.id) mW' := by
 have pw := ok.pw
 have ids := hr.ids ok
 rw [hr.l, List.map_append, List.map_cons] at pw
 refine ⟨?_, ?_, ?_, hW⟩
 ·show fUpd F.l t.1.id g = _
  rw [hr.l, List.map_append, List.map_cons, zaK pw, if_pos h4]
  simp
 ·intro y hy
  rcases List.mem_append.1 hy with hy | hy
  ·exact hr.ps y (by simp [hy])
  ·exact hr.ps y (by simp [hy])
 ·rw [zgx (hr.nd ok)]
  refine (hr.all.filter _).trans ?_
  rw [List.pairwise_append, List.pairwise_cons] at ids
  rw [List.map_append, List.map_cons, List.filter_append, List.filter_cons_of_neg (by simp [ent]), List.map_append]
  have fa : ∀ {l : List Tr}, (∀ y ∈ l, y.1.id ≠ t.1.id) → (l.map ent).filter (fun p => decide (p.1 ≠ t.1.id)) = l.map ent := fun {l} h => by
   rw [List.filter_eq_self]
   intro p hp
   obtain ⟨y, hy, rfl⟩ := List.mem_map.1 hp
   exact decide_eq_true (h y hy)
  rw [fa (fun y hy => by have := ids.2.2 y hy t (by simp); omega), fa (fun y hy => by have := ids.2.1.1 y hy; omega)]
theorem zda {l : List AHeld} (pw : l.Pairwise (fun x y => x.id < y.id)) {x : AHeld} (hx : x ∈ l) {g : APod → APod} (hrq : (g x.pod).reqs = x.pod.reqs) (h4 : (g x.pod).st = 4 → x.pod.reqs = []) (q : Int) :
  (fWhere (fUpd l x.id g) q).map (·.id) = (fWhere l q).map (·.id) := by
 obtain ⟨A, B, rfl⟩ := List.append_of_mem hx
 rw [zaK pw]
 unfold fWhere
 simp only [List.find?_append]
 cases List.find? (fun x => decide (q ∈ x.pod.reqs)) A with
 | some y => rfl
 | none =>
  simp only [Option.none_or]
  by_cases h : (g x.pod).st = 4
  ·rw [if_pos h, List.find?_nil, Option.none_or, List.find?_cons_of_neg (by simp [h4 h])]
  ·rw [if_neg h]
   by_cases hq : q ∈ x.pod.reqs
   ·rw [List.find?_cons_of_pos (by simp [hrq, hq]), List.find?_cons_of_pos (by simp [hq])]; rfl
   ·rw [List.find?_cons_of_neg (by simp [hrq, hq]), List.find?_cons_of_neg (by simp [hq]), List.find?_nil, Option.none_or]
theorem zn8 {b rA rW : Nat} {F : AFleet} {A B : List Tr} {t : Tr} {mA : List (Int × (ByteArray × Option Addr))} {sA sW : Seg} {D : List Seg} {rev : ByteArray} (h : St w0 (flB b rA rW F :: sA :: sW :: ((A ++ t :: B).map trS).flatten :: D) w)
  (hA : MpS KI vOne rA mA sA) (hg : mget mA t.1.id = some (rev, some ⟨t.2.1, 0, none⟩)) (hp : PodS t.2.1 t.1.pod t.2.2) {k : Unit → PT} (hk1 : t.1.pod.st ≠ 4 → k () w)
  (hk2 : t.1.pod.st = 4 → ∀ sA' w', MpS KI vOne rA (mdel mA t.1.id) sA' → St w0 (flB b rA rW F :: sA' :: sW :: ((A ++ B).map trS).flatten :: D) w' → k () w') :
  L.call Pr z4I [.pointer (some ⟨b, 0, none⟩), I t.1.id] (.tup []) k w := by
 refine z00 (zaS _ _) ?_
 unfold z6H
 (refine nn ?_; refine ldC h ?_)
 refine MpS.get mkI z3b zo (fun x : ByteArray × Option Addr => (x.1, x.2, ())) (fun _ => rfl) h 1 rfl hA ?_
 rw [hg]
 simp only [Option.map_some, Option.getD_some]
 refine z69 h 3 rfl (t := t) (by simp) hp ?_
 refine it (fun hc => ?_) (fun hc => ?_) <;> (try simp only [zB] at hc)
 ·(refine nn ?_; refine ldC h ?_)
  refine MpS.del mkI z3b h 1 rfl hA fun sA' w hA' h => ⟨(), rfl, hk2 hc sA' w hA' ?_⟩
  have h : St w0 (flB b rA rW F :: sA' :: sW :: ((A ++ t :: B).map trS).flatten :: D) w := h
  have h := fr3_ h
  have h := h.pick
  have h := dl0_ h
  have h := fr3_ (fr3_ (fr3_ h))
  exact h
 ·exact ⟨(), rfl, hk1 hc⟩
theorem znG (h : St w0 E w) (i : Nat) {b : Nat} {F : AFleet} {s : Seg} (hi : nth E i = some s) (hf : FlS b F s) {id : Int} {k : Int → PT}
  (hk0 : fFind F.l id = none → ∀ w', St w0 E w' → k 6 w')
  (hk1 : ∀ x, fFind F.l id = some x → ∀ s' w', FlS b { F with l := fUpd F.l id fun p => (podUp p).1 } s' → St w0 (setN E i s') w' → k (podUp x.pod).2 w') :
  L.call Pr z3R [.pointer (some ⟨b, 0, none⟩), I id] (.one (.one (.int .i64))) k w := by
 obtain ⟨ok, rA, rW, mA, mW, sA, sW, L, hA, hW, hr, rfl⟩ := hf
 refine z00 (zbw _ _) ?_
 unfold z7p
 have h : St w0 (flB b rA rW F :: sA :: sW :: (L.map trS).flatten :: delN E i) w := (h.front i hi).eq (by simp)
 (refine nn ?_; refine ldC h ?_)
 refine MpS.get2 mkI z3b zo (fun x : ByteArray × Option Addr => (x.1, x.2, ())) (fun _ => rfl) h 1 rfl hA ?_
 cases hfd : fFind F.l id with
 | none =>
  rw [hr.get0 hfd]
  simp only [Option.map_none, Option.getD_none, Option.isSome_none]
  refine nw h ?_; clear h; (try clear w); intro b4 w h
  (refine stC h ?_; clear h; (try clear w); intro w h; dsimp only [putN, setN] at h)
  refine it (fun hc => ?_) (fun hc => ?_) <;> (try simp only [zB] at hc)
  ·refine ⟨_, rfl, hk0 hfd w (St.setN_same' i hi (St.back i hi (s' := flB b rA rW F ++ (sA ++ (sW ++ (L.map trS).flatten))) ?_))⟩
   have h := dl0_ h
   exact h.eq (by simp)
  ·cases hc
 | some x =>
  obtain ⟨A, t, B, rfl, rfl, hid⟩ := hr.at hfd
  have hg := hr.get ok (t := t) (by simp)
  have hp := hr.ps t (by simp)
  rw [hid] at hg
  rw [hg]
  simp only [Option.map_some, Option.getD_some, Option.isSome_some]
  refine nw h ?_; clear h; (try clear w); intro b4 w h
  (refine stC h ?_; clear h; (try clear w); intro w h; dsimp only [putN, setN] at h)
  refine it (fun hc => ?_) (fun hc => ?_) <;> (try simp only [zB] at hc)
  ·cases hc
  (refine ldC h ?_)
  have h := dl0_ h
  have h := fr3_ h
  have h := h.pick
  refine znD h 0 rfl hp fun s' w hp' h => ⟨_, rfl, ?_⟩
  have h : St w0 (trS ({ t.1 with pod := (podUp t.1.pod).1 }, t.2.1, s') :: ((A ++ B).map trS).flatten :: flB b rA rW F :: sA :: sW :: delN E i) w := h
  have h := h.place
  have hst := ok.live t.1 (z3v hfd).1
  have h4 : (podUp t.1.pod).1.st ≠ 4 := by unfold podUp; split <;> simp <;> omega
  have hrq : (podUp t.1.pod).1.reqs = t.1.pod.reqs := by unfold podUp; split <;> rfl
  refine hk1 _ hfd (flB b rA rW { F with l := fUpd F.l id fun p => (podUp p).1 } ++ (sA ++ (sW ++ ((A ++ ({ t.1 with pod := (podUp t.1.pod).1 }, t.2.1, s') :: B).map trS).flatten))) w ⟨?_, rA, rW, mA, mW, sA, sW, _, hA, hW, ?_, rfl⟩ (St.back i hi ?_)
  ·refine ok.upd hfd _ ?_ fun q hq => .inl (by rw [← hrq]; exact hq)
   unfold podUp; split <;> simp <;> omega
  ·subst hid
   refine hr.upd ok (fun p => (podUp p).1) hp' h4 fun q => ?_
   rw [hr.wth]
   rw [zda ok.pw (z3v hfd).1 hrq (fun e => absurd e h4)]
  ·have h := fr3_ (fr3_ (fr3_ h))
   exact h.eq (by simp)
def grow1 (rev : ByteArray) (conc : Int) (F : AFleet) : AFleet := { F with l := F.l ++ [⟨F.last + 1, rev, ⟨1, conc, []⟩⟩], last := F.last + 1 }
def grow (rev : ByteArray) (conc : Int) : Nat → AFleet → AFleet
 | 0, F => F
 | n + 1, F => grow1 rev conc (grow rev conc n F)
def drain1 (rev : ByteArray) (F : AFleet) : AFleet := { F with l := fUpd F.l (fSpare F.l rev) fun p => (podDrain p).1 }
def shrink (rev : ByteArray) : Nat → AFleet → AFleet × List Int
 | 0, F => (F, [])
 | n + 1, F => ((shrink rev n (drain1 rev F)).1, fSpare F.l rev :: (shrink rev n (drain1 rev F)).2)
def growN (F : AFleet) (rev : ByteArray) (want : Int) : Nat := (min (want - fCount F.l rev) (F.room - F.l.length)).toNat
def shrinkN (F : AFleet) (rev : ByteArray) (want : Int) : Nat := ((fCount F.l rev : Int) - max want 0).toNat
def fGrown (F : AFleet) (rev : ByteArray) (conc want : Int) : AFleet := grow rev conc (growN F rev want) F
def fMade (F : AFleet) (rev : ByteArray) (want : Int) : List Int := (List.range (growN F rev want)).map fun j : Nat => F.last + 1 + (j : Int)
def fScale (F : AFleet) (rev : ByteArray) (conc want : Int) : AFleet × List Int := shrink rev (shrinkN (fGrown F rev conc want) rev want) (fGrown F rev conc want)
section
variable {F : AFleet} {rev : ByteArray} {conc : Int}
theorem z9H (n : Nat) : (grow rev conc n F).last = F.last + n := by
 induction n with
 | zero => simp [grow]
 | succ n ih => simp only [grow, grow1, ih]; omega
theorem z9F (n : Nat) : (grow rev conc n F).room = F.room := by
 induction n with
 | zero => rfl
 | succ n ih => simp only [grow, grow1, ih]
theorem z9G (n : Nat) : (grow rev conc n F).l.length = F.l.length + n := by
 induction n with
 | zero => rfl
 | succ n ih => simp only [grow, grow1, List.length_append, ih, List.length_singleton]; omega
theorem zjJ (a b : List AHeld) : revs (a ++ b) rev = revs a rev ++ revs b rev := List.filter_append ..
theorem z6A (a b : List AHeld) : fCount (a ++ b) rev = fCount a rev + fCount b rev := by
 unfold fCount; rw [zjJ, List.filter_append, List.length_append]
theorem z9N (l : List AHeld) : fCount l rev ≤ l.length := Nat.le_trans (List.length_filter_le ..) (List.length_filter_le ..)
theorem zhu (n : Nat) : fCount (grow rev conc n F).l rev = fCount F.l rev + n := by
 induction n with
 | zero => rfl
 | succ n ih =>
  simp only [grow, grow1]
  rw [z6A, ih]
  have : fCount [(⟨(grow rev conc n F).last + 1, rev, ⟨1, conc, []⟩⟩ : AHeld)] rev = 1 := by simp [fCount, revs, isUp]
  rw [this]; rfl
theorem zgM (ok : F.Ok) (h1 : F.l.length + 1 < 100000000) (h2 : F.last + 1 < 4611686018427387904) : (grow1 rev conc F).Ok := by
 have lo := ok.lo
 refine ⟨?_, ?_, ?_, ?_, ?_, ?_, h2⟩
 ·simp only [grow1, List.pairwise_append, List.pairwise_singleton, List.mem_singleton]
  exact ⟨ok.pw, trivial, fun a ha b hb => by subst hb; have := (ok.rng a ha).2; simp only; omega⟩
 ·intro x hx
  simp only [grow1, List.mem_append, List.mem_singleton] at hx ⊢
  rcases hx with hx | rfl
  ·have := ok.rng x hx; omega
  ·simp only; omega
 ·intro x hx
  simp only [grow1, List.mem_append, List.mem_singleton] at hx
  rcases hx with hx | rfl
  ·exact ok.live x hx
  ·simp
 ·simp only [grow1, List.pairwise_append, List.pairwise_singleton, List.mem_singleton]
  exact ⟨ok.once, trivial, fun a ha b hb q hq1 hq2 => by subst hb; simp at hq2⟩
 ·simp only [grow1, List.length_append, List.length_singleton]; exact h1
 ·simp only [grow1]; omega
theorem zhv (l : List AHeld) (x : AHeld) (hx : x.pod.reqs = []) (q : Int) : fWhere (l ++ [x]) q = fWhere l q := by
 unfold fWhere
 rw [List.find?_append, List.find?_cons_of_neg (by simp [hx])]
 simp
def SpOk (l : List AHeld) (a : Int × Int × Int) : Prop := (a = (0, 3, 0) ∧ ∀ y ∈ l, isUp y = false) ∨ ∃ x ∈ l, a = (x.id, x.pod.st, (x.pod.reqs.length : Int)) ∧ isUp x = true
theorem SpOk.step {l : List AHeld} {a : Int × Int × Int} {x : AHeld} (h : SpOk l a) (hx : x.pod.st = 1 ∨ x.pod.st = 2 ∨ x.pod.st = 3) : SpOk (l ++ [x]) (spStep a x) := by
 unfold spStep
 by_cases h3 : x.pod.st = 3
 ·rw [if_pos h3]
  rcases h with ⟨rfl, h⟩ | ⟨y, hy, h⟩
  ·refine .inl ⟨rfl, fun y hy => ?_⟩
   rcases List.mem_append.1 hy with hy | hy
   ·exact h y hy
   ·simp at hy; subst hy; simp [isUp, h3]
  ·exact .inr ⟨y, by simp [hy], h⟩
 ·rw [if_neg h3]
  have hup : isUp x = true := by simp [isUp, h3]
  by_cases hc : x.pod.st < a.2.1 ∨ (x.pod.st = a.2.1 ∧ (x.pod.reqs.length : Int) ≤ a.2.2)
  ·rw [if_pos hc]; exact .inr ⟨x, by simp, rfl, hup⟩
  ·rw [if_neg hc]
   rcases h with ⟨rfl, h⟩ | ⟨y, hy, h⟩
   ·exact absurd (.inl (by simp only; omega)) hc
   ·exact .inr ⟨y, by simp [hy], h⟩
theorem SpOk.all : ∀ {l2 l1 : List AHeld} {a : Int × Int × Int}, SpOk l1 a → (∀ x ∈ l2, x.pod.st = 1 ∨ x.pod.st = 2 ∨ x.pod.st = 3) → SpOk (l1 ++ l2) (l2.foldl spStep a)
 | [], l1, a, h, _ => by simpa using h
 | x :: l2, l1, a, h, hx => by
  have := SpOk.all (l2 := l2) (h.step (hx x (by simp))) (fun y hy => hx y (by simp [hy]))
  simpa using this
theorem z9u (ok : F.Ok) (hc : 0 < fCount F.l rev) : ∃ x, fFind F.l (fSpare F.l rev) = some x ∧ x.rev = rev ∧ (x.pod.st = 1 ∨ x.pod.st = 2) := by
 have hr : ∀ x ∈ revs F.l rev, x ∈ F.l ∧ x.rev = rev := fun x hx => ⟨(List.mem_filter.1 hx).1, of_decide_eq_true (List.mem_filter.1 hx).2⟩
 have h := SpOk.all (l1 := []) (a := (0, 3, 0)) (l2 := revs F.l rev) (.inl ⟨rfl, by simp⟩) fun x hx => ok.live x (hr x hx).1
 rw [List.nil_append] at h
 rcases h with ⟨-, h⟩ | ⟨x, hx, ha, hup⟩
 ·exfalso
  unfold fCount at hc
  rw [List.filter_eq_nil_iff.2 (fun y hy => by simp [h y hy])] at hc
  simp at hc
 ·refine ⟨x, ?_, (hr x hx).2, ?_⟩
  ·unfold fSpare; rw [ha]; exact z9M ok.pw (hr x hx).1
  ·have := ok.live x (hr x hx).1
   have : x.pod.st ≠ 3 := of_decide_eq_true hup
   omega
theorem zbN {p : APod} (h : p.st = 1 ∨ p.st = 2) : (podDrain p).1 = { p with st := if p.reqs = [] then 4 else 3 } := by
 unfold podDrain; rw [if_neg (by omega)]
theorem zeR (ok : F.Ok) (hc : 0 < fCount F.l rev) : (drain1 rev F).Ok := by
 obtain ⟨x, hx, -, hst⟩ := z9u ok hc
 refine ok.upd hx _ ?_ ?_
 ·rw [zbN hst]; simp only; split <;> simp
 ·rw [zbN hst]; exact fun q hq => .inl hq
theorem zb1 (ok : F.Ok) (hc : 0 < fCount F.l rev) : fCount (drain1 rev F).l rev + 1 = fCount F.l rev := by
 obtain ⟨x, hx, hrev, hst⟩ := z9u ok hc
 obtain ⟨hm, hid⟩ := z3v hx
 obtain ⟨A, B, hl⟩ := List.append_of_mem hm
 have pw := ok.pw
 show fCount (fUpd F.l (fSpare F.l rev) fun p => (podDrain p).1) rev + 1 = _
 rw [← hid]
 rw [hl] at pw ⊢
 rw [zaK pw, z6A, z6A, z6A, show x :: B = [x] ++ B from rfl, z6A, zbN hst]
 have h1 : fCount [x] rev = 1 := by
  have : x.pod.st ≠ 3 := by omega
  simp [fCount, revs, isUp, hrev, this]
 have h2 : fCount (if (if x.pod.reqs = [] then (4 : Int) else 3) = 4 then [] else [({ x with pod := { x.pod with st := if x.pod.reqs = [] then 4 else 3 } } : AHeld)]) rev = 0 := by
  by_cases hq : x.pod.reqs = []
  ·simp [hq, fCount, revs]
  ·simp [hq, fCount, revs, hrev, isUp]
 simp only at h2 ⊢
 rw [h1, h2]; omega
end
theorem zkB (h : St w0 E w) (i : Nat) {b : Nat} {F : AFleet} {s : Seg} (hi : nth E i = some s) (hf : FlS b F s) {rev : ByteArray} {conc want : Int} (hroom : F.room < 100000000) (hlast : F.last + F.room < 4611686018427387904) {k : Sl × Sl × Unit → PT}
  (hk : ∀ v1 v2 s' s1 s2 w', FlS b (fScale F rev conc want).1 s' → Rw eI z0i 1 v1 (fMade F rev want) s1 → Rw eI z0i 1 v2 (fScale F rev conc want).2 s2 → St w0 (s2 :: s1 :: setN E i s') w' → k (v1, v2, ()) w') :
  L.call Pr z3X [.pointer (some ⟨b, 0, none⟩), .string rev, I conc, I want] (.tup [.one .slice, .one .slice]) k w := by
 have hfew := hf.1.few
 have hcl := z9N F.l (rev := rev)
 refine z00 (z9l _ _ _ _) ?_
 unfold z5Q
 refine znF h i hi hf fun w h => ?_
 have h := h.front i hi
 have hg : (growN F rev want : Int) = max 0 (min (want - fCount F.l rev) (F.room - F.l.length)) := by unfold growN; omega
 refine z1k (fun z w => ∃ v sv s, z = (v, ((fCount F.l rev + growN F rev want : Nat) : Int), ()) ∧ FlS b (fGrown F rev conc want) s ∧ Rw eI z0i 1 v (fMade F rev want) sv ∧ St w0 (s :: sv :: delN E i) w) (fun k2 hk2 => ?_) ?_
 ·refine z0G (fun q y w => ∃ (j : Nat) (v : Sl) (sv s : Seg), y = (v, ((fCount F.l rev + j : Nat) : Int), ()) ∧ q + j = growN F rev want ∧ FlS b (grow rev conc j F) s ∧ Rw eI z0i 1 v ((List.range j).map fun j : Nat => F.last + 1 + (j : Int)) sv ∧ St w0 (s :: sv :: delN E i) w)
   (growN F rev want) ⟨0, ⟨none, 0, 0⟩, [], s, rfl, rfl, hf, Rw.nil, h.eq (by simp)⟩ ?_
  clear hf
  clear h; (try clear w)
  rintro q y w ⟨j, v, sv, s, rfl, hq, hf, hv, h⟩ again hag
  (try dsimp only)
  have hf' := hf
  obtain ⟨ok, rA, rW, mA, mW, sA, sW, L, hA, hW, hr, rfl⟩ := hf
  have hlj := z9G (F := F) (rev := rev) (conc := conc) j
  have hla := z9H (F := F) (rev := rev) (conc := conc) j
  have hro := z9F (F := F) (rev := rev) (conc := conc) j
  have lo := ok.lo
  have h : St w0 (flB b rA rW (grow rev conc j F) :: sA :: sW :: (L.map trS).flatten :: sv :: delN E i) w := h.eq (by simp)
  have stop : ∀ {w}, j = growN F rev want → St w0 (flB b rA rW (grow rev conc j F) :: sA :: sW :: (L.map trS).flatten :: sv :: delN E i) w → k2 (v, ((fCount F.l rev + j : Nat) : Int), ()) w := by
   rintro w rfl h
   exact hk2 _ w ⟨v, sv, _, rfl, hf', hv, h.eq (by simp)⟩
  (refine dr h ?_; clear h; (try clear w); intro w h)
  refine it (fun hc => ?_) (fun hc => ?_) <;> (try simp only [zB] at hc)
  ·(refine nn ?_; refine ldC h ?_)
   refine MpS.len z3b h 1 rfl hA ?_
   rw [hr.len, hlj]
   (refine nn ?_; refine ldC h ?_)
   refine it (fun hd => ?_) (fun hd => ?_) <;> (try simp only [zB] at hd)
   ·(refine nn ?_; refine ldC h ?_; refine nn ?_; refine stC h ?_; clear h; (try clear w); intro w h; dsimp only [putN, setN] at h; refine dr h ?_; clear h; (try clear w); intro w h; refine nn ?_; refine ldC h ?_; refine nn ?_; refine ldC h ?_)
    refine zn2 h fun b' s' w hp h => ?_
    rw [wr (by omega) (by omega)] at h
    rw [wr (by omega) (by omega)]
    (refine ckC h ?_; refine ckC h ?_)
    refine MpS.set mkI z3b h 2 rfl hA (rev, some ⟨b', 0, none⟩) rfl fun sA' w hA' h => ?_
    (dsimp only [setN, List.cons_append, List.nil_append] at h; refine nn ?_; refine ldC h ?_)
    refine nw h ?_; clear h; (try clear w); intro b21 w h
    refine Rw.app encI elI h 5 rfl hv (F.last + 1 + (j : Int)) (by rw [hla, eI]; congr 2; omega) (by simp; omega) (by simp; omega) fun v' sv' w hv' h => ?_
    have hg0 : mget mA ((grow rev conc j F).last + 1) = none := hr.get0 (by
     unfold fFind
     rw [List.find?_eq_none]
     intro x hx
     have := (ok.rng x hx).2
     simp; omega)
    refine hag (q - 1) _ w (by omega) ⟨j + 1, v', sv', flB b rA rW (grow rev conc (j + 1) F) ++ (sA' ++ (sW ++ ((L ++ [((⟨(grow rev conc j F).last + 1, rev, ⟨1, conc, []⟩⟩ : AHeld), b', s')]).map trS).flatten)), ?_, by omega, ⟨?_, rA, rW, _, mW, sA', sW, L ++ [((⟨(grow rev conc j F).last + 1, rev, ⟨1, conc, []⟩⟩ : AHeld), b', s')], hA', hW, ⟨?_, ?_, ?_, ?_⟩, rfl⟩, ?_, ?_⟩
    ·rw [wr (by omega) (by omega)]; congr 2
    ·exact zgM ok (by omega) (by omega)
    ·simp only [grow, grow1, List.map_append, hr.l]; rfl
    ·intro t ht
     rcases List.mem_append.1 ht with ht | ht
     ·exact hr.ps t ht
     ·simp only [List.mem_singleton] at ht; subst ht; exact hp
    ·rw [z3l hg0, List.map_append]
     exact hr.all.append_right _
    ·intro q
     rw [hr.wth]
     simp only [grow, grow1]
     rw [zhv _ _ rfl]
    ·rw [List.range_succ, List.map_append]; exact hv'
    ·have h := fr1_ (fr4_ h)
     have h := St.addEnd (g := trS) (t := ((⟨(grow rev conc j F).last + 1, rev, ⟨1, conc, []⟩⟩ : AHeld), b', s')) h
     have h := fr4_ (fr4_ (fr4_ (fr1_ (fr4_ h))))
     exact h.eq (by simp [grow, grow1])
   ·exact stop (by omega) h
  ·exact stop (by omega) h
 ·rintro z w ⟨v, sv, s, rfl, hf, hv, h⟩
  (try dsimp only)
  have hlg := z9G (F := F) (rev := rev) (conc := conc) (growN F rev want)
  have hmade : (fMade F rev want).length = growN F rev want := by simp [fMade]
  have hcg := zhu (F := F) (rev := rev) (conc := conc) (growN F rev want)
  rw [← hcg]
  have hcle := z9N (grow rev conc (growN F rev want) F).l (rev := rev)
  refine z0G (fun q y w => ∃ (F2 : AFleet) (gone : List Int) (v2 : Sl) (s2 s : Seg), y = (v2, ((fCount F2.l rev : Nat) : Int), ()) ∧ q = shrinkN F2 rev want ∧ gone.length + q = shrinkN (fGrown F rev conc want) rev want ∧ FlS b F2 s ∧ Rw eI z0i 1 v2 gone s2 ∧
   (shrink rev q F2).1 = (fScale F rev conc want).1 ∧ gone ++ (shrink rev q F2).2 = (fScale F rev conc want).2 ∧ St w0 (s :: s2 :: sv :: delN E i) w)
   (shrinkN (fGrown F rev conc want) rev want) ⟨fGrown F rev conc want, [], ⟨none, 0, 0⟩, [], s, rfl, rfl, by simp, hf, Rw.nil, rfl, rfl, h.eq (by simp)⟩ ?_
  clear hf
  clear h; (try clear w)
  rintro q y w ⟨F2, gone, v2, s2, s, rfl, hq, hgl, hf, hv2, hF, hG, h⟩ again hag
  (try dsimp only)
  have hcl2 := z9N F2.l (rev := rev)
  have hq' : (q : Int) = max 0 ((fCount F2.l rev : Int) - max want 0) := by rw [hq]; unfold shrinkN; omega
  have hgn : (shrinkN (fGrown F rev conc want) rev want : Int) ≤ F.l.length + growN F rev want := by unfold shrinkN fGrown; omega
  have hfew2 := hf.1.few
  refine it (fun hc => ?_) (fun hc => ?_) <;> (try simp only [zB] at hc)
  ·have hc0 : max want 0 < (fCount F2.l rev : Int) := by split at hc <;> omega
   obtain ⟨q', rfl⟩ : ∃ q', q = q' + 1 := ⟨q - 1, by omega⟩
   refine zkA h 0 rfl hf fun w h => ?_
   obtain ⟨x, hx, hrev, hst⟩ := z9u hf.1 (rev := rev) (by omega)
   have okd := zeR hf.1 (rev := rev) (by omega)
   have hcd := zb1 hf.1 (rev := rev) (by omega)
   obtain ⟨ok, rA, rW, mA, mW, sA, sW, L, hA, hW, hr, rfl⟩ := hf
   obtain ⟨A, t, B, rfl, rfl, hid⟩ := hr.at hx
   have h : St w0 (flB b rA rW F2 :: sA :: sW :: ((A ++ t :: B).map trS).flatten :: s2 :: sv :: delN E i) w := h.eq (by simp)
   (refine nn ?_; refine ldC h ?_)
   refine MpS.get mkI z3b zo (fun x : ByteArray × Option Addr => (x.1, x.2, ())) (fun _ => rfl) h 1 rfl hA ?_
   have hg := hr.get ok (t := t) (by simp)
   have hp := hr.ps t (by simp)
   rw [← hid, hg]
   simp only [Option.map_some, Option.getD_some]
   have h := fr3_ h
   have h := h.pick
   refine zkx h 0 rfl hp fun s' w hp' h => ?_
   have h : St w0 (trS ({ t.1 with pod := (podDrain t.1.pod).1 }, t.2.1, s') :: ((A ++ B).map trS).flatten :: flB b rA rW F2 :: sA :: sW :: s2 :: sv :: delN E i) w := h
   have h := h.place
   have h := fr3_ (fr3_ (fr3_ h))
   have hdp := zbN hst
   have hrq : (podDrain t.1.pod).1.reqs = t.1.pod.reqs := by rw [hdp]
   have h4 : (podDrain t.1.pod).1.st = 4 → t.1.pod.reqs = [] := by
    rw [hdp]; simp only; intro h; apply Classical.byContradiction; intro hne; simp [hne] at h
   have hwth : ∀ q, mget mW q = (fWhere (fUpd F2.l t.1.id fun p => (podDrain p).1) q).map (·.id) := fun q => by
    rw [hr.wth, zda ok.pw (z3v hx).1 hrq h4]
   have fin : ∀ {s w}, FlS b (drain1 rev F2) s → St w0 (s :: s2 :: sv :: delN E i) w → L.new [I t.1.id] z0i (fun b31 =>
     L.sem Pr (.one (.one .slice)) (Builtin.append_ #[z0X, z0X] z0X #[.slice v2.a v2.len v2.cap, .slice (some ⟨b31, 0, none⟩) 1 1]) fun (s32 : Sl) =>
     again (⟨s32.a, s32.len, s32.cap⟩, IntKind.wrap .i64 ((fCount F2.l rev : Nat) - 1), ())) w := by
    intro s w hf h
    refine nw h ?_; clear h; (try clear w); intro b31 w h
    refine Rw.app encI elI h 1 rfl hv2 t.1.id rfl (by omega) (by omega) fun v' s' w hv' h => ?_
    refine hag q' _ w (by omega) ⟨drain1 rev F2, gone ++ [t.1.id], v', s', s, ?_, ?_, ?_, hf, hv', ?_, ?_, h⟩
    ·rw [wr (by omega) (by omega)]; congr 2; omega
    ·unfold shrinkN; omega
    ·simp only [List.length_append, List.length_singleton]; omega
    ·exact hF
    ·rw [List.append_assoc, hid]; exact hG
   refine zn8 (t := ({ t.1 with pod := (podDrain t.1.pod).1 }, t.2.1, s')) h hA hg hp' (fun h4' => ?_) fun h4' sA' w hA' h => ?_
   ·refine fin (s := flB b rA rW F2 ++ (sA ++ (sW ++ ((A ++ ({ t.1 with pod := (podDrain t.1.pod).1 }, t.2.1, s') :: B).map trS).flatten))) ⟨okd, rA, rW, mA, mW, sA, sW, _, hA, hW, ?_, rfl⟩ (h.eq (by simp))
    have := hr.upd ok (fun p => (podDrain p).1) hp' h4' hwth
    unfold drain1; rw [← hid]; exact this
   ·refine fin (s := flB b rA rW F2 ++ (sA' ++ (sW ++ ((A ++ B).map trS).flatten))) ⟨okd, rA, rW, _, mW, sA', sW, _, hA', hW, ?_, rfl⟩ (h.eq (by simp))
    have := hr.del ok (fun p => (podDrain p).1) h4' hwth
    unfold drain1; rw [← hid]; exact this
  ·have e0 : q = 0 := by split at hc <;> omega
   subst e0
   have e1 : F2 = (fScale F rev conc want).1 := hF
   have e2 : gone = (fScale F rev conc want).2 := by rw [← hG]; simp [shrink]
   refine z9U h (hv.rd encI h 2 rfl) (by omega) (Rw.nil_of encI hv) fun v1 s1 w hr1 _ h => ?_
   refine z9U h (hv2.rd encI h 2 rfl) (by omega) (Rw.nil_of encI hv2) fun v3 s3 w hr3 _ h => ?_
   refine ⟨_, rfl, hk v1 v3 s s1 s3 w (by rw [← e1]; exact hf) hr1 (by rw [← e2]; exact hr3) ?_⟩
   have h := dl3_ (dl4_ h)
   have h := fr2_ (fr1_ (fr1_ h))
   exact St.back (i + 2) (E := s3 :: s1 :: E) hi h
end Go.Proofs.YtkmalcoocklikaaGreatDoor
namespace Go.Proofs.YtkmalcoocklikaaGreatDoor
open Go.Dm
attribute [local irreducible] L.load L.store L.chk L.new L.nonnil L.guard L.ite L.draw L.idx L.sem L.semR L.semU L.chkSem L.next L.call L.callV L.join L.alts L.loop L.begin L.endRound L.range
variable {w0 w : World} {E : List Seg}
def eC (p : Int × Int) : List Value := [I p.1, I p.2]
theorem encC : Enc eC 2 := ⟨fun _ => rfl, fun _ => rfl, by decide⟩
theorem elC : El Pr z0L z04 2 16 (.agg #[I 0, I 0]) := zfV (by kernel_rfl) (by kernel_rfl) rfl (by decide)
theorem Rw.stC {v : Sl} {l : List (Int × Int)} {s : Seg} {e : Nat} (h : St w0 E w) (k : Nat) (hi : nth E k = some s) (hr : Rw eC e 2 v l s) {i : Nat} {a : Addr} (ha : ElA v 2 i a) (hx : i < l.length) (y : Int × Int) {kk : PT}
  (hk : ∀ s' w', Rw eC e 2 v (l.set i y) s' → St w0 (setN E k s') w' → kk w') : L.store a [I y.1, I y.2] kk w := by
 obtain ⟨a0, hv, rfl⟩ := ha
 have hx0 : l[i]? = some l[i] := List.getElem?_eq_getElem hx
 generalize l[i] = x at hx0
 have e1 : setN (fl eC l) (i * 2 + 0) (I y.1) = fl eC (l.set i (y.1, x.2)) := zgQ encC hx0 (by decide) rfl
 have e2 : setN (fl eC (l.set i (y.1, x.2))) (i * 2 + 1) (I y.2) = fl eC ((l.set i (y.1, x.2)).set i y) := zgQ encC (x := (y.1, x.2)) (by simp [hx]) (by decide) rfl
 rw [List.set_set] at e2
 have hset : setN (setN (fl eC l) (i * 2 + 0) (I y.1)) (i * 2 + 1) (I y.2) = fl eC (l.set i y) := by rw [e1, e2]
 have hlt : i * 2 + 1 < (fl eC l).length := by rw [z6z encC]; omega
 unfold Rw at hr hk
 rw [← hset] at hk
 have hlen2 : (setN (setN (fl eC l) (i * 2 + 0) (I y.1)) (i * 2 + 1) (I y.2)).length = (fl eC l).length := by rw [z1Q, z1Q]; simp
 have hlen1 : (setN (fl eC l) (i * 2 + 0) (I y.1)).length = (fl eC l).length := by rw [z1Q]; simp
 generalize fl eC l = xs at *
 cases hr with
 | nil => cases hv
 | mk g n cap pre xs spare post h1 h2 h3 h4 =>
  cases hv
  rw [z2G]
  have hn : ∀ j, j ≤ 1 → ∃ c, nth (pre ++ (xs ++ (spare ++ post))) (pre.length + (i * 2 + j)) = some c := fun j hj => by
   rw [z3e, z4G (by omega), z0e]
   exact ⟨_, List.getElem?_eq_getElem (by omega)⟩
  refine stx [I y.1, I y.2] h k hi ?_ rfl fun w' h => hk _ w' (Row.mk g n cap pre _ spare post (by rw [hlen2]; exact h1) (by rw [hlen2]; exact h2) h3 h4) ?_
  ·obtain ⟨c0, hc0⟩ := hn 0 (by omega)
   obtain ⟨c1, hc1⟩ := hn 1 (by omega)
   simp only [Nat.add_zero] at hc0
   simp [hasN, hc0, hc1, Nat.add_assoc]
  ·simp only [putN] at h
   have q1 : setN (xs ++ (spare ++ post)) (i * 2 + 0) (I y.1) = setN xs (i * 2 + 0) (I y.1) ++ (spare ++ post) := z6M (by omega)
   have q2 : setN (setN xs (i * 2 + 0) (I y.1) ++ (spare ++ post)) (i * 2 + 1) (I y.2) = setN (setN xs (i * 2 + 0) (I y.1)) (i * 2 + 1) (I y.2) ++ (spare ++ post) := z6M (by omega)
   rw [show pre.length + i * 2 = pre.length + (i * 2 + 0) from rfl, z64, q1, show pre.length + (i * 2 + 0) + 1 = pre.length + (i * 2 + 1) by omega, z64, q2] at h
   exact h
def insC (x : Int × Int) : List (Int × Int) → List (Int × Int)
 | [] => [x]
 | y :: l => if x.1 < y.1 then x :: y :: l else y :: insC x l
def csort (l : List (Int × Int)) : List (Int × Int) := l.foldl (fun a x => insC x a) []
theorem z6y (x : Int × Int) (l : List (Int × Int)) : (insC x l).Perm (x :: l) := by
 induction l with
 | nil => exact .refl _
 | cons y l ih =>
  simp only [insC]
  split
  ·exact .refl _
  ·exact (ih.cons y).trans (.swap ..)
theorem ziM {x : Int × Int} : ∀ {l : List (Int × Int)}, l.Pairwise (fun a b => a.1 ≤ b.1) → (insC x l).Pairwise (fun a b => a.1 ≤ b.1)
 | [], _ => by simp [insC]
 | y :: l, h => by
  rw [List.pairwise_cons] at h
  simp only [insC]
  split
  ·rename_i hy
   rw [List.pairwise_cons]
   refine ⟨fun z hz => ?_, List.pairwise_cons.2 h⟩
   rcases List.mem_cons.1 hz with rfl | hz
   ·omega
   ·have := h.1 z hz; omega
  ·rename_i hy
   rw [List.pairwise_cons]
   refine ⟨fun z hz => ?_, ziM h.2⟩
   rcases List.mem_cons.1 ((z6y x l).mem_iff.1 hz) with rfl | hz
   ·omega
   ·exact h.1 z hz
theorem zhz {l : List (Int × Int)} {i : Nat} {x : Int × Int} (h : l[i]? = some x) : csort (l.take (i + 1)) = insC x (csort (l.take i)) := by
 unfold csort; rw [List.take_add_one, h, List.foldl_append]; rfl
theorem z1O (l : List (Int × Int)) : (csort l).length = l.length := by
 suffices ∀ (l a : List (Int × Int)), (l.foldl (fun a x => insC x a) a).length = a.length + l.length by
  have := this l []; simpa [csort] using this
 intro l
 induction l with
 | nil => simp
 | cons x l ih => intro a; rw [List.foldl_cons, ih, (z6y x a).length_eq]; simp; omega
theorem zgU (l : List (Int × Int)) : (csort l).Pairwise (fun a b => a.1 ≤ b.1) := by
 suffices ∀ (l a : List (Int × Int)), a.Pairwise (fun a b => a.1 ≤ b.1) → (l.foldl (fun a x => insC x a) a).Pairwise (fun a b => a.1 ≤ b.1) from this l [] .nil
 intro l
 induction l with
 | nil => exact fun a h => h
 | cons x l ih => exact fun a h => ih _ (ziM h)
theorem ziN {x : Int × Int} : ∀ {A B : List (Int × Int)}, (∀ y ∈ A, ¬ x.1 < y.1) → (∀ y ∈ B, x.1 < y.1) → insC x (A ++ B) = A ++ x :: B
 | [], [], _, _ => rfl
 | [], y :: B, _, h => by simp only [List.nil_append, insC]; rw [if_pos (h y (by simp))]
 | y :: A, B, h1, h2 => by
  simp only [List.cons_append, insC]
  rw [if_neg (h1 y (by simp)), ziN (fun z hz => h1 z (by simp [hz])) h2]
theorem z4X {E : List Seg} {i : Nat} {s s' : Seg} (hi : nth E i = some s) : nth (setN E i s') i = some s' := by
 rw [z0e] at *
 rw [z1Q, List.getElem?_set_self]
 exact (List.getElem?_eq_some_iff.1 hi).1
theorem z4b {E : List Seg} {i : Nat} {s s' : Seg} : setN (setN E i s) i s' = setN E i s' := by
 rw [z1Q, z1Q, z1Q, List.set_set]
abbrev cmpV : Value := .func (.func z0q) #[] #[]
theorem zkZ (h : St w0 E w) {a b c d : Int} (h1 : -4611686018427387904 < a ∧ a < 4611686018427387904) (h2 : -4611686018427387904 < c ∧ c < 4611686018427387904) {k : Int → PT} (hk : ∀ w', St w0 E w' → k (a - c) w') :
  L.callV Pr cmpV [.agg #[I a, I b], .agg #[I c, I d]] (.one (.one (.int .i64))) k w := by
 refine z3U (fs := #[]) (cs := #[]) z8C (z8K (a, b, ()) (c, d, ())) ?_
 unfold z5e
 refine nw h ?_; clear h; (try clear w); intro b1 w h
 refine nw h ?_; clear h; (try clear w); intro b2 w h
 (dsimp only [setN, List.cons_append, List.nil_append] at h; refine ldC h ?_; refine ldC h ?_)
 refine ⟨_, rfl, ?_⟩
 (try dsimp only)
 rw [wr (by omega) (by omega)]
 exact hk w (dl0_ (dl0_ h))
theorem zmS {α : Type} {Q T : List α} {z x : α} : (Q ++ z :: x :: T)[Q.length]? = some z ∧ (Q ++ z :: x :: T)[Q.length + 1]? = some x ∧ ((Q ++ z :: x :: T).set (Q.length + 1) z).set Q.length x = Q ++ x :: z :: T := by
 refine ⟨by simp, by simp, by simp [List.set_append]⟩
theorem zf0 (h : St w0 E w) (i : Nat) {s : Seg} (hi : nth E i = some s) {v : Sl} {P M R : List (Int × Int)} (hr : Rw eC z04 2 v (P ++ (M ++ R)) s) (hn : (P ++ (M ++ R)).length < 1000000000)
  (hb : ∀ x ∈ M, -4611686018427387904 < x.1 ∧ x.1 < 4611686018427387904) {a b : Int} (ha : a = P.length) (hbb : b = P.length + M.length) {k : Unit → PT} (hk : ∀ s' w', Rw eC z04 2 v (P ++ (csort M ++ R)) s' → St w0 (setN E i s') w' → k () w') :
  L.call Pr z0D [.slice v.a v.len v.cap, I a, I b, cmpV] (.tup []) k w := by
 subst ha hbb
 refine z00 (z2P _ _ _ ⟨.func z0q, #[], #[]⟩) ?_
 unfold z1q
 have hlen := Rw.len encC hr
 simp only [List.length_append] at hn hlen
 rw [wr (by omega) (by omega)]
 have hcb : ∀ m, ∀ x ∈ csort (M.take m), x ∈ M := fun m x hx => by
  have : (csort (M.take m)).Perm (M.take m) := by
   suffices ∀ (l a : List (Int × Int)), (l.foldl (fun a x => insC x a) a).Perm (a ++ l) from by simpa [csort] using this (M.take m) []
   intro l
   induction l with
   | nil => intro a; simp
   | cons y l ih =>
    intro a
    refine (ih _).trans (((z6y y a).append_right l).trans ?_)
    exact (List.perm_middle (a := y) (l₁ := a) (l₂ := l)).symm
  exact List.mem_of_mem_take (this.mem_iff.1 hx)
 have h1 : csort (M.take 1) = M.take 1 := by cases M <;> rfl
 refine z0G (fun q y w => ∃ (m : Nat) (s : Seg), y = (((P.length + m : Nat) : Int), ()) ∧ 1 ≤ m ∧ q + m = max 1 M.length ∧ Rw eC z04 2 v (P ++ (csort (M.take m) ++ (M.drop m ++ R))) s ∧ St w0 (setN E i s) w) (max 1 M.length - 1)
  ⟨1, s, rfl, by omega, by omega, by rw [h1, ← List.append_assoc (M.take 1), List.take_append_drop]; exact hr, by rwa [z1F hi]⟩ ?_
 clear hr
 clear h; (try clear w)
 rintro q y w ⟨m, s, rfl, hm, hq, hr, h⟩ again hag
 (try dsimp only)
 refine it (fun hc => ?_) (fun hc => ?_) <;> (try simp only [zB] at hc)
 ·have hm2 : m < M.length := by omega
  have hx : M[m]? = some M[m] := List.getElem?_eq_getElem hm2
  have hxm : M[m] ∈ M := List.getElem_mem hm2
  have hdrop : M.drop m = M[m] :: M.drop (m + 1) := List.drop_eq_getElem_cons hm2
  have hct := zhz hx
  have hcl := z1O (M.take m)
  rw [List.length_take, Nat.min_eq_left (by omega)] at hcl
  have hpw := zgU (M.take m)
  generalize M[m] = x at *
  rw [hdrop] at hr
  have hnT : (M.drop (m + 1)).length = M.length - (m + 1) := List.length_drop ..
  refine z1k (fun z w => ∃ s, Rw eC z04 2 v (P ++ (csort (M.take (m + 1)) ++ (M.drop (m + 1) ++ R))) s ∧ St w0 (setN E i s) w) (fun k3 hk3 => ?_) (fun z w ⟨s, hr, h⟩ => ?_)
  ·refine z0G (fun q y w => ∃ (A B : List (Int × Int)) (s : Seg), y = (((P.length + A.length : Nat) : Int), ()) ∧ q = A.length ∧ A ++ B = csort (M.take m) ∧ (∀ y ∈ B, x.1 < y.1) ∧ Rw eC z04 2 v ((P ++ A) ++ x :: (B ++ (M.drop (m + 1) ++ R))) s ∧ St w0 (setN E i s) w) m
    ⟨csort (M.take m), [], s, by rw [hcl], hcl.symm, by simp, by simp, by simpa [List.append_assoc] using hr, h⟩ ?_
   clear hr
   clear h; (try clear w)
   rintro q2 y w ⟨A, B, s, rfl, hq2, hAB, hB, hr, h⟩ again2 hag2
   (try dsimp only)
   have stop : ∀ {w}, (∀ y ∈ A, ¬ x.1 < y.1) → St w0 (setN E i s) w → k3 () w := by
    intro w hA h
    refine hk3 _ w ⟨s, ?_, h⟩
    rw [hct, ← hAB, ziN hA hB]
    simpa [List.append_assoc] using hr
   have hsi : nth (setN E i s) i = some s := z4X hi
   refine dr h fun w h => ?_
   refine it (fun hd => ?_) (fun hd => ?_) <;> (try simp only [zB] at hd)
   ·have hA0 : A ≠ [] := fun e => by subst e; simp at hd
    obtain ⟨A', z, rfl⟩ : ∃ A' z, A = A' ++ [z] := ⟨A.dropLast, A.getLast hA0, (List.dropLast_concat_getLast hA0).symm⟩
    have eL : (P ++ (A' ++ [z])) ++ x :: (B ++ (M.drop (m + 1) ++ R)) = (P ++ A') ++ z :: x :: (B ++ (M.drop (m + 1) ++ R)) := by simp
    rw [eL] at hr
    obtain ⟨g1, g2, g3⟩ := zmS (Q := P ++ A') (z := z) (x := x) (T := B ++ (M.drop (m + 1) ++ R))
    have hlA : (P ++ A').length = P.length + A'.length := List.length_append ..
    have hl2 := congrArg List.length hAB
    simp only [List.length_append, List.length_singleton, hcl] at hl2 hd hq2 ⊢
    have hzM : z ∈ M := hcb m z (by rw [← hAB]; simp)
    have ix1 : ((P.length + (A'.length + 1) : Nat) : Int).toNat = (P ++ A').length + 1 := by rw [Int.toNat_natCast]; omega
    have ix0 : (((P.length + (A'.length + 1) : Nat) : Int) - 1).toNat = (P ++ A').length := by omega
    have lt1 : (P ++ A').length + 1 < ((P ++ A') ++ z :: x :: (B ++ (M.drop (m + 1) ++ R))).length := by simp only [List.length_append, List.length_cons]; omega
    rw [wr (n := ((P.length + (A'.length + 1) : Nat) : Int) - 1) (by omega) (by omega)]
    refine Rw.ix encC hr (by omega) (by rw [ix1]; exact lt1) fun a ha => ?_
    rw [ix1] at ha
    refine Rw.lda encC h i hsi hr ha g2 rfl ?_
    refine Rw.ix encC hr (by omega) (by rw [ix0]; omega) fun a2 ha2 => ?_
    rw [ix0] at ha2
    refine Rw.lda encC h i hsi hr ha2 g1 rfl ?_
    refine zkZ h (hb x hxm) (hb z hzM) fun w h => ?_
    refine it (fun he => ?_) (fun he => ?_) <;> (try simp only [zB] at he)
    ·refine dr h fun w h => ?_
     refine Rw.ix encC hr (by omega) (by rw [ix0]; omega) fun a3 ha3 => ?_
     rw [ix0] at ha3
     refine Rw.lda encC h i hsi hr ha3 g1 rfl ?_
     refine Rw.ix encC hr (by omega) (by rw [ix1]; exact lt1) fun a4 ha4 => ?_
     rw [ix1] at ha4
     refine Rw.lda encC h i hsi hr ha4 g2 rfl ?_
     refine Rw.ix encC hr (by omega) (by rw [ix1]; exact lt1) fun a5 ha5 => ?_
     rw [ix1] at ha5
     refine Rw.stC h i hsi hr ha5 lt1 z fun s1 w hr1 h => ?_
     have hs1 : nth (setN (setN E i s) i s1) i = some s1 := z4X hsi
     refine Rw.ix encC hr1 (by omega) (by rw [ix0, List.length_set]; omega) fun a6 ha6 => ?_
     rw [ix0] at ha6
     refine Rw.stC h i hs1 hr1 ha6 (by rw [List.length_set]; omega) x fun s2 w hr2 h => ?_
     rw [g3] at hr2
     refine hag2 (q2 - 1) _ w (by omega) ⟨A', z :: B, s2, ?_, by omega, by simpa using hAB, ?_, by simpa using hr2, ?_⟩
     ·congr 1; omega
     ·intro y hy
      rcases List.mem_cons.1 hy with rfl | hy
      ·omega
      ·exact hB y hy
     ·rwa [z4b, z4b] at h
    ·refine stop (fun y hy => ?_) h
     rw [← hAB, List.pairwise_append] at hpw
     have hpw := hpw.1
     rw [List.pairwise_append] at hpw
     rcases List.mem_append.1 hy with hy | hy
     ·have := hpw.2.2 y hy z (by simp); omega
     ·simp at hy; subst hy; omega
   ·have : A = [] := List.eq_nil_of_length_eq_zero (by omega)
    subst this
    exact stop (by simp) h
  ·refine hag (q - 1) _ w (by omega) ⟨m + 1, s, ?_, by omega, by omega, hr, h⟩
   rw [wr (by omega) (by omega)]; congr 1
 ·have e : M.drop m = [] := List.drop_eq_nil_of_le (by omega)
  have e2 : M.take m = M := List.take_of_length_le (by omega)
  rw [e, e2, List.nil_append] at hr
  exact ⟨(), rfl, hk s w hr h⟩
theorem half {a b : Int} (ha : 0 ≤ a) (hb : 0 ≤ b) (h : a + b < 4611686018427387904) : IntKind.wrap .i64 (Int.fdiv (IntKind.wrap .u64 (IntKind.wrap .i64 (a + b))) (2 ^ (min (Int.toNat 1) 64))) = (a + b) / 2 := by
 rw [wr (n := a + b) (by omega) (by omega)]
 have e : IntKind.wrap .u64 (a + b) = a + b := by
  unfold IntKind.wrap
  have h1 : (IntKind.u64.signed) = false := rfl
  have h2 : (2 ^ IntKind.u64.bits : Int) = 18446744073709551616 := by decide
  rw [h1, h2]
  simp only [Bool.false_and, Bool.false_eq_true, if_false]
  omega
 rw [e]
 have e2 : (2 ^ (min (Int.toNat 1) 64) : Int) = 2 := by decide
 rw [e2, Int.fdiv_eq_ediv_of_nonneg _ (by decide), wr (by omega) (by omega)]
theorem zi0 {α : Type} {Q T U : List α} {x y : α} : (Q ++ x :: (T ++ y :: U))[Q.length]? = some x ∧ (Q ++ x :: (T ++ y :: U))[Q.length + (1 + T.length)]? = some y ∧
  ((Q ++ x :: (T ++ y :: U)).set Q.length y).set (Q.length + (1 + T.length)) x = Q ++ y :: (T ++ x :: U) ∧ ((Q ++ x :: (T ++ y :: U)).set (Q.length + (1 + T.length)) x).set Q.length y = Q ++ y :: (T ++ x :: U) := by
 have e : (1 + T.length) = T.length + 1 := by omega
 rw [e]
 refine ⟨by simp, ?_, ?_, ?_⟩
 ·rw [List.getElem?_append_right (by omega)]
  simp
 ·simp [List.set_append]
 ·simp [List.set_append]
theorem zlF {l : List (Int × Int)} (h : St w0 E w) (i : Nat) {s : Seg} (hi : nth E i = some s) {v : Sl} (hr : Rw eC z04 2 v l s) {p q : Int} {x y : Int × Int} (p0 : 0 ≤ p) (q0 : 0 ≤ q) (hx : l[p.toNat]? = some x) (hy : l[q.toNat]? = some y) {k : PT}
  (hk : ∀ s' w', Rw eC z04 2 v ((l.set p.toNat y).set q.toNat x) s' → St w0 (setN E i s') w' → k w') :
  (L.draw <| L.idx v.a q v.len 2 fun a3 => L.load (.agg [.int .i64, .int .i64]) a3 fun (x4 : Int × Int × Unit) => L.idx v.a p v.len 2 fun a5 => L.load (.agg [.int .i64, .int .i64]) a5 fun (x6 : Int × Int × Unit) =>
   L.idx v.a p v.len 2 fun a7 => L.store a7 [.int .i64 x4.1, .int .i64 x4.2.1] <| L.idx v.a q v.len 2 fun a8 => L.store a8 [.int .i64 x6.1, .int .i64 x6.2.1] k) w := by
 have hp := (List.getElem?_eq_some_iff.1 hx).1
 have hq := (List.getElem?_eq_some_iff.1 hy).1
 refine dr h fun w h => ?_
 refine Rw.ix encC hr q0 hq fun a ha => ?_
 refine Rw.lda encC h i hi hr ha hy (y := (y.1, y.2, ())) rfl ?_
 refine Rw.ix encC hr p0 hp fun a2 ha2 => ?_
 refine Rw.lda encC h i hi hr ha2 hx (y := (x.1, x.2, ())) rfl ?_
 refine Rw.ix encC hr p0 hp fun a3 ha3 => ?_
 refine Rw.stC h i hi hr ha3 hp y fun s1 w hr1 h => ?_
 refine Rw.ix encC hr1 q0 (by rw [List.length_set]; exact hq) fun a6 ha6 => ?_
 refine Rw.stC h i (z4X hi) hr1 ha6 (by rw [List.length_set]; exact hq) x fun s2 w hr2 h => ?_
 rw [z4b] at h
 exact hk s2 w hr2 h
theorem zg2 (h : St w0 E w) (i : Nat) {s : Seg} (hi : nth E i = some s) {v : Sl} {P A M B R : List (Int × Int)} (hr : Rw eC z04 2 v (P ++ (A ++ (M ++ (B ++ R)))) s) (hn : (P ++ (A ++ (M ++ (B ++ R)))).length < 1000000000) (hAB : A.length = B.length)
  {a b n : Int} (ha : a = P.length) (hb : b = P.length + (A.length + M.length)) (hnn : n = A.length) {k : Unit → PT} (hk : ∀ s' w', Rw eC z04 2 v (P ++ (B ++ (M ++ (A ++ R)))) s' → St w0 (setN E i s') w' → k () w') :
  L.call Pr z0y [.slice v.a v.len v.cap, I a, I b, I n, cmpV] (.tup []) k w := by
 subst ha hb hnn
 refine z00 (z3x _ _ _ _ ⟨.func z0q, #[], #[]⟩) ?_
 unfold z1J
 simp only [List.length_append] at hn
 refine z0G (fun q y w => ∃ (j : Nat) (s : Seg), y = ((j : Int), ()) ∧ q + j = A.length ∧ Rw eC z04 2 v (P ++ ((B.take j ++ A.drop j) ++ (M ++ ((A.take j ++ B.drop j) ++ R)))) s ∧ St w0 (setN E i s) w) A.length
  ⟨0, s, rfl, rfl, by simpa using hr, by rwa [z1F hi]⟩ ?_
 clear hr
 clear h; (try clear w)
 rintro q y w ⟨j, s, rfl, hq, hr, h⟩ again hag
 (try dsimp only)
 have hsi : nth (setN E i s) i = some s := z4X hi
 refine it (fun hc => ?_) (fun hc => ?_) <;> (try simp only [zB] at hc)
 ·have hA : A.drop j = A[j] :: A.drop (j + 1) := List.drop_eq_getElem_cons (by omega)
  have hB : B.drop j = B[j] :: B.drop (j + 1) := List.drop_eq_getElem_cons (by omega)
  have tA : A.take (j + 1) = A.take j ++ [A[j]] := by rw [List.take_add_one, List.getElem?_eq_getElem (by omega)]; rfl
  have tB : B.take (j + 1) = B.take j ++ [B[j]] := by rw [List.take_add_one, List.getElem?_eq_getElem (by omega)]; rfl
  have lA : (A.take j).length = j := by rw [List.length_take]; omega
  have lB : (B.take j).length = j := by rw [List.length_take]; omega
  have dA : (A.drop (j + 1)).length = A.length - (j + 1) := List.length_drop ..
  generalize A[j] = x at *
  generalize B[j] = y at *
  have eD : P ++ ((B.take j ++ A.drop j) ++ (M ++ ((A.take j ++ B.drop j) ++ R))) = (P ++ B.take j) ++ x :: ((A.drop (j + 1) ++ (M ++ A.take j)) ++ y :: (B.drop (j + 1) ++ R)) := by rw [hA, hB]; simp
  have eD2 : (P ++ B.take j) ++ y :: ((A.drop (j + 1) ++ (M ++ A.take j)) ++ x :: (B.drop (j + 1) ++ R)) = P ++ ((B.take (j + 1) ++ A.drop (j + 1)) ++ (M ++ ((A.take (j + 1) ++ B.drop (j + 1)) ++ R))) := by rw [tA, tB]; simp
  rw [eD] at hr
  obtain ⟨g1, g2, g3, -⟩ := zi0 (Q := P ++ B.take j) (T := A.drop (j + 1) ++ (M ++ A.take j)) (U := B.drop (j + 1) ++ R) (x := x) (y := y)
  rw [eD2] at g3
  have l1 : (P ++ B.take j).length = P.length + j := by rw [List.length_append, lB]
  have l2 : (P ++ B.take j).length + (1 + (A.drop (j + 1) ++ (M ++ A.take j)).length) = P.length + (A.length + M.length) + j := by rw [l1]; simp only [List.length_append, dA, lA]; omega
  rw [l2] at g2 g3
  rw [l1] at g1 g3
  rw [wr (n := (P.length : Int) + (A.length + M.length) + j) (by omega) (by omega), wr (n := (P.length : Int) + j) (by omega) (by omega)]
  have i1 : ((P.length : Int) + j).toNat = P.length + j := by omega
  have i2 : ((P.length : Int) + (A.length + M.length) + j).toNat = P.length + (A.length + M.length) + j := by omega
  refine zlF h i hsi hr (p := (P.length : Int) + j) (q := (P.length : Int) + (A.length + M.length) + j) (by omega) (by omega) (by rw [i1]; exact g1) (by rw [i2]; exact g2) fun s' w hr h => ?_
  rw [i1, i2, g3] at hr
  rw [z4b] at h
  refine hag (q - 1) _ w (by omega) ⟨j + 1, s', ?_, by omega, hr, h⟩
  rw [wr (by omega) (by omega)]; rfl
 ·have e1 : A.drop j = [] := List.drop_eq_nil_of_le (by omega)
  have e2 : A.take j = A := List.take_of_length_le (by omega)
  have e3 : B.drop j = [] := List.drop_eq_nil_of_le (by omega)
  have e4 : B.take j = B := List.take_of_length_le (by omega)
  rw [e1, e2, e3, e4, List.append_nil, List.append_nil] at hr
  exact ⟨(), rfl, hk s w hr h⟩
theorem zn0 (h : St w0 E w) (i : Nat) {s : Seg} (hi : nth E i = some s) {v : Sl} {P A B R : List (Int × Int)} (hr : Rw eC z04 2 v (P ++ (A ++ (B ++ R))) s) (hn : (P ++ (A ++ (B ++ R))).length < 1000000000) (hA : A ≠ []) (hB : B ≠ [])
  {a m b : Int} (ha : a = P.length) (hm : m = P.length + A.length) (hb : b = P.length + (A.length + B.length)) {k : Unit → PT} (hk : ∀ s' w', Rw eC z04 2 v (P ++ (B ++ (A ++ R))) s' → St w0 (setN E i s') w' → k () w') :
  L.call Pr z1e [.slice v.a v.len v.cap, I a, I m, I b, cmpV] (.tup []) k w := by
 subst ha hm hb
 refine z00 (z3Z _ _ _ _ ⟨.func z0q, #[], #[]⟩) ?_
 unfold z29
 simp only [List.length_append] at hn
 rw [wr (n := (P.length : Int) + A.length - P.length) (by omega) (by omega), wr (n := (P.length : Int) + (A.length + B.length) - (P.length + A.length)) (by omega) (by omega)]
 have hA1 := List.length_pos_iff.2 hA
 have hB1 := List.length_pos_iff.2 hB
 refine z0G (fun q y w => ∃ (X A' B' Y : List (Int × Int)) (s : Seg), y = ((A'.length : Int), (B'.length : Int), ()) ∧ q = A'.length + B'.length ∧ 0 < A'.length ∧ 0 < B'.length ∧ X.length + A'.length = A.length ∧ Y.length + B'.length = B.length ∧ X ++ (B' ++ (A' ++ Y)) = B ++ A ∧
  Rw eC z04 2 v (P ++ (X ++ (A' ++ (B' ++ (Y ++ R))))) s ∧ St w0 (setN E i s) w) (A.length + B.length)
  ⟨[], A, B, [], s, by simp; omega, rfl, hA1, hB1, by simp, by simp, by simp, by simpa using hr, by rwa [z1F hi]⟩ ?_
 clear hr
 clear h; (try clear w)
 rintro q y w ⟨X, A', B', Y, s, rfl, hq, hA', hB', hX, hY, hXY, hr, h⟩ again hag
 (try dsimp only)
 have hsi : nth (setN E i s) i = some s := z4X hi
 have hnn : (P ++ (X ++ (A' ++ (B' ++ (Y ++ R))))).length < 1000000000 := by simp only [List.length_append]; omega
 refine it (fun hc => ?_) (fun hc => ?_) <;> (try simp only [zB] at hc)
 ·refine it (fun hd => ?_) (fun hd => ?_) <;> (try simp only [zB] at hd)
  ·obtain ⟨A1, A2, rfl, l1⟩ : ∃ A1 A2, A' = A1 ++ A2 ∧ A1.length = B'.length := ⟨A'.take B'.length, A'.drop B'.length, (List.take_append_drop ..).symm, by rw [List.length_take]; omega⟩
   simp only [List.length_append] at hX hq hd hA' hnn ⊢
   rw [wr (n := (P.length : Int) + A.length - ((A1.length + A2.length : Nat) : Int)) (by omega) (by omega)]
   refine zg2 (P := P ++ X) (A := A1) (M := A2) (B := B') (R := Y ++ R) h i hsi (by simpa using hr) (by simp only [List.length_append]; omega) l1 (by rw [List.length_append]; omega) (by rw [List.length_append]; omega) (by omega) fun s' w hr h => ?_
   rw [z4b] at h
   rw [wr (by omega) (by omega)]
   refine hag (A2.length + A1.length) _ w (by omega) ⟨X ++ B', A2, A1, Y, s', ?_, rfl, by omega, by omega, by rw [List.length_append]; omega, by omega, by rw [← hXY]; simp, by simpa using hr, h⟩
   rw [l1]
   congr 1
   omega
  ·obtain ⟨B1, B2, rfl, l1⟩ : ∃ B1 B2, B' = B1 ++ B2 ∧ B2.length = A'.length := ⟨B'.take (B'.length - A'.length), B'.drop (B'.length - A'.length), (List.take_append_drop ..).symm, by rw [List.length_drop]; omega⟩
   simp only [List.length_append] at hY hq hd hB' hnn hc ⊢
   rw [wr (n := (P.length : Int) + A.length - (A'.length : Int)) (by omega) (by omega), wr (n := (P.length : Int) + A.length + ((B1.length + B2.length : Nat) : Int)) (by omega) (by omega), wr (n := (P.length : Int) + A.length + ((B1.length + B2.length : Nat) : Int) - (A'.length : Int)) (by omega) (by omega)]
   refine zg2 (P := P ++ X) (A := A') (M := B1) (B := B2) (R := Y ++ R) h i hsi (by simpa using hr) (by simp only [List.length_append]; omega) l1.symm (by rw [List.length_append]; omega) (by rw [List.length_append]; omega) (by omega) fun s' w hr h => ?_
   rw [z4b] at h
   rw [wr (by omega) (by omega)]
   refine hag (B2.length + B1.length) _ w (by omega) ⟨X, B2, B1, A' ++ Y, s', ?_, rfl, by omega, by omega, by omega, by rw [List.length_append]; omega, by rw [← hXY]; simp, by simpa using hr, h⟩
   rw [← l1]
   congr 2
   omega
 ·rw [wr (n := (P.length : Int) + A.length - (A'.length : Int)) (by omega) (by omega)]
  refine zg2 (P := P ++ X) (A := A') (M := []) (B := B') (R := Y ++ R) h i hsi (by simpa using hr) (by simp only [List.length_append, List.length_nil]; omega) (by omega) (by rw [List.length_append]; omega) (by rw [List.length_append, List.length_nil]; omega) rfl fun s' w hr h => ?_
  rw [z4b] at h
  refine ⟨(), rfl, hk s' w ?_ h⟩
  have e : P ++ (B ++ (A ++ R)) = (P ++ X) ++ (B' ++ ([] ++ (A' ++ (Y ++ R)))) := by
   have := congrArg (fun z => P ++ (z ++ R)) hXY
   simpa using this.symm
  rw [e]; exact hr
def lexlt (x y : Int × Int) : Prop := x.1 < y.1 ∨ (x.1 = y.1 ∧ x.2 < y.2)
abbrev Ls (l : List (Int × Int)) : Prop := l.Pairwise lexlt
theorem zgK {x : Int × Int} : ∀ {l : List (Int × Int)}, Ls l → (∀ y ∈ l, y.2 < x.2) → Ls (insC x l)
 | [], _, _ => by simp [insC]
 | y :: l, h, hx => by
  have h := List.pairwise_cons.1 h
  simp only [insC]
  split
  ·rename_i hy
   refine List.pairwise_cons.2 ⟨fun z hz => ?_, List.pairwise_cons.2 h⟩
   rcases List.mem_cons.1 hz with rfl | hz
   ·exact .inl hy
   ·rcases h.1 z hz with h | h
    ·exact .inl (by omega)
    ·exact .inl (by omega)
  ·rename_i hy
   refine List.pairwise_cons.2 ⟨fun z hz => ?_, zgK h.2 fun z hz => hx z (by simp [hz])⟩
   rcases List.mem_cons.1 ((z6y x l).mem_iff.1 hz) with rfl | hz
   ·have := hx y (by simp)
    by_cases he : y.1 = z.1
    ·exact .inr ⟨he, this⟩
    ·exact .inl (by omega)
   ·exact h.1 z hz
theorem z47 (l : List (Int × Int)) : (csort l).Perm l := by
 suffices ∀ (l a : List (Int × Int)), (l.foldl (fun a x => insC x a) a).Perm (a ++ l) from by simpa [csort] using this l []
 intro l
 induction l with
 | nil => intro a; simp
 | cons y l ih =>
  intro a
  refine (ih _).trans (((z6y y a).append_right l).trans ?_)
  exact (List.perm_middle (a := y) (l₁ := a) (l₂ := l)).symm
theorem zcb {l : List (Int × Int)} (h : l.Pairwise fun a b => a.2 < b.2) : Ls (csort l) := by
 suffices ∀ (l a : List (Int × Int)), (a ++ l).Pairwise (fun a b => a.2 < b.2) ∨ True → Ls a → l.Pairwise (fun a b => a.2 < b.2) → (∀ x ∈ a, ∀ y ∈ l, x.2 < y.2) → Ls (l.foldl (fun a x => insC x a) a) from
  this l [] (.inr trivial) .nil h (by simp)
 intro l
 induction l with
 | nil => exact fun a _ h _ _ => h
 | cons y l ih =>
  intro a _ ha hl hal
  rw [List.pairwise_cons] at hl
  refine ih _ (.inr trivial) (zgK ha fun x hx => hal x hx y (by simp)) hl.2 fun x hx z hz => ?_
  rcases List.mem_cons.1 ((z6y y a).mem_iff.1 hx) with rfl | hx
  ·exact hl.1 z hz
  ·exact hal x hx z (by simp [hz])
theorem zgD : ∀ {l1 l2 : List (Int × Int)}, Ls l1 → Ls l2 → l1.Perm l2 → l1 = l2
 | [], l2, _, _, p => p.nil_eq
 | x :: l1, [], _, _, p => by have := p.length_eq; simp at this
 | x :: l1, y :: l2, h1, h2, p => by
  have h1 := List.pairwise_cons.1 h1
  have h2 := List.pairwise_cons.1 h2
  have e : x = y := by
   rcases List.mem_cons.1 (p.mem_iff.1 (by simp : x ∈ x :: l1)) with e | hx
   ·exact e
   ·rcases List.mem_cons.1 (p.mem_iff.2 (by simp : y ∈ y :: l2)) with e | hy
    ·exact e.symm
    ·have q1 := h1.1 y hy
     have q2 := h2.1 x hx
     unfold lexlt at q1 q2
     omega
  subst e
  rw [zgD h1.2 h2.2 p.cons_inv]
theorem zbi {l : List (Int × Int)} (h : Ls l) {i j : Nat} {x y : Int × Int} (hij : i ≤ j) (hi : l[i]? = some x) (hj : l[j]? = some y) : x.1 ≤ y.1 := by
 rcases Nat.lt_or_ge i j with hlt | hge
 ·obtain ⟨i1, rfl⟩ := List.getElem?_eq_some_iff.1 hi
  obtain ⟨j1, rfl⟩ := List.getElem?_eq_some_iff.1 hj
  have := List.pairwise_iff_getElem.1 h i j i1 j1 hlt
  unfold lexlt at this
  omega
 ·have : i = j := by omega
  subst this
  rw [hi] at hj; cases hj; omega
theorem zgu {l : List (Int × Int)} {c : Nat} {z : Int × Int} (h : z ∈ l.take c) : ∃ i, i < c ∧ l[i]? = some z := by
 obtain ⟨i, hi⟩ := List.mem_iff_getElem?.1 h
 rw [List.getElem?_take] at hi
 split at hi
 ·exact ⟨i, by assumption, hi⟩
 ·cases hi
theorem zgv {l : List (Int × Int)} {c : Nat} {z : Int × Int} (h : z ∈ l.drop c) : ∃ i, c ≤ i ∧ l[i]? = some z := by
 obtain ⟨i, hi⟩ := List.mem_iff_getElem?.1 h
 rw [List.getElem?_drop] at hi
 exact ⟨c + i, by omega, hi⟩
theorem zg5 {l : List (Int × Int)} (h : St w0 E w) (i : Nat) {s : Seg} (hi : nth E i = some s) {v : Sl} (hr : Rw eC z04 2 v l s) {p q : Int} {x y : Int × Int} (p0 : 0 ≤ p) (q0 : 0 ≤ q) (hx : l[p.toNat]? = some x) (hy : l[q.toNat]? = some y)
  (h1 : -4611686018427387904 < x.1 ∧ x.1 < 4611686018427387904) (h2 : -4611686018427387904 < y.1 ∧ y.1 < 4611686018427387904) {k : Int → PT} (hk : ∀ w', St w0 E w' → k (x.1 - y.1) w') :
  (L.draw <| L.idx v.a p v.len 2 fun a3 => L.load (.agg [.int .i64, .int .i64]) a3 fun (x4 : Int × Int × Unit) => L.idx v.a q v.len 2 fun a5 => L.load (.agg [.int .i64, .int .i64]) a5 fun (x6 : Int × Int × Unit) =>
   L.callV Pr cmpV [.agg #[.int .i64 x4.1, .int .i64 x4.2.1], .agg #[.int .i64 x6.1, .int .i64 x6.2.1]] (.one (.one (.int .i64))) k) w := by
 have hp := (List.getElem?_eq_some_iff.1 hx).1
 have hq := (List.getElem?_eq_some_iff.1 hy).1
 refine dr h fun w h => ?_
 refine Rw.ix encC hr p0 hp fun a ha => ?_
 refine Rw.lda encC h i hi hr ha hx (y := (x.1, x.2, ())) rfl ?_
 refine Rw.ix encC hr q0 hq fun a2 ha2 => ?_
 refine Rw.lda encC h i hi hr ha2 hy (y := (y.1, y.2, ())) rfl ?_
 exact zkZ h h1 h2 hk
theorem zmY (h : St w0 E w) (i : Nat) {s : Seg} (hi : nth E i = some s) {v : Sl} {P B R : List (Int × Int)} {x : Int × Int} (hr : Rw eC z04 2 v (P ++ (x :: (B ++ R))) s) (hn : (P ++ (x :: (B ++ R))).length < 1000000000) (sB : Ls B) (hx2 : ∀ y ∈ B, x.2 < y.2)
  (hbx : -4611686018427387904 < x.1 ∧ x.1 < 4611686018427387904) (hb : ∀ y ∈ B, -4611686018427387904 < y.1 ∧ y.1 < 4611686018427387904) {a m b : Int} (ha : a = P.length) (hm : m = P.length + 1) (hbb : b = P.length + (1 + B.length))
  {k : Unit → PT} (hk : ∀ S s' w', Ls S → S.Perm (x :: B) → Rw eC z04 2 v (P ++ (S ++ R)) s' → St w0 (setN E i s') w' → k () w') :
  L.call Pr z09 [.slice v.a v.len v.cap, I a, I m, I b, cmpV] (.tup []) k w := by
 subst ha hm hbb
 refine z00 (z1a _ _ _ _ ⟨.func z0q, #[], #[]⟩) ?_
 unfold z0K
 simp only [List.length_append, List.length_cons] at hn
 rw [wr (n := (P.length : Int) + 1 - P.length) (by omega) (by omega)]
 refine itT (by simp; omega) ?_
 refine z0G (fun q y w => ∃ c d : Nat, y = ((P.length : Int) + 1 + c, (P.length : Int) + 1 + d, ()) ∧ q + c = d ∧ c ≤ d ∧ d ≤ B.length ∧ (∀ (i : Nat) z, B[i]? = some z → i < c → z.1 < x.1) ∧ (∀ (i : Nat) z, B[i]? = some z → d ≤ i → ¬ z.1 < x.1) ∧ St w0 E w) B.length
  ⟨0, B.length, by simp; omega, by omega, by omega, by omega, by intros; omega, by
   intro i z hz hi
   have := (List.getElem?_eq_some_iff.1 hz).1
   omega, h⟩ ?_
 clear h; (try clear w)
 rintro q y w ⟨c, d, rfl, hq, hcd, hd, h1, h2, h⟩ again hag
 (try dsimp only)
 have ix : ((P.length : Int)).toNat = P.length := by omega
 have g0 : (P ++ (x :: (B ++ R)))[((P.length : Int)).toNat]? = some x := by rw [ix]; simp
 refine it (fun hc => ?_) (fun hc => ?_) <;> (try simp only [zB] at hc)
 ·have he : ((P.length : Int) + 1 + c + ((P.length : Int) + 1 + d)) / 2 = (P.length : Int) + 1 + (((c + d) / 2 : Nat) : Int) := by omega
  rw [half (by omega) (by omega) (by omega), he]
  obtain ⟨e, hee⟩ : ∃ e, e = (c + d) / 2 := ⟨_, rfl⟩
  rw [← hee]
  have hel : e < B.length := by omega
  have hz : B[e]? = some B[e] := List.getElem?_eq_getElem hel
  have hzm : B[e] ∈ B := List.getElem_mem hel
  generalize B[e] = z at hz hzm
  have g1 : (P ++ (x :: (B ++ R)))[((P.length : Int) + 1 + (e : Int)).toNat]? = some z := by
   have e1 : ((P.length : Int) + 1 + (e : Int)).toNat = P.length + (e + 1) := by omega
   rw [e1, List.getElem?_append_right (by omega)]
   have e2 : P.length + (e + 1) - P.length = e + 1 := by omega
   rw [e2, List.getElem?_cons_succ, List.getElem?_append_left hel, hz]
  refine gd (by decide) ?_
  refine zg5 h i hi hr (by omega) (by omega) g1 g0 (hb z hzm) hbx fun w h => ?_
  refine it (fun hl => ?_) (fun hl => ?_) <;> (try simp only [zB] at hl)
  ·refine hag (d - (e + 1)) _ w (by omega) ⟨e + 1, d, ?_, by omega, by omega, hd, fun i z' hz' hi => ?_, h2, h⟩
   ·rw [wr (by omega) (by omega)]; congr 1
   ·have := zbi sB (by omega) hz' hz
    omega
  ·refine hag (e - c) _ w (by omega) ⟨c, e, rfl, by omega, by omega, by omega, h1, fun i z' hz' hi => ?_, h⟩
   have := zbi sB hi hz hz'
   omega
 ·have e : d = c := by omega
  subst e
  refine z0G (fun q y w => ∃ (j : Nat) (s : Seg), y = ((P.length : Int) + j, ()) ∧ q + j = d ∧ Rw eC z04 2 v (P ++ (B.take j ++ x :: (B.drop j ++ R))) s ∧ St w0 (setN E i s) w) d ⟨0, s, by simp, by omega, by simpa using hr, by rwa [z1F hi]⟩ ?_
  clear hr g0
  clear h; (try clear w)
  rintro q y w ⟨j, s, rfl, hq, hr, h⟩ again hag
  (try dsimp only)
  have hsi : nth (setN E i s) i = some s := z4X hi
  rw [wr (n := (P.length : Int) + 1 + d - 1) (by omega) (by omega)]
  refine it (fun hc => ?_) (fun hc => ?_) <;> (try simp only [zB] at hc)
  ·have hj : j < B.length := by omega
   have hB : B.drop j = B[j] :: B.drop (j + 1) := List.drop_eq_getElem_cons hj
   have tB : B.take (j + 1) = B.take j ++ [B[j]] := by rw [List.take_add_one, List.getElem?_eq_getElem hj]; rfl
   have lB : (B.take j).length = j := by rw [List.length_take]; omega
   generalize B[j] = z at hB tB
   have eD : P ++ (B.take j ++ x :: (B.drop j ++ R)) = (P ++ B.take j) ++ x :: ([] ++ z :: (B.drop (j + 1) ++ R)) := by rw [hB]; simp
   have eD2 : (P ++ B.take j) ++ z :: ([] ++ x :: (B.drop (j + 1) ++ R)) = P ++ (B.take (j + 1) ++ x :: (B.drop (j + 1) ++ R)) := by rw [tB]; simp
   rw [eD] at hr
   obtain ⟨g1, g2, g3, -⟩ := zi0 (Q := P ++ B.take j) (T := []) (U := B.drop (j + 1) ++ R) (x := x) (y := z)
   have l1 : (P ++ B.take j).length = P.length + j := by rw [List.length_append, lB]
   have l2 : (P ++ B.take j).length + (1 + ([] : List (Int × Int)).length) = P.length + j + 1 := by rw [l1]; rfl
   rw [eD2, l2, l1] at g3
   rw [l2] at g2
   rw [l1] at g1
   have i1 : ((P.length : Int) + j).toNat = P.length + j := by omega
   have i2 : ((P.length : Int) + j + 1).toNat = P.length + j + 1 := by omega
   rw [wr (n := (P.length : Int) + j + 1) (by omega) (by omega)]
   refine zlF h i hsi hr (by omega) (by omega) (by rw [i1]; exact g1) (by rw [i2]; exact g2) fun s' w hr h => ?_
   rw [i1, i2, g3] at hr
   rw [z4b] at h
   exact hag (q - 1) _ w (by omega) ⟨j + 1, s', by congr 1, by omega, hr, h⟩
  ·have e : j = d := by omega
   subst e
   refine ⟨(), rfl, hk (B.take j ++ x :: B.drop j) s w ?_ ?_ (by simpa using hr) h⟩
   ·have sB' := sB
    rw [← List.take_append_drop j B] at sB'
    have sB' := List.pairwise_append.1 sB'
    refine List.pairwise_append.2 ⟨sB'.1, List.pairwise_cons.2 ⟨fun z hz => ?_, sB'.2.1⟩, fun z hz y hy => ?_⟩
    ·obtain ⟨i, hi, hz'⟩ := zgv hz
     have q1 := h2 i z hz' hi
     have q2 := hx2 z (List.mem_of_mem_drop hz)
     unfold lexlt; omega
    ·rcases List.mem_cons.1 hy with rfl | hy
     ·obtain ⟨i, hi, hz'⟩ := zgu hz
      exact .inl (h1 i z hz' hi)
     ·exact sB'.2.2 z hz y hy
   ·refine List.perm_middle.trans ?_
    rw [List.take_append_drop]
theorem zmX (h : St w0 E w) (i : Nat) {s : Seg} (hi : nth E i = some s) {v : Sl} {P A R : List (Int × Int)} {y : Int × Int} (hr : Rw eC z04 2 v (P ++ (A ++ (y :: R))) s) (hn : (P ++ (A ++ (y :: R))).length < 1000000000) (hA1 : A.length ≠ 1) (sA : Ls A) (hy2 : ∀ x ∈ A, x.2 < y.2)
  (hby : -4611686018427387904 < y.1 ∧ y.1 < 4611686018427387904) (hb : ∀ x ∈ A, -4611686018427387904 < x.1 ∧ x.1 < 4611686018427387904) {a m b : Int} (ha : a = P.length) (hm : m = P.length + A.length) (hbb : b = P.length + (A.length + 1))
  {k : Unit → PT} (hk : ∀ S s' w', Ls S → S.Perm (A ++ [y]) → Rw eC z04 2 v (P ++ (S ++ R)) s' → St w0 (setN E i s') w' → k () w') :
  L.call Pr z09 [.slice v.a v.len v.cap, I a, I m, I b, cmpV] (.tup []) k w := by
 subst ha hm hbb
 refine z00 (z1a _ _ _ _ ⟨.func z0q, #[], #[]⟩) ?_
 unfold z0K
 simp only [List.length_append, List.length_cons] at hn
 rw [wr (n := (P.length : Int) + A.length - P.length) (by omega) (by omega), wr (n := (P.length : Int) + (A.length + 1) - (P.length + A.length)) (by omega) (by omega)]
 refine itF (by simp; omega) ?_
 refine itT (by simp; omega) ?_
 refine z0G (fun q z w => ∃ c d : Nat, z = ((P.length : Int) + c, (P.length : Int) + d, ()) ∧ q + c = d ∧ c ≤ d ∧ d ≤ A.length ∧ (∀ (i : Nat) z, A[i]? = some z → i < c → ¬ y.1 < z.1) ∧ (∀ (i : Nat) z, A[i]? = some z → d ≤ i → y.1 < z.1) ∧ St w0 E w) A.length
  ⟨0, A.length, by simp, by omega, by omega, by omega, by intros; omega, by
   intro i z hz hi
   have := (List.getElem?_eq_some_iff.1 hz).1
   omega, h⟩ ?_
 clear h; (try clear w)
 rintro q z w ⟨c, d, rfl, hq, hcd, hd, h1, h2, h⟩ again hag
 (try dsimp only)
 have g0 : (P ++ (A ++ (y :: R)))[((P.length : Int) + A.length).toNat]? = some y := by
  have e1 : ((P.length : Int) + A.length).toNat = P.length + A.length := by omega
  rw [e1, ← List.append_assoc, List.getElem?_append_right (by simp)]
  simp
 refine it (fun hc => ?_) (fun hc => ?_) <;> (try simp only [zB] at hc)
 ·have he : ((P.length : Int) + c + ((P.length : Int) + d)) / 2 = (P.length : Int) + (((c + d) / 2 : Nat) : Int) := by omega
  rw [half (by omega) (by omega) (by omega), he]
  obtain ⟨e, hee⟩ : ∃ e, e = (c + d) / 2 := ⟨_, rfl⟩
  rw [← hee]
  have hel : e < A.length := by omega
  have hz : A[e]? = some A[e] := List.getElem?_eq_getElem hel
  have hzm : A[e] ∈ A := List.getElem_mem hel
  generalize A[e] = z at hz hzm
  have g1 : (P ++ (A ++ (y :: R)))[((P.length : Int) + (e : Int)).toNat]? = some z := by
   have e1 : ((P.length : Int) + (e : Int)).toNat = P.length + e := by omega
   rw [e1, List.getElem?_append_right (by omega)]
   have e2 : P.length + e - P.length = e := by omega
   rw [e2, List.getElem?_append_left hel, hz]
  refine gd (by decide) ?_
  refine zg5 h i hi hr (by omega) (by omega) g0 g1 hby (hb z hzm) fun w h => ?_
  refine it (fun hl => ?_) (fun hl => ?_) <;> (try simp only [zB] at hl)
  ·refine hag (d - (e + 1)) _ w (by omega) ⟨e + 1, d, ?_, by omega, by omega, hd, fun i z' hz' hi => ?_, h2, h⟩
   ·rw [wr (by omega) (by omega)]; congr 1
   ·have := zbi sA (by omega) hz' hz
    omega
  ·refine hag (e - c) _ w (by omega) ⟨c, e, rfl, by omega, by omega, by omega, h1, fun i z' hz' hi => ?_, h⟩
   have := zbi sA hi hz hz'
   omega
 ·have e : d = c := by omega
  subst e
  refine z0G (fun q z w => ∃ (j : Nat) (s : Seg), z = ((P.length : Int) + j, ()) ∧ q + d = j ∧ j ≤ A.length ∧ Rw eC z04 2 v (P ++ (A.take j ++ y :: (A.drop j ++ R))) s ∧ St w0 (setN E i s) w) (A.length - d) ⟨A.length, s, by simp, by omega, by omega, by simpa using hr, by rwa [z1F hi]⟩ ?_
  clear hr g0
  clear h; (try clear w)
  rintro q z w ⟨j, s, rfl, hq, hj, hr, h⟩ again hag
  (try dsimp only)
  have hsi : nth (setN E i s) i = some s := z4X hi
  refine it (fun hc => ?_) (fun hc => ?_) <;> (try simp only [zB] at hc)
  ·obtain ⟨j, rfl⟩ : ∃ j', j = j' + 1 := ⟨j - 1, by omega⟩
   have hA : A.drop j = A[j] :: A.drop (j + 1) := List.drop_eq_getElem_cons (by omega)
   have tA : A.take (j + 1) = A.take j ++ [A[j]] := by rw [List.take_add_one, List.getElem?_eq_getElem (by omega)]; rfl
   have lA : (A.take j).length = j := by rw [List.length_take]; omega
   generalize A[j] = x at hA tA
   have eD : P ++ (A.take (j + 1) ++ y :: (A.drop (j + 1) ++ R)) = (P ++ A.take j) ++ x :: ([] ++ y :: (A.drop (j + 1) ++ R)) := by rw [tA]; simp
   have eD2 : (P ++ A.take j) ++ y :: ([] ++ x :: (A.drop (j + 1) ++ R)) = P ++ (A.take j ++ y :: (A.drop j ++ R)) := by rw [hA]; simp
   rw [eD] at hr
   obtain ⟨g1, g2, -, g3⟩ := zi0 (Q := P ++ A.take j) (T := []) (U := A.drop (j + 1) ++ R) (x := x) (y := y)
   have l1 : (P ++ A.take j).length = P.length + j := by rw [List.length_append, lA]
   have l2 : (P ++ A.take j).length + (1 + ([] : List (Int × Int)).length) = P.length + j + 1 := by rw [l1]; rfl
   rw [eD2, l2, l1] at g3
   rw [l2] at g2
   rw [l1] at g1
   have i0 : (P.length : Int) + ((j + 1 : Nat) : Int) - 1 = (P.length : Int) + j := by omega
   have i1 : ((P.length : Int) + j).toNat = P.length + j := by omega
   have i2 : ((P.length : Int) + ((j + 1 : Nat) : Int)).toNat = P.length + j + 1 := by omega
   rw [wr (n := (P.length : Int) + ((j + 1 : Nat) : Int) - 1) (by omega) (by omega), i0]
   refine zlF h i hsi hr (by omega) (by omega) (by rw [i2]; exact g2) (by rw [i1]; exact g1) fun s' w hr h => ?_
   rw [i1, i2, g3] at hr
   rw [z4b] at h
   exact hag (q - 1) _ w (by omega) ⟨j, s', rfl, by omega, by omega, hr, h⟩
  ·have e : j = d := by omega
   subst e
   refine ⟨(), rfl, hk (A.take j ++ y :: A.drop j) s w ?_ ?_ (by simpa using hr) h⟩
   ·have sA' := sA
    rw [← List.take_append_drop j A] at sA'
    have sA' := List.pairwise_append.1 sA'
    refine List.pairwise_append.2 ⟨sA'.1, List.pairwise_cons.2 ⟨fun z hz => ?_, sA'.2.1⟩, fun x hx z hz => ?_⟩
    ·obtain ⟨i, hi, hz'⟩ := zgv hz
     exact .inl (h2 i z hz' hi)
    ·rcases List.mem_cons.1 hz with rfl | hz
     ·obtain ⟨i, hi, hz'⟩ := zgu hx
      have q1 := h1 i x hz' hi
      have q2 := hy2 x (List.mem_of_mem_take hx)
      unfold lexlt; omega
     ·exact sA'.2.2 x hx z hz
   ·refine List.perm_middle.trans ?_
    rw [List.take_append_drop]
    exact (List.perm_append_singleton y A).symm
theorem zlL (h : St w0 E w) (i : Nat) {s : Seg} (hi : nth E i = some s) {v : Sl} {M : List (Int × Int)} (hr : Rw eC z04 2 v M s) (hn : M.length ≤ 20)
  (hb : ∀ x ∈ M, -4611686018427387904 < x.1 ∧ x.1 < 4611686018427387904) {k : Unit → PT} (hk : ∀ s' w', Rw eC z04 2 v (csort M) s' → St w0 (setN E i s') w' → k () w') :
  L.call Pr z0u [.slice v.a v.len v.cap, cmpV] (.tup []) k w := by
 refine z00 (z15 _ ⟨.func z0q, #[], #[]⟩) ?_
 unfold z0F
 refine z00 (z2b _ _ ⟨.func z0q, #[], #[]⟩) ?_
 unfold z1f
 have hlen := Rw.len encC hr
 have hr0 : Rw eC z04 2 v ([] ++ (M ++ [])) s := by simpa using hr
 have fin : ∀ {s' w}, Rw eC z04 2 v (csort M) s' → St w0 (setN E i s') w → L.loop (Y := Int × Unit) (20, ()) (fun y5 again6 =>
   L.ite (decide (y5.1 < ((v.len : Nat) : Int))) (
    L.loop (Y := Int × Int × Unit) (0, IntKind.wrap .i64 (2 * y5.1), ()) fun y7 again8 =>
    L.ite (decide (y7.2.1 ≤ ((v.len : Nat) : Int))) (
     L.call Pr z09 [.slice v.a v.len v.cap, .int .i64 y7.1, .int .i64 (IntKind.wrap .i64 (y7.1 + y5.1)), .int .i64 y7.2.1, cmpV] (.tup []) fun (x9 : Unit) =>
     again8 (y7.2.1, IntKind.wrap .i64 (y7.2.1 + (IntKind.wrap .i64 (2 * y5.1))), ())) <|
    L.join (Y := Unit) (fun k10 =>
     L.ite (decide ((IntKind.wrap .i64 (y7.1 + y5.1)) < ((v.len : Nat) : Int))) (
      L.call Pr z09 [.slice v.a v.len v.cap, .int .i64 y7.1, .int .i64 (IntKind.wrap .i64 (y7.1 + y5.1)), .int .i64 ((v.len : Nat) : Int), cmpV] (.tup []) fun (x12 : Unit) =>
      k10 (())) <|
     k10 (())) fun z11 =>
    again6 (IntKind.wrap .i64 (y5.1 * 2), ())) <|
   fun w => ∃ x : Unit, Value.tuple #[] = RT.val (.tup []) x ∧ ∃ y : Unit, Value.tuple #[] = RT.val (.tup []) y ∧ k y w) w := by
  intro s' w hr h
  refine z0G (fun q y w' => y = (20, ()) ∧ w' = w) 0 ⟨rfl, rfl⟩ ?_
  rintro q y w' ⟨rfl, rfl⟩ again hag
  refine itF (decide_eq_false (by dsimp only; omega)) ?_
  exact ⟨(), rfl, (), rfl, hk s' _ hr h⟩
 refine z0G (fun q y w => (q = 1 ∧ y = (0, 20, ()) ∧ St w0 E w) ∨ (q = 0 ∧ y = (20, 40, ()) ∧ M.length = 20 ∧ ∃ s', Rw eC z04 2 v (csort M) s' ∧ St w0 (setN E i s') w)) 1 (.inl ⟨rfl, rfl, h⟩) ?_
 clear h
 rintro q y w (⟨rfl, rfl, h⟩ | ⟨rfl, rfl, h20, s', hr', h⟩) again hag <;> dsimp only
 ·refine it (fun hc => ?_) (fun hc => ?_) <;> (try simp only [zB] at hc)
  ·refine zf0 (P := []) (M := M) (R := []) h i hi hr0 (by simp; omega) hb (by rfl) (by simp; omega) fun s' w hr' h => ?_
   rw [wr (by omega) (by omega)]
   exact hag 0 _ w (by omega) (.inr ⟨rfl, rfl, by omega, s', by simpa using hr', h⟩)
  ·refine zf0 (P := []) (M := M) (R := []) h i hi hr0 (by simp; omega) hb (by rfl) (by simp; omega) fun s' w hr' h => ?_
   exact fin (by simpa using hr') h
 ·refine itF (decide_eq_false (by omega)) ?_
  refine zf0 (P := csort M) (M := []) (R := []) h i (z4X hi) (by simpa using hr') (by simp [z1O]; omega) (by simp) (by rw [z1O]; omega) (by rw [z1O]; simp; omega) fun s' w hr' h => ?_
  rw [z4b] at h
  exact fin (by simpa [csort] using hr') h
theorem zeO {p : Int × Int → Bool} {c : Int × Int} : ∀ {l : List (Int × Int)}, l.Pairwise (fun a b => a.1 ≤ b.1) →
  (insC c l).find? p = match l.find? p with | none => if p c = true then some c else none | some y => if p c = true ∧ c.1 < y.1 then some c else some y
 | [], _ => by by_cases h : p c = true <;> simp [insC, h]
 | y :: l, hp => by
  rw [List.pairwise_cons] at hp
  simp only [insC]
  split
  ·rename_i hlt
   by_cases h : p c = true
   ·rw [List.find?_cons_of_pos h]
    cases hf : (y :: l).find? p with
    | none => simp [h]
    | some z =>
     have hz : c.1 < z.1 := by
      rcases List.mem_cons.1 (List.mem_of_find?_eq_some hf) with rfl | hz
      ·exact hlt
      ·have := hp.1 z hz; omega
     simp [h, hz]
   ·rw [List.find?_cons_of_neg h]
    cases hf : (y :: l).find? p <;> simp [h]
  ·rename_i hlt
   by_cases hy : p y = true
   ·rw [List.find?_cons_of_pos hy, List.find?_cons_of_pos hy]
    simp [hlt]
   ·rw [List.find?_cons_of_neg hy, List.find?_cons_of_neg hy]
    exact zeO hp.2
def can (x : AHeld) : Bool := decide (x.pod.st = 2 ∧ (x.pod.reqs.length : Int) < x.pod.conc)
def pickStep (b : Option AHeld) (x : AHeld) : Option AHeld := match b with
 | none => if can x = true then some x else none
 | some y => if can x = true ∧ x.pod.reqs.length < y.pod.reqs.length then some x else some y
def fPick (l : List AHeld) (rev : ByteArray) : Option AHeld := (revs l rev).foldl pickStep none
def key (x : AHeld) : Int × Int := (x.pod.reqs.length, x.id)
theorem zeN {p : Int × Int → Bool} : ∀ (n : Nat) {R : List AHeld}, R.length = n → (∀ x ∈ R, p (key x) = can x) → (csort (R.map key)).find? p = (R.foldl pickStep none).map key
 | 0, R, hn, _ => by
  have := List.eq_nil_of_length_eq_zero hn
  subst this; rfl
 | n + 1, R, hn, h => by
  obtain ⟨R', x, rfl⟩ : ∃ R' x, R = R' ++ [x] := ⟨R.dropLast, R.getLast (by intro e; subst e; simp at hn), (List.dropLast_concat_getLast _).symm⟩
  have ih := zeN (p := p) n (R := R') (by simpa using hn) fun y hy => h y (by simp [hy])
  have hx := h x (by simp)
  have e : csort ((R' ++ [x]).map key) = insC (key x) (csort (R'.map key)) := by simp [csort, List.foldl_append]
  rw [e, zeO (zgU _), ih, List.foldl_append]
  simp only [List.foldl_cons, List.foldl_nil]
  cases R'.foldl pickStep none with
  | none => simp only [Option.map_none, pickStep, hx]; split <;> rfl
  | some y =>
   simp only [Option.map_some, pickStep, hx]
   by_cases hc : can x = true ∧ x.pod.reqs.length < y.pod.reqs.length
   ·rw [if_pos hc, if_pos ⟨hc.1, by simp only [key]; omega⟩]; rfl
   ·rw [if_neg hc, if_neg (fun hh => hc ⟨hh.1, by have := hh.2; simp only [key] at this; omega⟩)]; rfl
theorem AFleet.Ok.where_upd {F : AFleet} (ok : F.Ok) {id : Int} {x : AHeld} (hx : fFind F.l id = some x) (g : APod → APod) (hq : ∀ q ∈ (g x.pod).reqs, q ∈ x.pod.reqs ∨ fWhere F.l q = none)
  (h4 : (g x.pod).st = 4 → (g x.pod).reqs = []) (q : Int) : (fWhere (fUpd F.l id g) q).map (·.id) = if q ∈ (g x.pod).reqs then some id else if q ∈ x.pod.reqs then none else (fWhere F.l q).map (·.id) := by
 obtain ⟨hm, rfl⟩ := z3v hx
 obtain ⟨A, B, hl⟩ := List.append_of_mem hm
 have pw := ok.pw
 have once := ok.once
 have hno : fWhere F.l q = none → ∀ y ∈ A ++ x :: B, q ∉ y.pod.reqs := fun h => by rw [hl] at h; exact z6W h
 have hq := hq q
 rw [hl] at pw once ⊢
 rw [List.pairwise_append, List.pairwise_cons] at once
 rw [zaK pw]
 have hA : (q ∈ x.pod.reqs ∨ q ∈ (g x.pod).reqs) → ∀ y ∈ A, q ∉ y.pod.reqs := fun h y hy hqy => by
  have h : q ∈ x.pod.reqs ∨ fWhere F.l q = none := h.elim .inl fun h => hq h
  rcases h with h | h
  ·exact once.2.2 y hy x (by simp) q hqy h
  ·exact hno h y (by simp [hy]) hqy
 have hB : (q ∈ x.pod.reqs ∨ q ∈ (g x.pod).reqs) → ∀ y ∈ B, q ∉ y.pod.reqs := fun h y hy hqy => by
  have h : q ∈ x.pod.reqs ∨ fWhere F.l q = none := h.elim .inl fun h => hq h
  rcases h with h | h
  ·exact once.2.1.1 y hy q h hqy
  ·exact hno h y (by simp [hy]) hqy
 have fn : ∀ {l : List AHeld}, (∀ y ∈ l, q ∉ y.pod.reqs) → List.find? (fun x => decide (q ∈ x.pod.reqs)) l = none := fun h => by
  rw [List.find?_eq_none]; exact fun y hy => by simpa using h y hy
 unfold fWhere
 simp only [List.find?_append]
 by_cases h1 : q ∈ (g x.pod).reqs
 ·rw [if_pos h1, fn (hA (.inr h1)), Option.none_or]
  have : (g x.pod).st ≠ 4 := fun e => by rw [h4 e] at h1; simp at h1
  rw [if_neg this, List.find?_cons_of_pos (by simpa using h1)]
  rfl
 ·rw [if_neg h1]
  have hg : List.find? (fun x => decide (q ∈ x.pod.reqs)) (if (g x.pod).st = 4 then [] else [{ x with pod := g x.pod }]) = none := by
   split
   ·rfl
   ·rw [List.find?_cons_of_neg (by simpa using h1)]; rfl
  rw [hg, Option.none_or]
  by_cases h2 : q ∈ x.pod.reqs
  ·rw [if_pos h2, fn (hA (.inl h2)), fn (hB (.inl h2))]; rfl
  ·rw [if_neg h2, List.find?_cons_of_neg (by simpa using h2)]
end Go.Proofs.YtkmalcoocklikaaGreatDoor
