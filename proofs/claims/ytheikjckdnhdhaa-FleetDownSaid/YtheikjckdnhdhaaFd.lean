/- Contracts of functions, and walks of laws (text Fd). No conditions beyond those its theorems state. -/
import Derived.Test.YtheikjckdnhdhaaFc
set_option linter.all false
namespace Go.Proofs.Ytheikjckdnhdhaa
open Go.Dm
attribute [local irreducible] L.load L.store L.chk L.new L.nonnil L.guard L.ite L.draw L.idx L.sem L.semR L.semU L.chkSem L.next L.call L.callV L.join L.alts L.loop L.begin L.endRound L.range
variable {w0 w : World} {E : List Seg}
/-! ### more, and fewer -/
def grow1 (rev : ByteArray) (conc : Int) (F : AFleet) : AFleet := { F with l := F.l ++ [⟨F.last + 1, rev, ⟨1, conc, []⟩⟩], last := F.last + 1 }
def grow (rev : ByteArray) (conc : Int) : Nat → AFleet → AFleet
  | 0, F => F
  | n + 1, F => grow1 rev conc (grow rev conc n F)
def drain1 (rev : ByteArray) (F : AFleet) : AFleet := { F with l := fUpd F.l (fSpare F.l rev) fun p => (podDrain p).1 }
def shrink (rev : ByteArray) : Nat → AFleet → AFleet × List Int
  | 0, F => (F, [])
  | n + 1, F => ((shrink rev n (drain1 rev F)).1, fSpare F.l rev :: (shrink rev n (drain1 rev F)).2)
def growN (F : AFleet) (rev : ByteArray) (want : Int) : Nat := (min (want - fCount F.l rev) (F.room - F.l.length)).toNat
def shrinkN (F : AFleet) (rev : ByteArray) (want : Int) : Nat := ((fCount F.l rev : Int) - max want 0).toNat
def fGrown (F : AFleet) (rev : ByteArray) (conc want : Int) : AFleet := grow rev conc (growN F rev want) F
def fMade (F : AFleet) (rev : ByteArray) (want : Int) : List Int := (List.range (growN F rev want)).map fun j : Nat => F.last + 1 + (j : Int)
def fScale (F : AFleet) (rev : ByteArray) (conc want : Int) : AFleet × List Int := shrink rev (shrinkN (fGrown F rev conc want) rev want) (fGrown F rev conc want)
section
variable {F : AFleet} {rev : ByteArray} {conc : Int}
theorem grow_last (n : Nat) : (grow rev conc n F).last = F.last + n := by
  induction n with
  | zero => simp [grow]
  | succ n ih => simp only [grow, grow1, ih]; omega
theorem grow_room (n : Nat) : (grow rev conc n F).room = F.room := by
  induction n with
  | zero => rfl
  | succ n ih => simp only [grow, grow1, ih]
theorem grow_len (n : Nat) : (grow rev conc n F).l.length = F.l.length + n := by
  induction n with
  | zero => rfl
  | succ n ih => simp only [grow, grow1, List.length_append, ih, List.length_singleton]; omega
theorem revs_app (a b : List AHeld) : revs (a ++ b) rev = revs a rev ++ revs b rev := List.filter_append ..
theorem fCount_app (a b : List AHeld) : fCount (a ++ b) rev = fCount a rev + fCount b rev := by
  unfold fCount; rw [revs_app, List.filter_append, List.length_append]
theorem fCount_le (l : List AHeld) : fCount l rev ≤ l.length := Nat.le_trans (List.length_filter_le ..) (List.length_filter_le ..)
theorem grow_count (n : Nat) : fCount (grow rev conc n F).l rev = fCount F.l rev + n := by
  induction n with
  | zero => rfl
  | succ n ih =>
    simp only [grow, grow1]
    rw [fCount_app, ih]
    have : fCount [(⟨(grow rev conc n F).last + 1, rev, ⟨1, conc, []⟩⟩ : AHeld)] rev = 1 := by simp [fCount, revs, isUp]
    rw [this]; rfl
theorem grow1_ok (ok : F.Ok) (h1 : F.l.length + 1 < 100000000) (h2 : F.last + 1 < 4611686018427387904) : (grow1 rev conc F).Ok := by
  have lo := ok.lo
  refine ⟨?_, ?_, ?_, ?_, ?_, ?_, h2⟩
  · simp only [grow1, List.pairwise_append, List.pairwise_singleton, List.mem_singleton]
    exact ⟨ok.pw, trivial, fun a ha b hb => by subst hb; have := (ok.rng a ha).2; simp only; omega⟩
  · intro x hx
    simp only [grow1, List.mem_append, List.mem_singleton] at hx ⊢
    rcases hx with hx | rfl
    · have := ok.rng x hx; omega
    · simp only; omega
  · intro x hx
    simp only [grow1, List.mem_append, List.mem_singleton] at hx
    rcases hx with hx | rfl
    · exact ok.live x hx
    · simp
  · simp only [grow1, List.pairwise_append, List.pairwise_singleton, List.mem_singleton]
    exact ⟨ok.once, trivial, fun a ha b hb q hq1 hq2 => by subst hb; simp at hq2⟩
  · simp only [grow1, List.length_append, List.length_singleton]; exact h1
  · simp only [grow1]; omega
theorem fWhere_app (l : List AHeld) (x : AHeld) (hx : x.pod.reqs = []) (q : Int) : fWhere (l ++ [x]) q = fWhere l q := by
  unfold fWhere
  rw [List.find?_append, List.find?_cons_of_neg (by simp [hx])]
  simp
/-! what is drained first -/
def SpOk (l : List AHeld) (a : Int × Int × Int) : Prop := (a = (0, 3, 0) ∧ ∀ y ∈ l, isUp y = false) ∨ ∃ x ∈ l, a = (x.id, x.pod.st, (x.pod.reqs.length : Int)) ∧ isUp x = true
theorem SpOk.step {l : List AHeld} {a : Int × Int × Int} {x : AHeld} (h : SpOk l a) (hx : x.pod.st = 1 ∨ x.pod.st = 2 ∨ x.pod.st = 3) : SpOk (l ++ [x]) (spStep a x) := by
  unfold spStep
  by_cases h3 : x.pod.st = 3
  · rw [if_pos h3]
    rcases h with ⟨rfl, h⟩ | ⟨y, hy, h⟩
    · refine .inl ⟨rfl, fun y hy => ?_⟩
      rcases List.mem_append.1 hy with hy | hy
      · exact h y hy
      · simp at hy; subst hy; simp [isUp, h3]
    · exact .inr ⟨y, by simp [hy], h⟩
  · rw [if_neg h3]
    have hup : isUp x = true := by simp [isUp, h3]
    by_cases hc : x.pod.st < a.2.1 ∨ (x.pod.st = a.2.1 ∧ (x.pod.reqs.length : Int) ≤ a.2.2)
    · rw [if_pos hc]; exact .inr ⟨x, by simp, rfl, hup⟩
    · rw [if_neg hc]
      rcases h with ⟨rfl, h⟩ | ⟨y, hy, h⟩
      · exact absurd (.inl (by simp only; omega)) hc
      · exact .inr ⟨y, by simp [hy], h⟩
theorem SpOk.all : ∀ {l2 l1 : List AHeld} {a : Int × Int × Int}, SpOk l1 a → (∀ x ∈ l2, x.pod.st = 1 ∨ x.pod.st = 2 ∨ x.pod.st = 3) → SpOk (l1 ++ l2) (l2.foldl spStep a)
  | [], l1, a, h, _ => by simpa using h
  | x :: l2, l1, a, h, hx => by
    have := SpOk.all (l2 := l2) (h.step (hx x (by simp))) (fun y hy => hx y (by simp [hy]))
    simpa using this
theorem spare_mem (ok : F.Ok) (hc : 0 < fCount F.l rev) : ∃ x, fFind F.l (fSpare F.l rev) = some x ∧ x.rev = rev ∧ (x.pod.st = 1 ∨ x.pod.st = 2) := by
  have hr : ∀ x ∈ revs F.l rev, x ∈ F.l ∧ x.rev = rev := fun x hx => ⟨(List.mem_filter.1 hx).1, of_decide_eq_true (List.mem_filter.1 hx).2⟩
  have h := SpOk.all (l1 := []) (a := (0, 3, 0)) (l2 := revs F.l rev) (.inl ⟨rfl, by simp⟩) fun x hx => ok.live x (hr x hx).1
  rw [List.nil_append] at h
  rcases h with ⟨-, h⟩ | ⟨x, hx, ha, hup⟩
  · exfalso
    unfold fCount at hc
    rw [List.filter_eq_nil_iff.2 (fun y hy => by simp [h y hy])] at hc
    simp at hc
  · refine ⟨x, ?_, (hr x hx).2, ?_⟩
    · unfold fSpare; rw [ha]; exact fFind_of ok.pw (hr x hx).1
    · have := ok.live x (hr x hx).1
      have : x.pod.st ≠ 3 := of_decide_eq_true hup
      omega
theorem drain_eq {p : APod} (h : p.st = 1 ∨ p.st = 2) : (podDrain p).1 = { p with st := if p.reqs = [] then 4 else 3 } := by
  unfold podDrain; rw [if_neg (by omega)]
theorem drain1_ok (ok : F.Ok) (hc : 0 < fCount F.l rev) : (drain1 rev F).Ok := by
  obtain ⟨x, hx, -, hst⟩ := spare_mem ok hc
  refine ok.upd hx _ ?_ ?_
  · rw [drain_eq hst]; simp only; split <;> simp
  · rw [drain_eq hst]; exact fun q hq => .inl hq
theorem drain1_count (ok : F.Ok) (hc : 0 < fCount F.l rev) : fCount (drain1 rev F).l rev + 1 = fCount F.l rev := by
  obtain ⟨x, hx, hrev, hst⟩ := spare_mem ok hc
  obtain ⟨hm, hid⟩ := fFind_some hx
  obtain ⟨A, B, hl⟩ := List.append_of_mem hm
  have pw := ok.pw
  show fCount (fUpd F.l (fSpare F.l rev) fun p => (podDrain p).1) rev + 1 = _
  rw [← hid]
  rw [hl] at pw ⊢
  rw [fUpd_at pw, fCount_app, fCount_app, fCount_app, show x :: B = [x] ++ B from rfl, fCount_app, drain_eq hst]
  have h1 : fCount [x] rev = 1 := by
    have : x.pod.st ≠ 3 := by omega
    simp [fCount, revs, isUp, hrev, this]
  have h2 : fCount (if (if x.pod.reqs = [] then (4 : Int) else 3) = 4 then [] else [({ x with pod := { x.pod with st := if x.pod.reqs = [] then 4 else 3 } } : AHeld)]) rev = 0 := by
    by_cases hq : x.pod.reqs = []
    · simp [hq, fCount, revs]
    · simp [hq, fCount, revs, hrev, isUp]
  simp only at h2 ⊢
  rw [h1, h2]; omega
end
theorem S_fScale (h : St w0 E w) (i : Nat) {b : Nat} {F : AFleet} {s : Seg} (hi : nth E i = some s) (hf : FlS b F s) {rev : ByteArray} {conc want : Int} (hroom : F.room < 100000000) (hlast : F.last + F.room < 4611686018427387904) {k : Sl × Sl × Unit → PT}
    (hk : ∀ v1 v2 s' s1 s2 w', FlS b (fScale F rev conc want).1 s' → Rw eI T_int 1 v1 (fMade F rev want) s1 → Rw eI T_int 1 v2 (fScale F rev conc want).2 s2 → St w0 (s2 :: s1 :: setN E i s') w' → k (v1, v2, ()) w') :
    L.call Pr n_fleet_Fleet_Scale [.pointer (some ⟨b, 0, none⟩), .string rev, I conc, I want] (.tup [.one .slice, .one .slice]) k w := by
  have hfew := hf.1.few
  have hcl := fCount_le F.l (rev := rev)
  refine call_of (C_fleet_Fleet_Scale _ _ _ _) ?_
  unfold F_fleet_Fleet_Scale
  refine S_fup h i hi hf fun w h => ?_
  have h := h.front i hi
  have hg : (growN F rev want : Int) = max 0 (min (want - fCount F.l rev) (F.room - F.l.length)) := by unfold growN; omega
  refine join_of (fun z w => ∃ v sv s, z = (v, ((fCount F.l rev + growN F rev want : Nat) : Int), ()) ∧ FlS b (fGrown F rev conc want) s ∧ Rw eI T_int 1 v (fMade F rev want) sv ∧ St w0 (s :: sv :: delN E i) w) (fun k2 hk2 => ?_) ?_
  · refine loop_of (fun q y w => ∃ (j : Nat) (v : Sl) (sv s : Seg), y = (v, ((fCount F.l rev + j : Nat) : Int), ()) ∧ q + j = growN F rev want ∧ FlS b (grow rev conc j F) s ∧ Rw eI T_int 1 v ((List.range j).map fun j : Nat => F.last + 1 + (j : Int)) sv ∧ St w0 (s :: sv :: delN E i) w)
      (growN F rev want) ⟨0, ⟨none, 0, 0⟩, [], s, rfl, rfl, hf, Rw.nil, h.eq (by simp)⟩ ?_
    clear hf
    clear h; (try clear w)
    rintro q y w ⟨j, v, sv, s, rfl, hq, hf, hv, h⟩ again hag
    dsimp only
    have hf' := hf
    obtain ⟨ok, rA, rW, mA, mW, sA, sW, L, hA, hW, hr, rfl⟩ := hf
    have hlj := grow_len (F := F) (rev := rev) (conc := conc) j
    have hla := grow_last (F := F) (rev := rev) (conc := conc) j
    have hro := grow_room (F := F) (rev := rev) (conc := conc) j
    have lo := ok.lo
    have h : St w0 (flB b rA rW (grow rev conc j F) :: sA :: sW :: (L.map trS).flatten :: sv :: delN E i) w := h.eq (by simp)
    have stop : ∀ {w}, j = growN F rev want → St w0 (flB b rA rW (grow rev conc j F) :: sA :: sW :: (L.map trS).flatten :: sv :: delN E i) w → k2 (v, ((fCount F.l rev + j : Nat) : Int), ()) w := by
      rintro w rfl h
      exact hk2 _ w ⟨v, sv, _, rfl, hf', hv, h.eq (by simp)⟩
    (repeat (first | refine nn ?_ | (refine dr h ?_; clear h; (try clear w); intro w h) | refine ld0_ h rfl rfl ?_ | refine ld1_ h rfl rfl ?_ | refine ld2_ h rfl rfl ?_ | refine ld3_ h rfl rfl ?_ | refine ld4_ h rfl rfl ?_ | refine ld5_ h rfl rfl ?_ | refine ld6_ h rfl rfl ?_ | refine ld7_ h rfl rfl ?_ | refine ld8_ h rfl rfl ?_ | refine ld9_ h rfl rfl ?_ | refine ld10_ h rfl rfl ?_ | refine ld11_ h rfl rfl ?_ | refine la0_ h rfl ?_ | refine la1_ h rfl ?_ | refine la2_ h rfl ?_ | refine la3_ h rfl ?_ | refine la4_ h rfl ?_ | refine la5_ h rfl ?_ | refine la6_ h rfl ?_ | refine la7_ h rfl ?_ | refine la8_ h rfl ?_ | refine la9_ h rfl ?_ | refine la10_ h rfl ?_ | refine la11_ h rfl ?_ | refine ck0_ h rfl ?_ | refine ck1_ h rfl ?_ | refine ck2_ h rfl ?_ | refine ck3_ h rfl ?_ | refine ck4_ h rfl ?_ | refine ck5_ h rfl ?_ | refine ck6_ h rfl ?_ | refine ck7_ h rfl ?_ | refine ck8_ h rfl ?_ | refine ck9_ h rfl ?_ | refine ck10_ h rfl ?_ | refine ck11_ h rfl ?_ | ((first | refine st0_ h rfl rfl ?_ | refine st1_ h rfl rfl ?_ | refine st2_ h rfl rfl ?_ | refine st3_ h rfl rfl ?_ | refine st4_ h rfl rfl ?_ | refine st5_ h rfl rfl ?_ | refine st6_ h rfl rfl ?_ | refine st7_ h rfl rfl ?_ | refine st8_ h rfl rfl ?_ | refine st9_ h rfl rfl ?_ | refine st10_ h rfl rfl ?_ | refine st11_ h rfl rfl ?_); clear h; (try clear w); intro w h; (try dsimp only [putN, setN] at h))))
    refine it (fun hc => ?_) (fun hc => ?_) <;> (try simp only [decide_eq_true_eq, decide_eq_false_iff_not, beq_iff_eq, bne_iff_ne, beq_eq_false_iff_ne, bne_eq_false_iff_eq, Bool.not_eq_true', Bool.not_eq_false', ne_eq, Bool.not_eq_true, Bool.not_eq_false] at hc)
    · (repeat (first | refine nn ?_ | (refine dr h ?_; clear h; (try clear w); intro w h) | refine ld0_ h rfl rfl ?_ | refine ld1_ h rfl rfl ?_ | refine ld2_ h rfl rfl ?_ | refine ld3_ h rfl rfl ?_ | refine ld4_ h rfl rfl ?_ | refine ld5_ h rfl rfl ?_ | refine ld6_ h rfl rfl ?_ | refine ld7_ h rfl rfl ?_ | refine ld8_ h rfl rfl ?_ | refine ld9_ h rfl rfl ?_ | refine ld10_ h rfl rfl ?_ | refine ld11_ h rfl rfl ?_ | refine la0_ h rfl ?_ | refine la1_ h rfl ?_ | refine la2_ h rfl ?_ | refine la3_ h rfl ?_ | refine la4_ h rfl ?_ | refine la5_ h rfl ?_ | refine la6_ h rfl ?_ | refine la7_ h rfl ?_ | refine la8_ h rfl ?_ | refine la9_ h rfl ?_ | refine la10_ h rfl ?_ | refine la11_ h rfl ?_ | refine ck0_ h rfl ?_ | refine ck1_ h rfl ?_ | refine ck2_ h rfl ?_ | refine ck3_ h rfl ?_ | refine ck4_ h rfl ?_ | refine ck5_ h rfl ?_ | refine ck6_ h rfl ?_ | refine ck7_ h rfl ?_ | refine ck8_ h rfl ?_ | refine ck9_ h rfl ?_ | refine ck10_ h rfl ?_ | refine ck11_ h rfl ?_ | ((first | refine st0_ h rfl rfl ?_ | refine st1_ h rfl rfl ?_ | refine st2_ h rfl rfl ?_ | refine st3_ h rfl rfl ?_ | refine st4_ h rfl rfl ?_ | refine st5_ h rfl rfl ?_ | refine st6_ h rfl rfl ?_ | refine st7_ h rfl rfl ?_ | refine st8_ h rfl rfl ?_ | refine st9_ h rfl rfl ?_ | refine st10_ h rfl rfl ?_ | refine st11_ h rfl rfl ?_); clear h; (try clear w); intro w h; (try dsimp only [putN, setN] at h))))
      refine MpS.len und_map_o h 1 rfl hA ?_
      rw [hr.len, hlj]
      (repeat (first | refine nn ?_ | (refine dr h ?_; clear h; (try clear w); intro w h) | refine ld0_ h rfl rfl ?_ | refine ld1_ h rfl rfl ?_ | refine ld2_ h rfl rfl ?_ | refine ld3_ h rfl rfl ?_ | refine ld4_ h rfl rfl ?_ | refine ld5_ h rfl rfl ?_ | refine ld6_ h rfl rfl ?_ | refine ld7_ h rfl rfl ?_ | refine ld8_ h rfl rfl ?_ | refine ld9_ h rfl rfl ?_ | refine ld10_ h rfl rfl ?_ | refine ld11_ h rfl rfl ?_ | refine la0_ h rfl ?_ | refine la1_ h rfl ?_ | refine la2_ h rfl ?_ | refine la3_ h rfl ?_ | refine la4_ h rfl ?_ | refine la5_ h rfl ?_ | refine la6_ h rfl ?_ | refine la7_ h rfl ?_ | refine la8_ h rfl ?_ | refine la9_ h rfl ?_ | refine la10_ h rfl ?_ | refine la11_ h rfl ?_ | refine ck0_ h rfl ?_ | refine ck1_ h rfl ?_ | refine ck2_ h rfl ?_ | refine ck3_ h rfl ?_ | refine ck4_ h rfl ?_ | refine ck5_ h rfl ?_ | refine ck6_ h rfl ?_ | refine ck7_ h rfl ?_ | refine ck8_ h rfl ?_ | refine ck9_ h rfl ?_ | refine ck10_ h rfl ?_ | refine ck11_ h rfl ?_ | ((first | refine st0_ h rfl rfl ?_ | refine st1_ h rfl rfl ?_ | refine st2_ h rfl rfl ?_ | refine st3_ h rfl rfl ?_ | refine st4_ h rfl rfl ?_ | refine st5_ h rfl rfl ?_ | refine st6_ h rfl rfl ?_ | refine st7_ h rfl rfl ?_ | refine st8_ h rfl rfl ?_ | refine st9_ h rfl rfl ?_ | refine st10_ h rfl rfl ?_ | refine st11_ h rfl rfl ?_); clear h; (try clear w); intro w h; (try dsimp only [putN, setN] at h))))
      refine it (fun hd => ?_) (fun hd => ?_) <;> (try simp only [decide_eq_true_eq, decide_eq_false_iff_not, beq_iff_eq, bne_iff_ne, beq_eq_false_iff_ne, bne_eq_false_iff_eq, Bool.not_eq_true', Bool.not_eq_false', ne_eq, Bool.not_eq_true, Bool.not_eq_false] at hd)
      · (repeat (first | refine nn ?_ | (refine dr h ?_; clear h; (try clear w); intro w h) | refine ld0_ h rfl rfl ?_ | refine ld1_ h rfl rfl ?_ | refine ld2_ h rfl rfl ?_ | refine ld3_ h rfl rfl ?_ | refine ld4_ h rfl rfl ?_ | refine ld5_ h rfl rfl ?_ | refine ld6_ h rfl rfl ?_ | refine ld7_ h rfl rfl ?_ | refine ld8_ h rfl rfl ?_ | refine ld9_ h rfl rfl ?_ | refine ld10_ h rfl rfl ?_ | refine ld11_ h rfl rfl ?_ | refine la0_ h rfl ?_ | refine la1_ h rfl ?_ | refine la2_ h rfl ?_ | refine la3_ h rfl ?_ | refine la4_ h rfl ?_ | refine la5_ h rfl ?_ | refine la6_ h rfl ?_ | refine la7_ h rfl ?_ | refine la8_ h rfl ?_ | refine la9_ h rfl ?_ | refine la10_ h rfl ?_ | refine la11_ h rfl ?_ | refine ck0_ h rfl ?_ | refine ck1_ h rfl ?_ | refine ck2_ h rfl ?_ | refine ck3_ h rfl ?_ | refine ck4_ h rfl ?_ | refine ck5_ h rfl ?_ | refine ck6_ h rfl ?_ | refine ck7_ h rfl ?_ | refine ck8_ h rfl ?_ | refine ck9_ h rfl ?_ | refine ck10_ h rfl ?_ | refine ck11_ h rfl ?_ | ((first | refine st0_ h rfl rfl ?_ | refine st1_ h rfl rfl ?_ | refine st2_ h rfl rfl ?_ | refine st3_ h rfl rfl ?_ | refine st4_ h rfl rfl ?_ | refine st5_ h rfl rfl ?_ | refine st6_ h rfl rfl ?_ | refine st7_ h rfl rfl ?_ | refine st8_ h rfl rfl ?_ | refine st9_ h rfl rfl ?_ | refine st10_ h rfl rfl ?_ | refine st11_ h rfl rfl ?_); clear h; (try clear w); intro w h; (try dsimp only [putN, setN] at h))))
        refine S_pNew h fun b' s' w hp h => ?_
        rw [wr (by omega) (by omega)] at h
        rw [wr (by omega) (by omega)]
        (repeat (first | refine nn ?_ | (refine dr h ?_; clear h; (try clear w); intro w h) | refine ld0_ h rfl rfl ?_ | refine ld1_ h rfl rfl ?_ | refine ld2_ h rfl rfl ?_ | refine ld3_ h rfl rfl ?_ | refine ld4_ h rfl rfl ?_ | refine ld5_ h rfl rfl ?_ | refine ld6_ h rfl rfl ?_ | refine ld7_ h rfl rfl ?_ | refine ld8_ h rfl rfl ?_ | refine ld9_ h rfl rfl ?_ | refine ld10_ h rfl rfl ?_ | refine ld11_ h rfl rfl ?_ | refine la0_ h rfl ?_ | refine la1_ h rfl ?_ | refine la2_ h rfl ?_ | refine la3_ h rfl ?_ | refine la4_ h rfl ?_ | refine la5_ h rfl ?_ | refine la6_ h rfl ?_ | refine la7_ h rfl ?_ | refine la8_ h rfl ?_ | refine la9_ h rfl ?_ | refine la10_ h rfl ?_ | refine la11_ h rfl ?_ | refine ck0_ h rfl ?_ | refine ck1_ h rfl ?_ | refine ck2_ h rfl ?_ | refine ck3_ h rfl ?_ | refine ck4_ h rfl ?_ | refine ck5_ h rfl ?_ | refine ck6_ h rfl ?_ | refine ck7_ h rfl ?_ | refine ck8_ h rfl ?_ | refine ck9_ h rfl ?_ | refine ck10_ h rfl ?_ | refine ck11_ h rfl ?_ | ((first | refine st0_ h rfl rfl ?_ | refine st1_ h rfl rfl ?_ | refine st2_ h rfl rfl ?_ | refine st3_ h rfl rfl ?_ | refine st4_ h rfl rfl ?_ | refine st5_ h rfl rfl ?_ | refine st6_ h rfl rfl ?_ | refine st7_ h rfl rfl ?_ | refine st8_ h rfl rfl ?_ | refine st9_ h rfl rfl ?_ | refine st10_ h rfl rfl ?_ | refine st11_ h rfl rfl ?_); clear h; (try clear w); intro w h; (try dsimp only [putN, setN] at h))))
        refine MpS.set mkI und_map_o h 2 rfl hA (rev, some ⟨b', 0, none⟩) rfl fun sA' w hA' h => ?_
        (repeat (first | refine nn ?_ | (refine dr h ?_; clear h; (try clear w); intro w h) | refine ld0_ h rfl rfl ?_ | refine ld1_ h rfl rfl ?_ | refine ld2_ h rfl rfl ?_ | refine ld3_ h rfl rfl ?_ | refine ld4_ h rfl rfl ?_ | refine ld5_ h rfl rfl ?_ | refine ld6_ h rfl rfl ?_ | refine ld7_ h rfl rfl ?_ | refine ld8_ h rfl rfl ?_ | refine ld9_ h rfl rfl ?_ | refine ld10_ h rfl rfl ?_ | refine ld11_ h rfl rfl ?_ | refine la0_ h rfl ?_ | refine la1_ h rfl ?_ | refine la2_ h rfl ?_ | refine la3_ h rfl ?_ | refine la4_ h rfl ?_ | refine la5_ h rfl ?_ | refine la6_ h rfl ?_ | refine la7_ h rfl ?_ | refine la8_ h rfl ?_ | refine la9_ h rfl ?_ | refine la10_ h rfl ?_ | refine la11_ h rfl ?_ | refine ck0_ h rfl ?_ | refine ck1_ h rfl ?_ | refine ck2_ h rfl ?_ | refine ck3_ h rfl ?_ | refine ck4_ h rfl ?_ | refine ck5_ h rfl ?_ | refine ck6_ h rfl ?_ | refine ck7_ h rfl ?_ | refine ck8_ h rfl ?_ | refine ck9_ h rfl ?_ | refine ck10_ h rfl ?_ | refine ck11_ h rfl ?_ | ((first | refine st0_ h rfl rfl ?_ | refine st1_ h rfl rfl ?_ | refine st2_ h rfl rfl ?_ | refine st3_ h rfl rfl ?_ | refine st4_ h rfl rfl ?_ | refine st5_ h rfl rfl ?_ | refine st6_ h rfl rfl ?_ | refine st7_ h rfl rfl ?_ | refine st8_ h rfl rfl ?_ | refine st9_ h rfl rfl ?_ | refine st10_ h rfl rfl ?_ | refine st11_ h rfl rfl ?_); clear h; (try clear w); intro w h; (try dsimp only [putN, setN] at h))))
        refine nw h ?_; clear h; (try clear w); intro b21 w h
        refine Rw.app encI elI h 5 rfl hv (F.last + 1 + (j : Int)) (by rw [hla, eI]; congr 2; omega) (by simp; omega) (by simp; omega) fun v' sv' w hv' h => ?_
        have hg0 : mget mA ((grow rev conc j F).last + 1) = none := hr.get0 (by
          unfold fFind
          rw [List.find?_eq_none]
          intro x hx
          have := (ok.rng x hx).2
          simp; omega)
        refine hag (q - 1) _ w (by omega) ⟨j + 1, v', sv', flB b rA rW (grow rev conc (j + 1) F) ++ (sA' ++ (sW ++ ((L ++ [((⟨(grow rev conc j F).last + 1, rev, ⟨1, conc, []⟩⟩ : AHeld), b', s')]).map trS).flatten)), ?_, by omega, ⟨?_, rA, rW, _, mW, sA', sW, L ++ [((⟨(grow rev conc j F).last + 1, rev, ⟨1, conc, []⟩⟩ : AHeld), b', s')], hA', hW, ⟨?_, ?_, ?_, ?_⟩, rfl⟩, ?_, ?_⟩
        · rw [wr (by omega) (by omega)]; congr 2
        · exact grow1_ok ok (by omega) (by omega)
        · simp only [grow, grow1, List.map_append, hr.l]; rfl
        · intro t ht
          rcases List.mem_append.1 ht with ht | ht
          · exact hr.ps t ht
          · simp only [List.mem_singleton] at ht; subst ht; exact hp
        · rw [mset_none hg0, List.map_append]
          exact hr.all.append_right _
        · intro q
          rw [hr.wth]
          simp only [grow, grow1]
          rw [fWhere_app _ _ rfl]
        · rw [List.range_succ, List.map_append]; exact hv'
        · have h := fr1_ (fr4_ h)
          have h := St.addEnd (g := trS) (t := ((⟨(grow rev conc j F).last + 1, rev, ⟨1, conc, []⟩⟩ : AHeld), b', s')) h
          have h := fr4_ (fr4_ (fr4_ (fr1_ (fr4_ h))))
          exact h.eq (by simp [grow, grow1])
      · exact stop (by omega) h
    · exact stop (by omega) h
  · rintro z w ⟨v, sv, s, rfl, hf, hv, h⟩
    dsimp only
    have hlg := grow_len (F := F) (rev := rev) (conc := conc) (growN F rev want)
    have hmade : (fMade F rev want).length = growN F rev want := by simp [fMade]
    have hcg := grow_count (F := F) (rev := rev) (conc := conc) (growN F rev want)
    rw [← hcg]
    have hcle := fCount_le (grow rev conc (growN F rev want) F).l (rev := rev)
    refine loop_of (fun q y w => ∃ (F2 : AFleet) (gone : List Int) (v2 : Sl) (s2 s : Seg), y = (v2, ((fCount F2.l rev : Nat) : Int), ()) ∧ q = shrinkN F2 rev want ∧ gone.length + q = shrinkN (fGrown F rev conc want) rev want ∧ FlS b F2 s ∧ Rw eI T_int 1 v2 gone s2 ∧
      (shrink rev q F2).1 = (fScale F rev conc want).1 ∧ gone ++ (shrink rev q F2).2 = (fScale F rev conc want).2 ∧ St w0 (s :: s2 :: sv :: delN E i) w)
      (shrinkN (fGrown F rev conc want) rev want) ⟨fGrown F rev conc want, [], ⟨none, 0, 0⟩, [], s, rfl, rfl, by simp, hf, Rw.nil, rfl, rfl, h.eq (by simp)⟩ ?_
    clear hf
    clear h; (try clear w)
    rintro q y w ⟨F2, gone, v2, s2, s, rfl, hq, hgl, hf, hv2, hF, hG, h⟩ again hag
    dsimp only
    have hcl2 := fCount_le F2.l (rev := rev)
    have hq' : (q : Int) = max 0 ((fCount F2.l rev : Int) - max want 0) := by rw [hq]; unfold shrinkN; omega
    have hgn : (shrinkN (fGrown F rev conc want) rev want : Int) ≤ F.l.length + growN F rev want := by unfold shrinkN fGrown; omega
    have hfew2 := hf.1.few
    refine it (fun hc => ?_) (fun hc => ?_) <;> (try simp only [decide_eq_true_eq, decide_eq_false_iff_not, beq_iff_eq, bne_iff_ne, beq_eq_false_iff_ne, bne_eq_false_iff_eq, Bool.not_eq_true', Bool.not_eq_false', ne_eq, Bool.not_eq_true, Bool.not_eq_false] at hc)
    · have hc0 : max want 0 < (fCount F2.l rev : Int) := by split at hc <;> omega
      obtain ⟨q', rfl⟩ : ∃ q', q = q' + 1 := ⟨q - 1, by omega⟩
      refine S_fspare h 0 rfl hf fun w h => ?_
      obtain ⟨x, hx, hrev, hst⟩ := spare_mem hf.1 (rev := rev) (by omega)
      have okd := drain1_ok hf.1 (rev := rev) (by omega)
      have hcd := drain1_count hf.1 (rev := rev) (by omega)
      obtain ⟨ok, rA, rW, mA, mW, sA, sW, L, hA, hW, hr, rfl⟩ := hf
      obtain ⟨A, t, B, rfl, rfl, hid⟩ := hr.at hx
      have h : St w0 (flB b rA rW F2 :: sA :: sW :: ((A ++ t :: B).map trS).flatten :: s2 :: sv :: delN E i) w := h.eq (by simp)
      (repeat (first | refine nn ?_ | (refine dr h ?_; clear h; (try clear w); intro w h) | refine ld0_ h rfl rfl ?_ | refine ld1_ h rfl rfl ?_ | refine ld2_ h rfl rfl ?_ | refine ld3_ h rfl rfl ?_ | refine ld4_ h rfl rfl ?_ | refine ld5_ h rfl rfl ?_ | refine ld6_ h rfl rfl ?_ | refine ld7_ h rfl rfl ?_ | refine ld8_ h rfl rfl ?_ | refine ld9_ h rfl rfl ?_ | refine ld10_ h rfl rfl ?_ | refine ld11_ h rfl rfl ?_ | refine la0_ h rfl ?_ | refine la1_ h rfl ?_ | refine la2_ h rfl ?_ | refine la3_ h rfl ?_ | refine la4_ h rfl ?_ | refine la5_ h rfl ?_ | refine la6_ h rfl ?_ | refine la7_ h rfl ?_ | refine la8_ h rfl ?_ | refine la9_ h rfl ?_ | refine la10_ h rfl ?_ | refine la11_ h rfl ?_ | refine ck0_ h rfl ?_ | refine ck1_ h rfl ?_ | refine ck2_ h rfl ?_ | refine ck3_ h rfl ?_ | refine ck4_ h rfl ?_ | refine ck5_ h rfl ?_ | refine ck6_ h rfl ?_ | refine ck7_ h rfl ?_ | refine ck8_ h rfl ?_ | refine ck9_ h rfl ?_ | refine ck10_ h rfl ?_ | refine ck11_ h rfl ?_ | ((first | refine st0_ h rfl rfl ?_ | refine st1_ h rfl rfl ?_ | refine st2_ h rfl rfl ?_ | refine st3_ h rfl rfl ?_ | refine st4_ h rfl rfl ?_ | refine st5_ h rfl rfl ?_ | refine st6_ h rfl rfl ?_ | refine st7_ h rfl rfl ?_ | refine st8_ h rfl rfl ?_ | refine st9_ h rfl rfl ?_ | refine st10_ h rfl rfl ?_ | refine st11_ h rfl rfl ?_); clear h; (try clear w); intro w h; (try dsimp only [putN, setN] at h))))
      refine MpS.get mkI und_map_o zo (fun x : ByteArray × Option Addr => (x.1, x.2, ())) (fun _ => rfl) h 1 rfl hA ?_
      have hg := hr.get ok (t := t) (by simp)
      have hp := hr.ps t (by simp)
      rw [← hid, hg]
      simp only [Option.map_some, Option.getD_some]
      have h := fr3_ h
      have h := h.pick
      refine S_pDrain h 0 rfl hp fun s' w hp' h => ?_
      have h : St w0 (trS ({ t.1 with pod := (podDrain t.1.pod).1 }, t.2.1, s') :: ((A ++ B).map trS).flatten :: flB b rA rW F2 :: sA :: sW :: s2 :: sv :: delN E i) w := h
      have h := h.place
      have h := fr3_ (fr3_ (fr3_ h))
      have hdp := drain_eq hst
      have hrq : (podDrain t.1.pod).1.reqs = t.1.pod.reqs := by rw [hdp]
      have h4 : (podDrain t.1.pod).1.st = 4 → t.1.pod.reqs = [] := by
        rw [hdp]; simp only; intro h; apply Classical.byContradiction; intro hne; simp [hne] at h
      have hwth : ∀ q, mget mW q = (fWhere (fUpd F2.l t.1.id fun p => (podDrain p).1) q).map (·.id) := fun q => by
        rw [hr.wth, fWhere_upd ok.pw (fFind_some hx).1 hrq h4]
      have fin : ∀ {s w}, FlS b (drain1 rev F2) s → St w0 (s :: s2 :: sv :: delN E i) w → L.new [I t.1.id] T_int (fun b31 =>
          L.sem Pr (.one (.one .slice)) (Builtin.append_ #[T_s_int, T_s_int] T_s_int #[.slice v2.a v2.len v2.cap, .slice (some ⟨b31, 0, none⟩) 1 1]) fun (s32 : Sl) =>
          again (⟨s32.a, s32.len, s32.cap⟩, IntKind.wrap .i64 ((fCount F2.l rev : Nat) - 1), ())) w := by
        intro s w hf h
        refine nw h ?_; clear h; (try clear w); intro b31 w h
        refine Rw.app encI elI h 1 rfl hv2 t.1.id rfl (by omega) (by omega) fun v' s' w hv' h => ?_
        refine hag q' _ w (by omega) ⟨drain1 rev F2, gone ++ [t.1.id], v', s', s, ?_, ?_, ?_, hf, hv', ?_, ?_, h⟩
        · rw [wr (by omega) (by omega)]; congr 2; omega
        · unfold shrinkN; omega
        · simp only [List.length_append, List.length_singleton]; omega
        · exact hF
        · rw [List.append_assoc, hid]; exact hG
      refine S_fend (t := ({ t.1 with pod := (podDrain t.1.pod).1 }, t.2.1, s')) h hA hg hp' (fun h4' => ?_) fun h4' sA' w hA' h => ?_
      · refine fin (s := flB b rA rW F2 ++ (sA ++ (sW ++ ((A ++ ({ t.1 with pod := (podDrain t.1.pod).1 }, t.2.1, s') :: B).map trS).flatten))) ⟨okd, rA, rW, mA, mW, sA, sW, _, hA, hW, ?_, rfl⟩ (h.eq (by simp))
        have := hr.upd ok (fun p => (podDrain p).1) hp' h4' hwth
        unfold drain1; rw [← hid]; exact this
      · refine fin (s := flB b rA rW F2 ++ (sA' ++ (sW ++ ((A ++ B).map trS).flatten))) ⟨okd, rA, rW, _, mW, sA', sW, _, hA', hW, ?_, rfl⟩ (h.eq (by simp))
        have := hr.del ok (fun p => (podDrain p).1) h4' hwth
        unfold drain1; rw [← hid]; exact this
    · have e0 : q = 0 := by split at hc <;> omega
      subst e0
      have e1 : F2 = (fScale F rev conc want).1 := hF
      have e2 : gone = (fScale F rev conc want).2 := by rw [← hG]; simp [shrink]
      refine S_cloneI h (hv.rd encI h 2 rfl) (by omega) (Rw.nil_of encI hv) fun v1 s1 w hr1 _ h => ?_
      refine S_cloneI h (hv2.rd encI h 2 rfl) (by omega) (Rw.nil_of encI hv2) fun v3 s3 w hr3 _ h => ?_
      refine ⟨_, rfl, hk v1 v3 s s1 s3 w (by rw [← e1]; exact hf) hr1 (by rw [← e2]; exact hr3) ?_⟩
      have h := dl3_ (dl4_ h)
      have h := fr2_ (fr1_ (fr1_ h))
      exact St.back (i + 2) (E := s3 :: s1 :: E) hi h
end Go.Proofs.Ytheikjckdnhdhaa
