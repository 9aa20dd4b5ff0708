/- Contracts of functions, and walks of laws (text Ba). No conditions beyond those its theorems state. -/
import Derived.Test.YtpnbgpolbjbhpaaGreatDoorG
import Derived.Test.YtpnbgpolbjbhpaaGreatDoorSepB
set_option linter.all false
namespace Go.Proofs.YtpnbgpolbjbhpaaGreatDoor
open Go.Dm
variable {w0 w : World} {E : List Seg}
abbrev I (n : Int) : Value := .int .i64 n
theorem wr {n : Int} (h1 : -9223372036854775808 ≤ n) (h2 : n < 9223372036854775808) : IntKind.wrap .i64 n = n := by rw [IntKind.wrap_i64]; omega
theorem elI : El Pr T_s_int T_int 1 8 (I 0) := el_of (by kernel_rfl) (by kernel_rfl) rfl (by decide)
/-- whole numbers -/
def eI (n : Int) : List Value := [I n]
theorem encI : Enc eI 1 := ⟨fun _ => rfl, fun _ => rfl, by decide⟩
theorem oldI {v : Sl} {l : List Int} (o : Old w0 eI v l) (h : St w0 E w) {n : Int} {kk : Int → PT} (h0 : 0 ≤ n) (h1 : n < v.len) (hk : ∀ x, l[n.toNat]? = some x → kk x w) : L.idx v.a n v.len 1 (fun a => L.load (.one (.int .i64)) a kk) w :=
  old1 o encI h (lf := .int .i64) (fun x => x) (fun x => ⟨_, rfl, rfl⟩) h0 h1 hk
theorem fl_I (l : List Int) : fl eI l = l.map I := by
  induction l with
  | nil => rfl
  | cons x l ih => simp only [fl, List.flatMap_cons, List.map_cons] at *; rw [ih]; rfl
theorem old_ints {W : World} {v : Sl} {l : List Int} (h1 : v.len = l.length) (h2 : ∀ i x, l[i]? = some x → ∃ a, v.a = some a ∧ W.cell? (a.add i) = some (I x)) : Old W eI v l := by
  refine ⟨⟨h1, fun j u hj => ?_⟩⟩
  rw [fl_I, nth_getElem?, List.getElem?_map] at hj
  cases hx : l[j]? with
  | none => rw [hx] at hj; cases hj
  | some x => rw [hx] at hj; cases hj; exact h2 j x hx
theorem tmod_within (p0 p1 : Int) (h : 0 < p1) : Int.tmod p0 p1 = if 0 ≤ p0 ∨ p1 ∣ p0 then p0 % p1 else p0 % p1 - p1 := by
  rw [Int.tmod_eq_emod]
  split
  · simp
  · omega
theorem Rd.ckI {w' : World} {v : Sl} {l : List Int} (r : Rd w' eI v l) {i : Nat} {a : Addr} (ha : ElA v 1 i a) {x : Int} (hx : l[i]? = some x) {k : PT} (hk : k w') : L.chk a [I x] k w' := by
  have h := r.ld0 encI ha hx (lf := .int .i64) (kk := fun (y : Int) w => y = x ∧ k w) (w := w') (u := I x) (y := x) rfl rfl ⟨rfl, hk⟩
  unfold L.load at h
  obtain ⟨y, hc, rfl, hk⟩ := h
  unfold L.chk
  exact ⟨hc, hk⟩
end Go.Proofs.YtpnbgpolbjbhpaaGreatDoor
