/- Contracts of functions, and walks of laws (text Uv). No conditions beyond those its theorems state. -/
import Derived.Test.YtpnbgpolbjbhpaaGreatDoorUg
import Derived.Test.YtpnbgpolbjbhpaaGreatDoorSepB
import Derived.Test.YtpnbgpolbjbhpaaGreatDoorDp
set_option linter.all false
namespace Go.Proofs.YtpnbgpolbjbhpaaGreatDoor
open Go.Dm
variable {w0 w : World} {E : List Seg}
/-! ### what the laws of the shelf share -/
theorem tget_putC' (m : List (ByteArray × Thg)) (n x : ByteArray) (c : Cfg) (ver : Int) : tget (putC m n c ver) x = if n = x then thgOf c ver (if (tget m n).is = true ∧ sameC (cfgOf (tget m n)) c = true then (tget m n).gen else (tget m n).gen + 1) true else tget m x := tget_put ..
theorem shPutR_ok {a : AShelf} {r : ARt} {ver : Int} (h1 : specE r = 0) (h2 : mayV (rget a.r r.name).is (rget a.r r.name).ver ver true = 0) : shPutR a r ver = (⟨a.m, putRt a.r r.name r (a.n + 1), a.n + 1⟩, a.n + 1, 0) := by
  unfold shPutR; rw [if_neg (by simp [h1]), if_neg (by simp [h2])]
theorem rget_putRt (m : List (ByteArray × AThr)) (n x : ByteArray) (r : ARt) (ver : Int) : rget (putRt m n r ver) x = if n = x then ⟨r, ver, gen' (rget m n) r, true⟩ else rget m x := rget_put ..
theorem mayV_new {v : Int} : mayV false v 0 true = 0 := by unfold mayV; simp
theorem few0 : AShelf.Few ⟨[], [], 0⟩ := fun _ hx => by cases hx
theorem shRt_of {a : AShelf} {n : ByteArray} (h : (rget a.r n).is = true) : shRt a n = ((rget a.r n).r, (rget a.r n).ver, true) := by unfold shRt; rw [if_pos h]
theorem shRt_no {a : AShelf} {n : ByteArray} (h : (rget a.r n).is = false) : shRt a n = (noRt, 0, false) := by unfold shRt; rw [if_neg (by simp [h])]
abbrev sh1 : Sh := .lf (.int .i64) .nil
abbrev shC : Sh := .lf (.int .i64) (.lf (.int .i64) (.lf (.int .i64) (.lf .str (.lf (.int .i64) (.lf (.int .i64) (.lf (.int .i64) (.lf (.int .i64) (.lf (.int .i64) (.sl sh1 .nil)))))))))
theorem encC : Enc shC.cells 10 := shC.enc (by decide)
theorem old_i {sl : Sl} {xs : List sh1.T} (o : Old w0 sh1.cells sl xs) : Old w0 eI sl (xs.map (·.1)) := by
  refine ⟨⟨by rw [List.length_map]; exact o.rd.len, fun j u hj => o.rd.rd j u ?_⟩⟩
  rw [← hj]
  congr 1
  clear hj o
  induction xs with
  | nil => rfl
  | cons x xs ih => simp only [fl, List.flatMap_cons, List.map_cons] at *; rw [ih]; rfl
theorem shPutC_ok {a : AShelf} {c : Cfg} {ver : Int} (h1 : specC c = 0) (h2 : mayC (tget a.m c.1) ver true = 0) : shPut a c ver = (⟨putC a.m c.1 c (a.n + 1), a.r, a.n + 1⟩, a.n + 1, 0) := by
  unfold shPut; rw [if_neg (by simp [h1]), if_neg (by simp [h2])]
theorem mayC_V (t : Thg) (v : Int) (f : Bool) : mayC t v f = mayV t.is t.ver v f := rfl
theorem mayV_is {tv v : Int} (h0 : v ≠ 0) (f : Bool) : mayV true tv v f = if tv = v then 0 else 7 := by unfold mayV; rw [if_neg (fun h => h0 h.2), if_pos rfl]
theorem mayV_no {tv v : Int} (h0 : v ≠ 0) (f : Bool) : mayV false tv v f = 6 := by unfold mayV; rw [if_neg (fun h => h0 h.2), if_neg (by simp)]
theorem shDrop1 (a : AShelf) (n : ByteArray) (v : Int) : shDrop a 1 n v = if mayC (tget a.m n) v false = 0 then (⟨dropC a.m n, a.r, a.n + 1⟩, 0) else (a, mayC (tget a.m n) v false) := by unfold shDrop; rw [if_pos rfl]
theorem shDrop2 (a : AShelf) (n : ByteArray) (v : Int) : shDrop a 2 n v = if mayV (rget a.r n).is (rget a.r n).ver v false = 0 then (⟨a.m, dropRt a.r n, a.n + 1⟩, 0) else (a, mayV (rget a.r n).is (rget a.r n).ver v false) := by unfold shDrop; rw [if_neg (by decide), if_pos rfl]
theorem shDrop0 (a : AShelf) {k : Int} (h1 : k ≠ 1) (h2 : k ≠ 2) (n : ByteArray) (v : Int) : shDrop a k n v = (a, 12) := by unfold shDrop; rw [if_neg h1, if_neg h2]
theorem tget_dropC' (m : List (ByteArray × Thg)) (n x : ByteArray) : tget (dropC m n) x = if n = x then (s_, 0, 0, 0, 0, 0, 0, (tget m n).gen, false, ()) else tget m x := tget_put ..
theorem rget_dropRt (m : List (ByteArray × AThr)) (n x : ByteArray) : rget (dropRt m n) x = if n = x then ⟨⟨s_, s_, [], 0⟩, 0, (rget m n).gen, false⟩ else rget m x := rget_put ..
theorem shCfg_is (a : AShelf) (n : ByteArray) : (shCfg a n).2.2.2.1 = (tget a.m n).is := by
  unfold shCfg
  cases h : (tget a.m n).is <;> simp
theorem shRt_is (a : AShelf) (n : ByteArray) : (shRt a n).2.2 = (rget a.r n).is := by
  unfold shRt
  cases h : (rget a.r n).is <;> simp
theorem specR_name {r : ARt} (h : specE r = 0) {n : ByteArray} (hn : shortB n.data.toList 16 = true) : specE { r with name := n } = 0 := by
  unfold specE at h ⊢
  split at h
  · rename_i h1; rw [if_pos ⟨hn, h1.2⟩]; exact h
  · cases h
end Go.Proofs.YtpnbgpolbjbhpaaGreatDoor
