/- Contracts of functions, and walks of laws (text Sep9). No conditions beyond those its theorems state. -/
import Derived.Test.YtpnbgpolbjbhpaaSep8
import Derived.Laws.RangeAny
import Derived.Lib.OthersKept
set_option linter.all false
namespace Go.Dm
section
variable {w0 w : World} {E : List Seg} {P : Program}
/-! ### a range over a string -/
abbrev ItS (r : Nat) (s : ByteArray) (pos : Nat) : Seg := [(r, .stringIter s pos)]
theorem rangeStr {t : TypeId} {s : ByteArray} {kk : Option Addr → PT} (hu : P.underlying t = some .string) (h : St w0 E w) (hk : ∀ r w', St w0 (ItS r s 0 :: E) w' → kk (some ⟨r, 0, none⟩) w') :
    L.sem P (.one (.one .ptr)) (Instr.range t (.string s)) kk w :=
  ⟨some ⟨w.heap.size, 0, none⟩, _, run_range_string w t s hu, hk _ _ (h.alloc (.stringIter s 0) rfl)⟩
theorem nextStr {s : ByteArray} {r pos : Nat} {ty : TypeId} {kn : PT} {ks : TT [.one (.int .i64), .one (.int .i32)] → PT} (h : St w0 E w) (i : Nat) (hi : nth E i = some (ItS r s pos)) (hend : s.size ≤ pos → kn w)
    (hstep : ∀ (hp : pos < s.size) (c : Int) (d : Nat) (w' : World), ((s[pos]'hp).toNat < 128 → c = (s[pos]'hp).toNat ∧ d = 1) → (128 ≤ (s[pos]'hp).toNat → 128 ≤ c ∧ c ≤ 2147483647) → 1 ≤ d →
      St w0 (setN E i (ItS r s (pos + d))) w' → ks ((pos : Int), c, ()) w') :
    L.next P [.one (.int .i64), .one (.int .i32)] (Instr.next (.pointer (some ⟨r, 0, none⟩)) true ty) kn ks w := by
  have hb := (h.at i hi).2
  by_cases hp : pos < s.size
  · refine .inr ⟨((pos : Int), ((Utf8.decode s pos).1 : Int), ()), _, Lib.run_next_any_at w r s pos ty hb hp, ?_⟩
    refine hstep hp _ (Utf8.decode s pos).2 _ (fun ha => ?_) (fun ha => ?_) ?_ (h.put i hi rfl)
    · rw [decode_ascii s pos hp ha]; exact ⟨rfl, rfl⟩
    · have := (decode_high s pos hp ha).1
      have := decode_le s pos
      omega
    · by_cases ha : (s[pos]'hp).toNat < 128
      · rw [decode_ascii s pos hp ha]; exact Nat.le_refl _
      · exact (decode_high s pos hp (by omega)).2
  · exact .inl ⟨w, Lib.run_next_end_at w r s pos ty hb hp, hend (by omega)⟩
end
end Go.Dm
