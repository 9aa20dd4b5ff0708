/- Contracts of functions, and walks of laws (text Sep11). No conditions beyond those its theorems state. -/
import Derived.Test.YtpnbgpolbjbhpaaSep10
import Derived.Laws.IdiomStrings
set_option linter.all false
namespace Go.Dm
/-! ### bytes -/
def eU (b : UInt8) : List Value := [.int .u8 (b.toNat : Int)]
theorem encU : Enc eU 1 := ⟨fun _ => rfl, fun _ => rfl, by decide⟩
section
variable {w0 w : World} {E : List Seg} {P : Program}
/-- string(bytes) -/
theorem cvBS {src dst e : TypeId} {v : Sl} {l : List UInt8} (hs : P.underlying src = some (.slice e)) (he : P.underlying e = some (.int .u8)) (hd : P.underlying dst = some .string) (r : Rd w eU v l) {kk : ByteArray → PT} (hk : kk ⟨l.toArray⟩ w) :
    L.sem P (.one (.one .str)) (convert src dst (SlV v)) kk w := by
  have hl := r.len
  cases hv : v.a with
  | none =>
    have hl0 : l = [] := by
      cases l with
      | nil => rfl
      | cons x l =>
        obtain ⟨a, ha, -⟩ := r.rd 0 (.int .u8 x.toNat) rfl
        rw [hv] at ha; cases ha
    subst hl0
    refine ⟨⟨#[]⟩, w, ?_, hk⟩
    show (convert src dst (.slice v.a v.len v.cap)).run P w = _
    rw [hv, run_convert_bytes_string w src dst e _ v.len v.cap hs he hd]
    simp [Conv.bytesToString]; rfl
  | some a =>
    refine ⟨⟨l.toArray⟩, w, ?_, hk⟩
    show (convert src dst (.slice v.a v.len v.cap)).run P w = _
    rw [hv, hl]
    refine run_convert_bytes_back w src dst e a v.cap l hs he hd fun j hj => ?_
    have hx := List.getElem?_eq_getElem hj
    obtain ⟨b, hb, hc⟩ := r.rd (j * 1 + 0) (.int .u8 (l[j].toNat : Int)) (fl_nth encU hx rfl)
    rw [hv] at hb; cases hb
    simpa using hc
end
end Go.Dm
