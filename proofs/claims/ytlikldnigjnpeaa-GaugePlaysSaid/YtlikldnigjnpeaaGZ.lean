/- A reading of the code as predicates on the world, and its soundness, or contracts of functions proved by it: text GZ. No conditions beyond those its theorems state. -/
import Derived.Test.YtlikldnigjnpeaaGE
import Derived.Test.YtlikldnigjnpeaaClose
import Derived.Test.YtlikldnigjnpeaaRows
namespace Go.Proofs.Ytlikldnigjnpeaa
open Go.Dm Go.ChangeShapes Go.WideShapes Go.RowKit
theorem own : ownKnob Pr.godebug = none := by kernel_rfl
theorem laid : laidOutB Pr = true := by kernel_rfl
theorem und_s : Pr.underlying T_s_int = some (.slice T_int) := by kernel_rfl
theorem und_i : Pr.underlying T_int = some (.int .i64) := by kernel_rfl
theorem und_b : Pr.underlying T_bool = some .bool := by kernel_rfl
theorem cel_i : Pr.cellsOf T_int = 1 := by kernel_rfl
theorem par3 : Try.f3.params = #[T_s_int, T_int, T_s_int] := by kernel_rfl
set_option maxRecDepth 100000 in
theorem gaugePlays_lifted (os : Os) (started : os.Started) (H : Type) (enc : TypeId × Value → H) :
    ReturnsInHanded {} Try.checked os 3 .any (Rows.gaugePlaysSpec.pre6 enc Try.prog Try.f3 Rows.gaugePlaysRow.domain false) (Rows.gaugePlaysSpec.post enc Try.prog Try.f3 false true false false) := by
  refine returnsInHanded_of_change (C := Try.checked) own started (by kernel_rfl) (by kernel_rfl)
    (ChangeSpec.witness6 (enc := enc) (C := Try.checked) false ⟨#[], #[.slice none 0 0, .int .i64 0, .slice none 0 0], []⟩ 8 (by kernel_rfl) (by kernel_rfl) (by kernel_rfl) (by kernel_rfl)) ?_
  intro W base args ds gs before hval hW _ _
  have hW' := hW
  obtain ⟨p, q, hA0, hV, rfl, hfz, hnd⟩ := hW
  have hA : DataW.TrodAll enc Try.prog W 0 (fun _ => true) true Try.f3.params.toList args.toList ds p := hA0
  have hval : ∀ (j : Nat) t v, Try.f3.params[j]? = some t → args[j]? = some v → Value.okWide Try.prog W .any base t v := hval
  rw [par3] at hA hval
  obtain ⟨v0, vs0, d0, ds0, p0, q0, hargs, rfl, rfl, h0, r0⟩ := trodAll_cons hA
  obtain ⟨v1, vs1, d1, ds1, p1, q1, rfl, rfl, rfl, h1, r1⟩ := trodAll_cons r0
  obtain ⟨v2, vs2, d2, ds2, p2, q2, rfl, rfl, rfl, h2, r2⟩ := trodAll_cons r1
  obtain ⟨rfl, rfl, rfl⟩ := trodAll_nil r2
  obtain rfl : args = #[v0, v1, v2] := by cases args; simp_all
  obtain ⟨rfl, rfl⟩ := trodVars_none hV
  obtain ⟨s0, xs, rfl, l0, _, c0⟩ := ints_of und_s und_i cel_i (hval 0 _ _ rfl rfl) h0
  obtain ⟨n1, rfl, _, _, _⟩ := open_int und_i (hval 1 _ _ rfl rfl) h1
  obtain ⟨s2, ys, rfl, l2, _, c2⟩ := ints_of und_s und_i cel_i (hval 2 _ _ rfl rfl) h2
  refine (W_GaugePlays (p0 := s0) (p1 := n1) (p2 := s2) ⟨l0, c0⟩ ⟨l2, c2⟩).mono fun e W' ⟨he, hst⟩ => ?_
  subst he
  exact ⟨_, rfl, post_true laid (by kernel_rfl) (T := T_bool) (by kernel_rfl) und_b hW' rfl rfl hst⟩
theorem gaugePlays_holds : Rows.GaugePlaysSaid :=
  OpenClaim.holds_of_wide 3 Try.f3 rfl rfl rfl rfl rfl rfl rfl ⟨rfl, rfl, rfl, rfl, rfl⟩ rfl rfl rfl rfl rfl (by kernel_rfl) (by kernel_rfl) (by kernel_rfl)
    (of_decide_eq_true (by kernel_rfl)) (by unfold Func.isWrapper; first | (rw [if_pos (by decide +kernel)]; kernel_rfl) | (rw [if_neg (by decide +kernel)]; exact ⟨rfl, rfl⟩))
    (fun os started H enc _ => gaugePlays_lifted os started H enc)
end Go.Proofs.Ytlikldnigjnpeaa

