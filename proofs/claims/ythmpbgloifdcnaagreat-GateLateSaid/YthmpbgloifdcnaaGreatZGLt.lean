/- The closing of rows: each statement holds (text ZGLt). No conditions beyond those its theorems state. -/
import Derived.Test.YthmpbgloifdcnaaGreatHi
import Derived.Test.YthmpbgloifdcnaaGreatDp
import Derived.Test.YthmpbgloifdcnaaGreatRows
set_option linter.all false
namespace Go.Proofs.YthmpbgloifdcnaaGreat
open Go.Dm Go.ChangeShapes Go.WideShapes Go.RowKit
theorem own : ownKnob Pr.godebug = none := by kernel_rfl
theorem laid : laidOutB Pr = true := by kernel_rfl
theorem u_bool : Pr.underlying T_bool = some .bool := by kernel_rfl
theorem u_int : Pr.underlying T_int = some (.int .i64) := by kernel_rfl
theorem cel_i : Pr.cellsOf T_int = 1 := by kernel_rfl
theorem u_s_int : Pr.underlying T_s_int = some (.slice T_int) := by kernel_rfl
theorem par3 : Tryz.f3.params = #[T_int, T_s_int, T_int] := by kernel_rfl
set_option maxRecDepth 100000 in
theorem gateLate_lifted (os : Os) (started : os.Started) (H : Type) (enc : TypeId × Value → H) :
    ReturnsInHanded {} Tryz.checked os 3 .any (Rows.gateLateSpec.pre6 enc Tryz.prog Tryz.f3 Rows.gateLateRow.domain false) (Rows.gateLateSpec.post enc Tryz.prog Tryz.f3 false true false false) := by
  refine returnsInHanded_of_change (C := Tryz.checked) own started (by kernel_rfl) (by kernel_rfl)
    (ChangeSpec.witness6 (enc := enc) (C := Tryz.checked) false ⟨#[], #[.int .i64 0, .slice none 0 0, .int .i64 0], []⟩ 8 (by kernel_rfl) (by kernel_rfl) (by kernel_rfl) (by kernel_rfl)) ?_
  intro W base args ds gs before hval hW _ _
  have hW' := hW
  obtain ⟨p, q, hA0, hV, rfl, hfz, hnd⟩ := hW
  have hA : DataW.TrodAll enc Tryz.prog W 0 (fun _ => true) true Tryz.f3.params.toList args.toList ds p := hA0
  have hval : ∀ (j : Nat) t v, Tryz.f3.params[j]? = some t → args[j]? = some v → Value.okWide Tryz.prog W .any base t v := hval
  rw [par3] at hA hval
  obtain ⟨v0, vs0, d0, ds0, p0, q0, hargs, rfl, rfl, h0, r0⟩ := trodAll_cons hA
  obtain ⟨v1, vs1, d1, ds1, p1, q1, rfl, rfl, rfl, h1, r1⟩ := trodAll_cons r0
  obtain ⟨v2, vs2, d2, ds2, p2, q2, rfl, rfl, rfl, h2, r2⟩ := trodAll_cons r1
  obtain ⟨rfl, rfl, rfl⟩ := trodAll_nil r2
  obtain rfl : args = #[v0, v1, v2] := by cases args; simp_all
  obtain ⟨rfl, rfl⟩ := trodVars_none hV
  obtain ⟨n0, rfl, _, b0, _⟩ := open_int u_int (hval 0 _ _ rfl rfl) h0
  obtain ⟨s1, xs1, rfl, l1, _, c1⟩ := ints_of u_s_int u_int cel_i (hval 1 _ _ rfl rfl) h1
  obtain ⟨n2, rfl, _, b2, _⟩ := open_int u_int (hval 2 _ _ rfl rfl) h2
  refine (W_GateLate n0 s1 n2 (old_ints l1 c1)).mono fun e W' ⟨he, hst⟩ => ?_
  subst he
  exact ⟨_, rfl, post_true laid (by kernel_rfl) (T := T_bool) (by kernel_rfl) u_bool hW' rfl rfl hst⟩
theorem gateLate_holds : Rows.GateLateSaid :=
  OpenClaim.holds_of_wide 3 Tryz.f3 rfl rfl rfl rfl rfl rfl rfl ⟨rfl, rfl, rfl, rfl, rfl⟩ rfl rfl rfl rfl rfl (by kernel_rfl) (by kernel_rfl) (by kernel_rfl)
    (of_decide_eq_true (by kernel_rfl)) (by unfold Func.isWrapper; first | (rw [if_pos (by decide +kernel)]; kernel_rfl) | (rw [if_neg (by decide +kernel)]; exact ⟨rfl, rfl⟩))
    (fun os started H enc _ => gateLate_lifted os started H enc)
end Go.Proofs.YthmpbgloifdcnaaGreat
