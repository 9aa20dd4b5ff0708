/- The closing of rows: each statement holds (text ZGOn). No conditions beyond those its theorems state. -/
import Derived.Test.YthmpbgloifdcnaaGreatHl
import Derived.Test.YthmpbgloifdcnaaGreatDp
import Derived.Test.YthmpbgloifdcnaaGreatRows
set_option linter.all false
namespace Go.Proofs.YthmpbgloifdcnaaGreat
open Go.Dm Go.ChangeShapes Go.WideShapes Go.RowKit
theorem own : ownKnob Pr.godebug = none := by kernel_rfl
theorem laid : laidOutB Pr = true := by kernel_rfl
theorem u_bool : Pr.underlying T_bool = some .bool := by kernel_rfl
theorem u_int : Pr.underlying T_int = some (.int .i64) := by kernel_rfl
theorem cel_i : Pr.cellsOf T_int = 1 := by kernel_rfl
theorem u_s_int : Pr.underlying T_s_int = some (.slice T_int) := by kernel_rfl
theorem par4 : Tryz.f4.params = #[T_int, T_int, T_s_int] := by kernel_rfl
set_option maxRecDepth 100000 in
theorem gateOnce_lifted (os : Os) (started : os.Started) (H : Type) (enc : TypeId × Value → H) :
    ReturnsInHanded {} Tryz.checked os 4 .any (Rows.gateOnceSpec.pre6 enc Tryz.prog Tryz.f4 Rows.gateOnceRow.domain false) (Rows.gateOnceSpec.post enc Tryz.prog Tryz.f4 false true false false) := by
  refine returnsInHanded_of_change (C := Tryz.checked) own started (by kernel_rfl) (by kernel_rfl)
    (ChangeSpec.witness6 (enc := enc) (C := Tryz.checked) false ⟨#[], #[.int .i64 0, .int .i64 0, .slice none 0 0], []⟩ 8 (by kernel_rfl) (by kernel_rfl) (by kernel_rfl) (by kernel_rfl)) ?_
  intro W base args ds gs before hval hW _ _
  have hW' := hW
  obtain ⟨p, q, hA0, hV, rfl, hfz, hnd⟩ := hW
  have hA : DataW.TrodAll enc Tryz.prog W 0 (fun _ => true) true Tryz.f4.params.toList args.toList ds p := hA0
  have hval : ∀ (j : Nat) t v, Tryz.f4.params[j]? = some t → args[j]? = some v → Value.okWide Tryz.prog W .any base t v := hval
  rw [par4] at hA hval
  obtain ⟨v0, vs0, d0, ds0, p0, q0, hargs, rfl, rfl, h0, r0⟩ := trodAll_cons hA
  obtain ⟨v1, vs1, d1, ds1, p1, q1, rfl, rfl, rfl, h1, r1⟩ := trodAll_cons r0
  obtain ⟨v2, vs2, d2, ds2, p2, q2, rfl, rfl, rfl, h2, r2⟩ := trodAll_cons r1
  obtain ⟨rfl, rfl, rfl⟩ := trodAll_nil r2
  obtain rfl : args = #[v0, v1, v2] := by cases args; simp_all
  obtain ⟨rfl, rfl⟩ := trodVars_none hV
  obtain ⟨n0, rfl, _, b0, _⟩ := open_int u_int (hval 0 _ _ rfl rfl) h0
  obtain ⟨n1, rfl, _, b1, _⟩ := open_int u_int (hval 1 _ _ rfl rfl) h1
  obtain ⟨s2, xs2, rfl, l2, _, c2⟩ := ints_of u_s_int u_int cel_i (hval 2 _ _ rfl rfl) h2
  refine (W_GateOnce n0 n1 s2 (old_ints l2 c2)).mono fun e W' ⟨he, hst⟩ => ?_
  subst he
  exact ⟨_, rfl, post_true laid (by kernel_rfl) (T := T_bool) (by kernel_rfl) u_bool hW' rfl rfl hst⟩
theorem gateOnce_holds : Rows.GateOnceSaid :=
  OpenClaim.holds_of_wide 4 Tryz.f4 rfl rfl rfl rfl rfl rfl rfl ⟨rfl, rfl, rfl, rfl, rfl⟩ rfl rfl rfl rfl rfl (by kernel_rfl) (by kernel_rfl) (by kernel_rfl)
    (of_decide_eq_true (by kernel_rfl)) (by unfold Func.isWrapper; first | (rw [if_pos (by decide +kernel)]; kernel_rfl) | (rw [if_neg (by decide +kernel)]; exact ⟨rfl, rfl⟩))
    (fun os started H enc _ => gateOnce_lifted os started H enc)
end Go.Proofs.YthmpbgloifdcnaaGreat
