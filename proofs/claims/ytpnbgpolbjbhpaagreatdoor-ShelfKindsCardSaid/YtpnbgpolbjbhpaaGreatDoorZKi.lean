/- The closing of rows: each statement holds (text ZKi). No conditions beyond those its theorems state. -/
import Derived.Test.YtpnbgpolbjbhpaaGreatDoorUk
import Derived.Test.YtpnbgpolbjbhpaaGreatDoorDp
import Derived.LaidMore
import Derived.SevenTiedAt
import Derived.Stop.Joined
import Derived.Test.YtpnbgpolbjbhpaaGreatDoorRows
import Derived.Test.YtpnbgpolbjbhpaaGreatDoorCards
import Derived.Test.YtpnbgpolbjbhpaaGreatDoorTie
set_option linter.all false
namespace Go.Proofs.YtpnbgpolbjbhpaaGreatDoor
open Go.Dm Go.ChangeShapes Go.WideShapes Go.RowKit
theorem own : ownKnob Pr.godebug = none := by kernel_rfl
theorem laid : laidOutB Pr = true := by kernel_rfl
theorem u_bool : Pr.underlying T_bool = some .bool := by kernel_rfl
theorem u_int : Pr.underlying T_int = some (.int .i64) := by kernel_rfl
theorem cel_i : Pr.cellsOf T_int = 1 := by kernel_rfl
theorem u_api_Config : Pr.underlying T_api_Config = some (.struct (Pr.fieldsOf T_api_Config)) := by kernel_rfl
theorem u_s_int : Pr.underlying T_s_int = some (.slice T_int) := by kernel_rfl
theorem par6 : Tryz.f6.params = #[T_api_Config, T_s_int, T_bool] := by kernel_rfl
theorem shelfKinds_door (os : Os) (args : Array Value) : laidMetH Tryz.prog Rows.shelfKindsRow.laid ((World.doorLaid Tryz.prog 400 os).forCall (fun _ _ => 0) ⟨#[], args, []⟩).memory :=
  laidMetH_of_parts3 (fuel := 8) (laidMet_of_run' 8 (by kernel_rfl) (by kernel_rfl)) (by kernel_rfl) (by kernel_rfl)
set_option maxRecDepth 100000 in
theorem shelfKinds_lifted (os : Os) (started : os.Started) (H : Type) (enc : TypeId × Value → H) :
    ReturnsInHanded {} Tryz.checked os 6 .any (fun w args => (Rows.shelfKindsSpec.pre enc Tryz.prog Tryz.f6 Rows.shelfKindsRow.domain false w args ∧ laidMetH Tryz.prog Rows.shelfKindsRow.laid w) ∧ sizedMet enc Tryz.prog Tryz.f6 (OpenSpec.ofChange Rows.shelfKindsSpec) false w args)
      (Rows.shelfKindsSpec.post enc Tryz.prog Tryz.f6 false true false false) := by
  refine returnsInHanded_of_change_and (C := Tryz.checked) (X := fun w _ => laidMetH Tryz.prog Rows.shelfKindsRow.laid w) (fun _ _ _ hh h => h.of_heap hh) own started (by kernel_rfl) (by kernel_rfl)
    (ChangeSpec.witness_shaped (enc := enc) (C := Tryz.checked) (os := os) (X := fun w _ => laidMetH Tryz.prog Rows.shelfKindsRow.laid w) false (World.doorLaid Tryz.prog 400 os) #[.agg #[.string s_, .int .i64 0, .int .i64 0, .int .i64 0, .int .i64 0, .int .i64 0], .slice none 0 0, .bool false] 8 rfl (World.shaped_of_RefB (by kernel_rfl) (by kernel_rfl)) (by kernel_rfl) (by kernel_rfl) (by kernel_rfl) (shelfKinds_door os _)) ?_
  intro W base args ds gs before hval hW _ _ _ _
  have hW' := hW
  obtain ⟨p, q, hA0, hV, rfl, hfz, hnd⟩ := hW
  have hA : DataW.TrodAll enc Tryz.prog W 0 (fun _ => true) true Tryz.f6.params.toList args.toList ds p := hA0
  have hval : ∀ (j : Nat) t v, Tryz.f6.params[j]? = some t → args[j]? = some v → Value.okWide Tryz.prog W .any base t v := hval
  rw [par6] at hA hval
  obtain ⟨v0, vs0, d0, ds0, p0, q0, hargs, rfl, rfl, h0, r0⟩ := trodAll_cons hA
  obtain ⟨v1, vs1, d1, ds1, p1, q1, rfl, rfl, rfl, h1, r1⟩ := trodAll_cons r0
  obtain ⟨v2, vs2, d2, ds2, p2, q2, rfl, rfl, rfl, h2, r2⟩ := trodAll_cons r1
  obtain ⟨rfl, rfl, rfl⟩ := trodAll_nil r2
  obtain rfl : args = #[v0, v1, v2] := by cases args; simp_all
  obtain ⟨rfl, rfl⟩ := trodVars_none hV
  obtain ⟨x0, rfl, e0⟩ := arg_struct (n := 60) (a := (.lf .str (.lf (.int .i64) (.lf (.int .i64) (.lf (.int .i64) (.lf (.int .i64) (.lf (.int .i64) .nil))))))) u_api_Config (by kernel_rfl) (hval 0 _ _ rfl rfl) h0
  obtain ⟨s1, xs1, rfl, l1, _, c1⟩ := ints_of u_s_int u_int cel_i (hval 1 _ _ rfl rfl) h1
  obtain ⟨n2, rfl, _⟩ := open_bool u_bool (hval 2 _ _ rfl rfl) h2
  refine (W_ShelfKinds x0 s1 n2 (old_ints l1 c1)).mono fun e W' ⟨he, hst⟩ => ?_
  subst he
  exact ⟨_, rfl, post_true laid (by kernel_rfl) (T := T_bool) (by kernel_rfl) u_bool hW' rfl rfl hst⟩
theorem shelfKinds_plain : Rows.ShelfKindsSaid :=
  OpenClaim.holds_of_wide 6 Tryz.f6 rfl rfl rfl rfl rfl rfl rfl ⟨rfl, rfl, rfl, rfl, rfl⟩ rfl rfl rfl rfl rfl (by kernel_rfl) (by kernel_rfl) (by kernel_rfl)
    (of_decide_eq_true (by kernel_rfl)) (by unfold Func.isWrapper; first | (rw [if_pos (by decide +kernel)]; kernel_rfl) | (rw [if_neg (by decide +kernel)]; exact ⟨rfl, rfl⟩))
    (fun os started H enc _ => shelfKinds_lifted os started H enc)
theorem shelfKinds_holds : Rows.ShelfKindsCardSaid :=
  Claim7.holds_tied_plain_at .later [] [.data, .data, .data, .sentinel, .sentinel] true (true, "72dfeaa4ad177c372eff3b6ea2a890eaaa35b6dbe39066f1113d4064b23d0b61") true
    shelfKinds_plain (fun _ h => by cases h) (by kernel_rfl) (fun _ h => by cases h) shelfKinds_row_tie rfl ⟨rfl, rfl⟩ (by kernel_rfl) rfl
    (fun f fn hf hfn => by
      obtain rfl : f = 6 := Option.some.inj ((show Tryz.prog.funcNamed "damper/damperlaw4.ShelfKinds" = some 6 by kernel_rfl).symm.trans hf) |>.symm
      obtain rfl : fn = Tryz.f6 := (Option.some.inj (Tryz.func6.symm.trans hfn)).symm
      exact ⟨by kernel_rfl, fun j t ht => by
        rw [par6] at ht
        have hm : t ∈ [T_api_Config, T_s_int, T_bool] := by simpa using Array.mem_of_getElem? ht
        have hall : ([T_api_Config, T_s_int, T_bool].all fun u => !Tryz.prog.wantsStandIn u) = true := by kernel_rfl
        exact (show Tryz.prog.wantsStandIn t = false by simpa using List.all_eq_true.1 hall t hm)⟩)
    (by kernel_rfl)
end Go.Proofs.YtpnbgpolbjbhpaaGreatDoor
