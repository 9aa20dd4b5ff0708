/- The functions of the program, read as predicates on the world, each with its contract (text G). No conditions beyond those its theorems state. -/
import Derived.Test.YtpnbgpolbjbhpaaG2
set_option linter.all false
namespace Go.Proofs.Ytpnbgpolbjbhpaa
set_option maxRecDepth 100000
open Go.Dm
def A_damperlaw4_ShelfGens : Ann := (.seq .auto (.seq .auto (.seq .auto (.seq .auto (.seq .auto (.seq .auto (.seq (.seq .auto (.one [(6, (.one (.int .i64))), (7, (.one (.int .i64))), (9, (.one (.int .i64)))] (.seq (.seq .auto (.cond .auto .auto) none) (.seq (.seq .auto (.seq .auto (.seq .auto (.seq .auto (.seq .auto (.seq .auto (.seq .auto (.seq .auto (.cond .auto .auto) none) none) none) none) none) (some [(7, (.one (.int .i64)))])) none) none) .auto (some [(6, (.one (.int .i64))), (7, (.one (.int .i64)))])) none)) none) .auto (some [])) none) none) none) none) none) none)
/-- damper/damperlaw4.ShelfGens -/
def F_damperlaw4_ShelfGens (p0 : Sl) (p1 : Sl) (K : Value → PT) : PT :=
  L.call Pr n_damperlaw4_known [] (.one (.one (.bool))) fun (x1 : Bool) =>
  L.ite (!x1) (
    K (.bool false)) <|
  L.call Pr n_shelf_New [] (.one (.one (.ptr))) fun (x2 : Option Addr) =>
  L.ite ((x2).isNone) (
    K (.bool false)) <|
  L.new [.string s_, .int .i64 0, .int .i64 0, .int .i64 0, .int .i64 0, .int .i64 0] T_api_Config fun b3 =>
  L.join (Y := Unit) (fun k4 =>
    L.loop (Y := Int × Int × Int × Unit) (0, 0, 0, ()) fun y6 again7 =>
    L.ite (decide (y6.2.2.1 < ((p0.len : Nat) : Int))) (
      L.ite (decide (y6.2.2.1 < 30)) (
        L.join (Y := Int × Int × Unit) (fun k8 =>
          L.idx p0.a y6.2.2.1 p0.len 6 fun a10 =>
          L.load (.agg [.str, .int .i64, .int .i64, .int .i64, .int .i64, .int .i64]) a10 fun (x11 : ByteArray × Int × Int × Int × Int × Int × Unit) =>
          L.call Pr n_damperlaw2_Config [.agg #[.string x11.1, .int .i64 x11.2.1, .int .i64 x11.2.2.1, .int .i64 x11.2.2.2.1, .int .i64 x11.2.2.2.2.1, .int .i64 x11.2.2.2.2.2.1], .int .i64 0] (.one (.agg [.str, .int .i64, .int .i64, .int .i64, .int .i64, .int .i64])) fun (x12 : ByteArray × Int × Int × Int × Int × Int × Unit) =>
          L.new [.string s_, .int .i64 0, .int .i64 0, .int .i64 0, .int .i64 0, .int .i64 0] T_api_Config fun b13 =>
          L.store (⟨b13, 0, none⟩) [.string x12.1, .int .i64 x12.2.1, .int .i64 x12.2.2.1, .int .i64 x12.2.2.2.1, .int .i64 x12.2.2.2.2.1, .int .i64 x12.2.2.2.2.2.1] <|
          L.load (.one (.int .i64)) ((⟨b13, 0, none⟩ : Addr).add 1) fun (x14 : Int) =>
          L.guard (3 ≠ (0 : Int)) <|
          L.store ((⟨b13, 0, none⟩ : Addr).add 1) [.int .i64 (Int.tmod x14 3)] <|
          L.store ((⟨b13, 0, none⟩ : Addr).add 5) [.int .i64 0] <|
          L.store ((⟨b13, 0, none⟩ : Addr).add 3) [.int .i64 0] <|
          L.join (Y := Int × Unit) (fun k15 =>
            L.ite (y6.1 == 0) (
              k15 (IntKind.wrap .i64 (y6.2.1 + 1), ())) <|
            L.load (.agg [.str, .int .i64, .int .i64, .int .i64, .int .i64, .int .i64]) (⟨b13, 0, none⟩) fun (x17 : ByteArray × Int × Int × Int × Int × Int × Unit) =>
            L.load (.agg [.str, .int .i64, .int .i64, .int .i64, .int .i64, .int .i64]) (⟨b3, 0, none⟩) fun (x18 : ByteArray × Int × Int × Int × Int × Int × Unit) =>
            L.chkSem Pr (do eqGuard .neq T_api_Config (.tmp 0) (.tmp 0) (.agg #[.string x17.1, .int .i64 x17.2.1, .int .i64 x17.2.2.1, .int .i64 x17.2.2.2.1, .int .i64 x17.2.2.2.2.1, .int .i64 x17.2.2.2.2.2.1]) (.agg #[.string x18.1, .int .i64 x18.2.1, .int .i64 x18.2.2.1, .int .i64 x18.2.2.2.1, .int .i64 x18.2.2.2.2.1, .int .i64 x18.2.2.2.2.2.1]); binOp .neq T_api_Config (.agg #[.string x17.1, .int .i64 x17.2.1, .int .i64 x17.2.2.1, .int .i64 x17.2.2.2.1, .int .i64 x17.2.2.2.2.1, .int .i64 x17.2.2.2.2.2.1]) (.agg #[.string x18.1, .int .i64 x18.2.1, .int .i64 x18.2.2.1, .int .i64 x18.2.2.2.1, .int .i64 x18.2.2.2.2.1, .int .i64 x18.2.2.2.2.2.1])) (.bool (!((x17.1 == x18.1) && ((x17.2.1 == x18.2.1) && ((x17.2.2.1 == x18.2.2.1) && ((x17.2.2.2.1 == x18.2.2.2.1) && ((x17.2.2.2.2.1 == x18.2.2.2.2.1) && ((x17.2.2.2.2.2.1 == x18.2.2.2.2.2.1) && true)))))))) <|
            L.ite (!((x17.1 == x18.1) && ((x17.2.1 == x18.2.1) && ((x17.2.2.1 == x18.2.2.1) && ((x17.2.2.2.1 == x18.2.2.2.1) && ((x17.2.2.2.2.1 == x18.2.2.2.2.1) && ((x17.2.2.2.2.2.1 == x18.2.2.2.2.2.1) && true))))))) (
              k15 (IntKind.wrap .i64 (y6.2.1 + 1), ())) <|
            k15 (y6.2.1, ())) fun z16 =>
          L.load (.agg [.str, .int .i64, .int .i64, .int .i64, .int .i64, .int .i64]) (⟨b13, 0, none⟩) fun (x19 : ByteArray × Int × Int × Int × Int × Int × Unit) =>
          L.call Pr n_shelf_Shelf_PutConfig [.pointer x2, .agg #[.string x19.1, .int .i64 x19.2.1, .int .i64 x19.2.2.1, .int .i64 x19.2.2.2.1, .int .i64 x19.2.2.2.2.1, .int .i64 x19.2.2.2.2.2.1], .int .i64 y6.1] (.tup [(.one (.int .i64)), (.one (.int .i64))]) fun (x20 : Int × Int × Unit) =>
          L.call Pr n_shelf_Shelf_Config [.pointer x2, .string s_web] (.tup [(.agg [.str, .int .i64, .int .i64, .int .i64, .int .i64, .int .i64]), (.one (.int .i64)), (.one (.int .i64)), (.one (.bool))]) fun (x21 : (ByteArray × Int × Int × Int × Int × Int × Unit) × Int × Int × Bool × Unit) =>
          L.new [.string s_, .int .i64 0, .int .i64 0, .int .i64 0, .int .i64 0, .int .i64 0] T_api_Config fun b22 =>
          L.store (⟨b22, 0, none⟩) [.string x21.1.1, .int .i64 x21.1.2.1, .int .i64 x21.1.2.2.1, .int .i64 x21.1.2.2.2.1, .int .i64 x21.1.2.2.2.2.1, .int .i64 x21.1.2.2.2.2.2.1] <|
          L.ite (x20.2.1 != 0) (
            K (.bool false)) <|
          L.ite (!x21.2.2.2.1) (
            K (.bool false)) <|
          L.ite (x21.2.1 != x20.1) (
            K (.bool false)) <|
          L.ite (x21.2.2.1 != z16.1) (
            K (.bool false)) <|
          L.draw <|
          L.load (.agg [.str, .int .i64, .int .i64, .int .i64, .int .i64, .int .i64]) (⟨b13, 0, none⟩) fun (x23 : ByteArray × Int × Int × Int × Int × Int × Unit) =>
          L.chk (⟨b13, 0, none⟩) [.string x23.1, .int .i64 x23.2.1, .int .i64 x23.2.2.1, .int .i64 x23.2.2.2.1, .int .i64 x23.2.2.2.2.1, .int .i64 x23.2.2.2.2.2.1] <|
          L.store (⟨b3, 0, none⟩) [.string x23.1, .int .i64 x23.2.1, .int .i64 x23.2.2.1, .int .i64 x23.2.2.2.1, .int .i64 x23.2.2.2.2.1, .int .i64 x23.2.2.2.2.2.1] <|
          L.ite (decide (y6.2.2.1 < ((p1.len : Nat) : Int))) (
            L.idx p1.a y6.2.2.1 p1.len 1 fun a24 =>
            L.load (.one (.bool)) a24 fun (x25 : Bool) =>
            L.ite x25 (
              L.call Pr n_shelf_Shelf_Drop [.pointer x2, .int .i64 1, .string s_web, .int .i64 x20.1] (.one (.one (.int .i64))) fun (x26 : Int) =>
              L.ite (x26 != 0) (
                K (.bool false)) <|
              k8 (0, z16.1, ())) <|
            k8 (x20.1, z16.1, ())) <|
          k8 (x20.1, z16.1, ())) fun z9 =>
        again7 (z9.1, z9.2.1, IntKind.wrap .i64 (y6.2.2.1 + 1), ())) <|
      k4 (())) <|
    k4 (())) fun z5 =>
  K (.bool true)
theorem D_damperlaw4_ShelfGens (p0 : Sl) (p1 : Sl) (K : Value → PT) : denF Pr Dt Try.f5 A_damperlaw4_ShelfGens [.v (.slice p0.a p0.len p0.cap), .v (.slice p1.a p1.len p1.cap)] K = F_damperlaw4_ShelfGens p0 p1 K := by kernel_rfl
theorem C_damperlaw4_ShelfGens (p0 : Sl) (p1 : Sl) {K : Value → PT} {w : World} (h : F_damperlaw4_ShelfGens p0 p1 K w) : Calls Pr n_damperlaw4_ShelfGens [.slice p0.a p0.len p0.cap, .slice p1.a p1.len p1.cap].toArray w fun e w2 => ∃ v, e = .returned v ∧ K v w2 :=
  denF_ok Tok (f := 5) (fn := Try.f5) (an := A_damperlaw4_ShelfGens) (args := [.v (.slice p0.a p0.len p0.cap), .v (.slice p1.a p1.len p1.cap)]) (by kernel_rfl) (by kernel_rfl) ((congrFun (D_damperlaw4_ShelfGens p0 p1 K) w).mpr h)
theorem E_damperlaw4_ShelfGens : Enters Pr n_damperlaw4_ShelfGens := enters_of_B (by kernel_rfl)

def A_damperlaw4_ShelfNames : Ann := (.seq .auto (.seq .auto (.seq .auto (.seq .auto (.seq .auto (.seq (.seq .auto (.one [(5, (.one (.int .i64)))] (.seq (.seq .auto (.cond .auto .auto) none) (.seq (.seq .auto (.seq .auto (.seq (.seq .auto (.cond .auto .auto) none) .auto (some [])) none) none) .auto (some [])) none)) none) (.seq .auto (.seq (.seq .auto (.one [(10, (.one (.slice))), (11, (.one (.int .i64)))] (.seq .auto (.seq .auto .auto (some [(10, (.one (.slice)))])) none)) none) .auto none) none) (some [])) none) none) none) none) none)
/-- damper/damperlaw4.ShelfNames -/
def F_damperlaw4_ShelfNames (p0 : Sl) (K : Value → PT) : PT :=
  L.call Pr n_damperlaw4_known [] (.one (.one (.bool))) fun (x1 : Bool) =>
  L.ite (!x1) (
    K (.bool false)) <|
  L.call Pr n_shelf_New [] (.one (.one (.ptr))) fun (x2 : Option Addr) =>
  L.ite ((x2).isNone) (
    K (.bool false)) <|
  L.call Pr n_damperlaw4_versions [] (.one (.one (.slice))) fun (x3 : Sl) =>
  L.join (Y := Unit) (fun k4 =>
    L.loop (Y := Int × Unit) (0, ()) fun y6 again7 =>
    L.ite (decide (y6.1 < ((p0.len : Nat) : Int))) (
      L.ite (decide (y6.1 < 60)) (
        L.join (Y := Unit) (fun k8 =>
          L.idx p0.a y6.1 p0.len 1 fun a10 =>
          L.load (.one (.int .i64)) a10 fun (x11 : Int) =>
          L.call Pr n_damperlaw4_within [.int .i64 x11, .int .i64 20] (.one (.one (.int .i64))) fun (x12 : Int) =>
          L.new [.int .u8 (IntKind.wrap .u8 (IntKind.wrap .i64 (97 + x12)))] T_uint8 fun b13 =>
          L.sem Pr (.one (.one (.str))) (convert T_s_uint8 T_string (.slice (some ⟨b13, 0, none⟩) 1 1)) fun (x14 : ByteArray) =>
          L.guard (((s_n.size + x14.size : Nat) : Int) ≤ maxI64) <|
          L.join (Y := Unit) (fun k15 =>
            L.idx x3.a x12 x3.len 1 fun a17 =>
            L.load (.one (.int .i64)) a17 fun (x18 : Int) =>
            L.ite (decide (x18 > 0)) (
              L.idx p0.a y6.1 p0.len 1 fun a19 =>
              L.load (.one (.int .i64)) a19 fun (x20 : Int) =>
              L.guard (20 ≠ (0 : Int)) <|
              L.call Pr n_damperlaw4_within [.int .i64 (IntKind.wrap .i64 (Int.tdiv x20 20)), .int .i64 2] (.one (.one (.int .i64))) fun (x21 : Int) =>
              L.ite (x21 == 0) (
                L.idx x3.a x12 x3.len 1 fun a22 =>
                L.load (.one (.int .i64)) a22 fun (x23 : Int) =>
                L.call Pr n_shelf_Shelf_Drop [.pointer x2, .int .i64 1, .string (s_n ++ x14), .int .i64 x23] (.one (.one (.int .i64))) fun (x24 : Int) =>
                L.ite (x24 != 0) (
                  K (.bool false)) <|
                L.idx x3.a x12 x3.len 1 fun a25 =>
                L.store a25 [.int .i64 0] <|
                k8 (())) <|
              k15 (())) <|
            k15 (())) fun z16 =>
          L.idx x3.a x12 x3.len 1 fun a26 =>
          L.load (.one (.int .i64)) a26 fun (x27 : Int) =>
          L.call Pr n_shelf_Shelf_PutConfig [.pointer x2, .agg #[.string (s_n ++ x14), .int .i64 0, .int .i64 1, .int .i64 0, .int .i64 1, .int .i64 0], .int .i64 x27] (.tup [(.one (.int .i64)), (.one (.int .i64))]) fun (x28 : Int × Int × Unit) =>
          L.ite (x28.2.1 != 0) (
            K (.bool false)) <|
          L.idx x3.a x12 x3.len 1 fun a29 =>
          L.store a29 [.int .i64 x28.1] <|
          k8 (())) fun z9 =>
        again7 (IntKind.wrap .i64 (y6.1 + 1), ())) <|
      k4 (())) <|
    k4 (())) fun z5 =>
  L.loop (Y := Sl × Int × Unit) (⟨none, 0, 0⟩, 0, ()) fun y30 again31 =>
  L.ite (decide (y30.2.1 < 20)) (
    L.join (Y := Sl × Unit) (fun k32 =>
      L.idx x3.a y30.2.1 x3.len 1 fun a34 =>
      L.load (.one (.int .i64)) a34 fun (x35 : Int) =>
      L.ite (decide (x35 > 0)) (
        L.new [.int .u8 (IntKind.wrap .u8 (IntKind.wrap .i64 (97 + y30.2.1)))] T_uint8 fun b36 =>
        L.sem Pr (.one (.one (.str))) (convert T_s_uint8 T_string (.slice (some ⟨b36, 0, none⟩) 1 1)) fun (x37 : ByteArray) =>
        L.guard (((s_n.size + x37.size : Nat) : Int) ≤ maxI64) <|
        L.new [.string (s_n ++ x37)] T_string fun b38 =>
        L.sem Pr (.one (.one .slice)) (Builtin.append_ #[T_s_string, T_s_string] T_s_string #[.slice y30.1.a y30.1.len y30.1.cap, .slice (some ⟨b38, 0, none⟩) 1 1]) fun (s39 : Sl) =>
        k32 (⟨s39.a, s39.len, s39.cap⟩, ())) <|
      k32 (⟨y30.1.a, y30.1.len, y30.1.cap⟩, ())) fun z33 =>
    again31 (⟨z33.1.a, z33.1.len, z33.1.cap⟩, IntKind.wrap .i64 (y30.2.1 + 1), ())) <|
  L.call Pr n_shelf_Shelf_Names [.pointer x2, .int .i64 1] (.one (.one (.slice))) fun (x40 : Sl) =>
  L.call Pr n_damperref4_Same [.slice x40.a x40.len x40.cap, .slice y30.1.a y30.1.len y30.1.cap] (.one (.one (.bool))) fun (x41 : Bool) =>
  L.ite x41 (
    L.call Pr n_shelf_Shelf_Names [.pointer x2, .int .i64 2] (.one (.one (.slice))) fun (x42 : Sl) =>
    L.ite (((x42.len : Nat) : Int) == 0) (
      L.call Pr n_shelf_Shelf_Names [.pointer x2, .int .i64 3] (.one (.one (.slice))) fun (x43 : Sl) =>
      K (.bool (((x43.len : Nat) : Int) == 0))) <|
    K (.bool false)) <|
  K (.bool false)
theorem D_damperlaw4_ShelfNames (p0 : Sl) (K : Value → PT) : denF Pr Dt Try.f6 A_damperlaw4_ShelfNames [.v (.slice p0.a p0.len p0.cap)] K = F_damperlaw4_ShelfNames p0 K := by kernel_rfl
theorem C_damperlaw4_ShelfNames (p0 : Sl) {K : Value → PT} {w : World} (h : F_damperlaw4_ShelfNames p0 K w) : Calls Pr n_damperlaw4_ShelfNames [.slice p0.a p0.len p0.cap].toArray w fun e w2 => ∃ v, e = .returned v ∧ K v w2 :=
  denF_ok Tok (f := 6) (fn := Try.f6) (an := A_damperlaw4_ShelfNames) (args := [.v (.slice p0.a p0.len p0.cap)]) (by kernel_rfl) (by kernel_rfl) ((congrFun (D_damperlaw4_ShelfNames p0 K) w).mpr h)
theorem E_damperlaw4_ShelfNames : Enters Pr n_damperlaw4_ShelfNames := enters_of_B (by kernel_rfl)

def A_damperlaw4_known : Ann := .auto
/-- damper/damperlaw4.known -/
def F_damperlaw4_known  (K : Value → PT) : PT :=
  L.call Pr n_shelf_New [] (.one (.one (.ptr))) fun (x1 : Option Addr) =>
  L.ite ((x1).isNone) (
    K (.bool false)) <|
  L.call Pr n_shelf_Shelf_Names [.pointer x1, .int .i64 1] (.one (.one (.slice))) fun (x2 : Sl) =>
  L.ite (((x2.len : Nat) : Int) != 0) (
    K (.bool false)) <|
  L.call Pr n_shelf_Shelf_PutConfig [.pointer x1, .agg #[.string s_a, .int .i64 0, .int .i64 1, .int .i64 0, .int .i64 1, .int .i64 0], .int .i64 0] (.tup [(.one (.int .i64)), (.one (.int .i64))]) fun (x3 : Int × Int × Unit) =>
  L.call Pr n_shelf_Shelf_Config [.pointer x1, .string s_a] (.tup [(.agg [.str, .int .i64, .int .i64, .int .i64, .int .i64, .int .i64]), (.one (.int .i64)), (.one (.int .i64)), (.one (.bool))]) fun (x4 : (ByteArray × Int × Int × Int × Int × Int × Unit) × Int × Int × Bool × Unit) =>
  L.new [.string s_, .int .i64 0, .int .i64 0, .int .i64 0, .int .i64 0, .int .i64 0] T_api_Config fun b5 =>
  L.store (⟨b5, 0, none⟩) [.string x4.1.1, .int .i64 x4.1.2.1, .int .i64 x4.1.2.2.1, .int .i64 x4.1.2.2.2.1, .int .i64 x4.1.2.2.2.2.1, .int .i64 x4.1.2.2.2.2.2.1] <|
  L.ite (x3.1 == 1) (
    L.ite (x3.2.1 == 0) (
      L.ite x4.2.2.2.1 (
        L.ite (x4.2.1 == 1) (
          L.ite (x4.2.2.1 == 1) (
            L.load (.one (.str)) ((⟨b5, 0, none⟩ : Addr).add 0) fun (x6 : ByteArray) =>
            L.ite (x6.toList == s_a.toList) (
              L.call Pr n_shelf_Shelf_Names [.pointer x1, .int .i64 1] (.one (.one (.slice))) fun (x7 : Sl) =>
              K (.bool (((x7.len : Nat) : Int) == 1))) <|
            K (.bool false)) <|
          K (.bool false)) <|
        K (.bool false)) <|
      K (.bool false)) <|
    K (.bool false)) <|
  K (.bool false)
theorem D_damperlaw4_known  (K : Value → PT) : denF Pr Dt Try.f7 A_damperlaw4_known [] K = F_damperlaw4_known  K := by kernel_rfl
theorem C_damperlaw4_known  {K : Value → PT} {w : World} (h : F_damperlaw4_known  K w) : Calls Pr n_damperlaw4_known [].toArray w fun e w2 => ∃ v, e = .returned v ∧ K v w2 :=
  denF_ok Tok (f := 7) (fn := Try.f7) (an := A_damperlaw4_known) (args := []) (by kernel_rfl) (by kernel_rfl) ((congrFun (D_damperlaw4_known  K) w).mpr h)
theorem E_damperlaw4_known : Enters Pr n_damperlaw4_known := enters_of_B (by kernel_rfl)

def A_shelf_New : Ann := .auto
/-- damper/shelf.New -/
def F_shelf_New  (K : Value → PT) : PT :=
  L.call Pr n_shelf_made_api_Config [.func (.func n_shelf_New_1) #[] #[]] (.one (.one (.ptr))) fun (x1 : Option Addr) =>
  L.call Pr n_shelf_made_api_Route [.func (.func n_spec_SameRoute) #[] #[]] (.one (.one (.ptr))) fun (x2 : Option Addr) =>
  L.new [.pointer x1, .pointer x2, .int .i64 0] T_shelf_Shelf fun b3 =>
  K (.pointer (some (⟨b3, 0, none⟩)))
theorem D_shelf_New  (K : Value → PT) : denF Pr Dt Try.f8 A_shelf_New [] K = F_shelf_New  K := by kernel_rfl
theorem C_shelf_New  {K : Value → PT} {w : World} (h : F_shelf_New  K w) : Calls Pr n_shelf_New [].toArray w fun e w2 => ∃ v, e = .returned v ∧ K v w2 :=
  denF_ok Tok (f := 8) (fn := Try.f8) (an := A_shelf_New) (args := []) (by kernel_rfl) (by kernel_rfl) ((congrFun (D_shelf_New  K) w).mpr h)
theorem E_shelf_New : Enters Pr n_shelf_New := enters_of_B (by kernel_rfl)

def A_damperlaw2_Config : Ann := .auto
/-- damper/damperlaw2.Config -/
def F_damperlaw2_Config (p0 : HT [.str, .int .i64, .int .i64, .int .i64, .int .i64, .int .i64]) (p1 : Int) (K : Value → PT) : PT :=
  L.new [.string p0.1, .int .i64 p0.2.1, .int .i64 p0.2.2.1, .int .i64 p0.2.2.2.1, .int .i64 p0.2.2.2.2.1, .int .i64 p0.2.2.2.2.2.1] T_api_Config fun b1 =>
  L.new [.string s_, .int .i64 0, .int .i64 0, .int .i64 0, .int .i64 0, .int .i64 0] T_api_Config fun b2 =>
  L.new [.string s_web, .string s_api, .string s_a_b] T_string fun b3 =>
  L.call Pr n_damperlaw2_within [.int .i64 p1, .int .i64 3] (.one (.one (.int .i64))) fun (x4 : Int) =>
  L.idx (some ⟨b3, 0, none⟩) x4 3 1 fun a5 =>
  L.load (.one (.str)) a5 fun (x6 : ByteArray) =>
  L.store ((⟨b1, 0, none⟩ : Addr).add 0) [.string x6] <|
  L.load (.one (.int .i64)) ((⟨b1, 0, none⟩ : Addr).add 1) fun (x7 : Int) =>
  L.call Pr n_damperlaw2_within [.int .i64 x7, .int .i64 256] (.one (.one (.int .i64))) fun (x8 : Int) =>
  L.store ((⟨b1, 0, none⟩ : Addr).add 1) [.int .i64 x8] <|
  L.load (.one (.int .i64)) ((⟨b1, 0, none⟩ : Addr).add 2) fun (x9 : Int) =>
  L.call Pr n_damperlaw2_within [.int .i64 x9, .int .i64 8] (.one (.one (.int .i64))) fun (x10 : Int) =>
  L.store ((⟨b1, 0, none⟩ : Addr).add 2) [.int .i64 (IntKind.wrap .i64 (1 + x10))] <|
  L.load (.one (.int .i64)) ((⟨b1, 0, none⟩ : Addr).add 4) fun (x11 : Int) =>
  L.call Pr n_damperlaw2_within [.int .i64 x11, .int .i64 10] (.one (.one (.int .i64))) fun (x12 : Int) =>
  L.store ((⟨b1, 0, none⟩ : Addr).add 4) [.int .i64 (IntKind.wrap .i64 (1 + x12))] <|
  L.load (.one (.int .i64)) ((⟨b1, 0, none⟩ : Addr).add 3) fun (x13 : Int) =>
  L.load (.one (.int .i64)) ((⟨b1, 0, none⟩ : Addr).add 4) fun (x14 : Int) =>
  L.call Pr n_damperlaw2_within [.int .i64 x13, .int .i64 (IntKind.wrap .i64 (x14 + 1))] (.one (.one (.int .i64))) fun (x15 : Int) =>
  L.store ((⟨b1, 0, none⟩ : Addr).add 3) [.int .i64 x15] <|
  L.load (.one (.int .i64)) ((⟨b1, 0, none⟩ : Addr).add 5) fun (x16 : Int) =>
  L.call Pr n_damperlaw2_within [.int .i64 x16, .int .i64 31] (.one (.one (.int .i64))) fun (x17 : Int) =>
  L.store ((⟨b1, 0, none⟩ : Addr).add 5) [.int .i64 x17] <|
  L.load (.agg [.str, .int .i64, .int .i64, .int .i64, .int .i64, .int .i64]) (⟨b1, 0, none⟩) fun (x18 : ByteArray × Int × Int × Int × Int × Int × Unit) =>
  L.store (⟨b2, 0, none⟩) [.string x18.1, .int .i64 x18.2.1, .int .i64 x18.2.2.1, .int .i64 x18.2.2.2.1, .int .i64 x18.2.2.2.2.1, .int .i64 x18.2.2.2.2.2.1] <|
  L.load (.agg [.str, .int .i64, .int .i64, .int .i64, .int .i64, .int .i64]) (⟨b2, 0, none⟩) fun (x19 : ByteArray × Int × Int × Int × Int × Int × Unit) =>
  K (.agg #[.string x19.1, .int .i64 x19.2.1, .int .i64 x19.2.2.1, .int .i64 x19.2.2.2.1, .int .i64 x19.2.2.2.2.1, .int .i64 x19.2.2.2.2.2.1])
theorem D_damperlaw2_Config (p0 : HT [.str, .int .i64, .int .i64, .int .i64, .int .i64, .int .i64]) (p1 : Int) (K : Value → PT) : denF Pr Dt Try.f9 A_damperlaw2_Config [.ag [.string p0.1, .int .i64 p0.2.1, .int .i64 p0.2.2.1, .int .i64 p0.2.2.2.1, .int .i64 p0.2.2.2.2.1, .int .i64 p0.2.2.2.2.2.1], .v (.int .i64 p1)] K = F_damperlaw2_Config p0 p1 K := by kernel_rfl
theorem C_damperlaw2_Config (p0 : HT [.str, .int .i64, .int .i64, .int .i64, .int .i64, .int .i64]) (p1 : Int) {K : Value → PT} {w : World} (h : F_damperlaw2_Config p0 p1 K w) : Calls Pr n_damperlaw2_Config [(.ag [.string p0.1, .int .i64 p0.2.1, .int .i64 p0.2.2.1, .int .i64 p0.2.2.2.1, .int .i64 p0.2.2.2.2.1, .int .i64 p0.2.2.2.2.2.1] : SV).toV, .int .i64 p1].toArray w fun e w2 => ∃ v, e = .returned v ∧ K v w2 :=
  denF_ok Tok (f := 9) (fn := Try.f9) (an := A_damperlaw2_Config) (args := [.ag [.string p0.1, .int .i64 p0.2.1, .int .i64 p0.2.2.1, .int .i64 p0.2.2.2.1, .int .i64 p0.2.2.2.2.1, .int .i64 p0.2.2.2.2.2.1], .v (.int .i64 p1)]) (by kernel_rfl) (by kernel_rfl) ((congrFun (D_damperlaw2_Config p0 p1 K) w).mpr h)
theorem E_damperlaw2_Config : Enters Pr n_damperlaw2_Config := enters_of_B (by kernel_rfl)

def A_damperlaw4_within : Ann := (.seq .auto (.seq .auto (.seq .auto .auto (some [(5, (.one (.int .i64)))])) none) none)
/-- damper/damperlaw4.within -/
def F_damperlaw4_within (p0 : Int) (p1 : Int) (K : Value → PT) : PT :=
  L.guard (p1 ≠ (0 : Int)) <|
  L.join (Y := Int × Unit) (fun k1 =>
    L.ite (decide ((Int.tmod p0 p1) < 0)) (
      k1 (IntKind.wrap .i64 ((Int.tmod p0 p1) + p1), ())) <|
    k1 (Int.tmod p0 p1, ())) fun z2 =>
  K (.int .i64 z2.1)
theorem D_damperlaw4_within (p0 : Int) (p1 : Int) (K : Value → PT) : denF Pr Dt Try.f10 A_damperlaw4_within [.v (.int .i64 p0), .v (.int .i64 p1)] K = F_damperlaw4_within p0 p1 K := by kernel_rfl
theorem C_damperlaw4_within (p0 : Int) (p1 : Int) {K : Value → PT} {w : World} (h : F_damperlaw4_within p0 p1 K w) : Calls Pr n_damperlaw4_within [.int .i64 p0, .int .i64 p1].toArray w fun e w2 => ∃ v, e = .returned v ∧ K v w2 :=
  denF_ok Tok (f := 10) (fn := Try.f10) (an := A_damperlaw4_within) (args := [.v (.int .i64 p0), .v (.int .i64 p1)]) (by kernel_rfl) (by kernel_rfl) ((congrFun (D_damperlaw4_within p0 p1 K) w).mpr h)
theorem E_damperlaw4_within : Enters Pr n_damperlaw4_within := enters_of_B (by kernel_rfl)

def A_shelf_Shelf_PutConfig : Ann := (.seq .auto (.seq .auto (.seq .auto .auto (some [(8, (.one (.int .i64)))])) none) none)
/-- (*damper/shelf.Shelf).PutConfig -/
def F_shelf_Shelf_PutConfig (p0 : Option Addr) (p1 : HT [.str, .int .i64, .int .i64, .int .i64, .int .i64, .int .i64]) (p2 : Int) (K : Value → PT) : PT :=
  L.new [.string p1.1, .int .i64 p1.2.1, .int .i64 p1.2.2.1, .int .i64 p1.2.2.2.1, .int .i64 p1.2.2.2.2.1, .int .i64 p1.2.2.2.2.2.1] T_api_Config fun b1 =>
  L.load (.agg [.str, .int .i64, .int .i64, .int .i64, .int .i64, .int .i64]) (⟨b1, 0, none⟩) fun (x2 : ByteArray × Int × Int × Int × Int × Int × Unit) =>
  L.call Pr n_spec_Config [.agg #[.string x2.1, .int .i64 x2.2.1, .int .i64 x2.2.2.1, .int .i64 x2.2.2.2.1, .int .i64 x2.2.2.2.2.1, .int .i64 x2.2.2.2.2.2.1]] (.one (.one (.int .i64))) fun (x3 : Int) =>
  L.join (Y := Int × Unit) (fun k4 =>
    L.ite (x3 == 0) (
      L.draw <|
      L.nonnil p0 fun a6 =>
      L.load (.one (.ptr)) (a6.add 0) fun (x7 : Option Addr) =>
      L.load (.one (.str)) ((⟨b1, 0, none⟩ : Addr).add 0) fun (x8 : ByteArray) =>
      L.call Pr n_shelf_rack_api_Config_may [.pointer x7, .string x8, .int .i64 p2, .bool true] (.one (.one (.int .i64))) fun (x9 : Int) =>
      k4 (x9, ())) <|
    k4 (x3, ())) fun z5 =>
  L.ite (z5.1 != 0) (
    K (.tuple #[.int .i64 0, .int .i64 z5.1])) <|
  L.nonnil p0 fun a10 =>
  L.load (.one (.int .i64)) (a10.add 2) fun (x11 : Int) =>
  L.nonnil p0 fun a12 =>
  L.store (a12.add 2) [.int .i64 (IntKind.wrap .i64 (x11 + 1))] <|
  L.draw <|
  L.nonnil p0 fun a13 =>
  L.load (.one (.ptr)) (a13.add 0) fun (x14 : Option Addr) =>
  L.load (.one (.str)) ((⟨b1, 0, none⟩ : Addr).add 0) fun (x15 : ByteArray) =>
  L.load (.agg [.str, .int .i64, .int .i64, .int .i64, .int .i64, .int .i64]) (⟨b1, 0, none⟩) fun (x16 : ByteArray × Int × Int × Int × Int × Int × Unit) =>
  L.nonnil p0 fun a17 =>
  L.load (.one (.int .i64)) (a17.add 2) fun (x18 : Int) =>
  L.call Pr n_shelf_rack_api_Config_put [.pointer x14, .string x15, .agg #[.string x16.1, .int .i64 x16.2.1, .int .i64 x16.2.2.1, .int .i64 x16.2.2.2.1, .int .i64 x16.2.2.2.2.1, .int .i64 x16.2.2.2.2.2.1], .int .i64 x18] (.tup []) fun (x19 : Unit) =>
  L.nonnil p0 fun a20 =>
  L.load (.one (.int .i64)) (a20.add 2) fun (x21 : Int) =>
  K (.tuple #[.int .i64 x21, .int .i64 0])
theorem D_shelf_Shelf_PutConfig (p0 : Option Addr) (p1 : HT [.str, .int .i64, .int .i64, .int .i64, .int .i64, .int .i64]) (p2 : Int) (K : Value → PT) : denF Pr Dt Try.f11 A_shelf_Shelf_PutConfig [.v (.pointer p0), .ag [.string p1.1, .int .i64 p1.2.1, .int .i64 p1.2.2.1, .int .i64 p1.2.2.2.1, .int .i64 p1.2.2.2.2.1, .int .i64 p1.2.2.2.2.2.1], .v (.int .i64 p2)] K = F_shelf_Shelf_PutConfig p0 p1 p2 K := by kernel_rfl
theorem C_shelf_Shelf_PutConfig (p0 : Option Addr) (p1 : HT [.str, .int .i64, .int .i64, .int .i64, .int .i64, .int .i64]) (p2 : Int) {K : Value → PT} {w : World} (h : F_shelf_Shelf_PutConfig p0 p1 p2 K w) : Calls Pr n_shelf_Shelf_PutConfig [.pointer p0, (.ag [.string p1.1, .int .i64 p1.2.1, .int .i64 p1.2.2.1, .int .i64 p1.2.2.2.1, .int .i64 p1.2.2.2.2.1, .int .i64 p1.2.2.2.2.2.1] : SV).toV, .int .i64 p2].toArray w fun e w2 => ∃ v, e = .returned v ∧ K v w2 :=
  denF_ok Tok (f := 11) (fn := Try.f11) (an := A_shelf_Shelf_PutConfig) (args := [.v (.pointer p0), .ag [.string p1.1, .int .i64 p1.2.1, .int .i64 p1.2.2.1, .int .i64 p1.2.2.2.1, .int .i64 p1.2.2.2.2.1, .int .i64 p1.2.2.2.2.2.1], .v (.int .i64 p2)]) (by kernel_rfl) (by kernel_rfl) ((congrFun (D_shelf_Shelf_PutConfig p0 p1 p2 K) w).mpr h)
theorem E_shelf_Shelf_PutConfig : Enters Pr n_shelf_Shelf_PutConfig := enters_of_B (by kernel_rfl)

def A_shelf_Shelf_Config : Ann := .auto
/-- (*damper/shelf.Shelf).Config -/
def F_shelf_Shelf_Config (p0 : Option Addr) (p1 : ByteArray) (K : Value → PT) : PT :=
  L.new [.string s_, .int .i64 0, .int .i64 0, .int .i64 0, .int .i64 0, .int .i64 0] T_api_Config fun b1 =>
  L.nonnil p0 fun a2 =>
  L.load (.one (.ptr)) (a2.add 0) fun (x3 : Option Addr) =>
  L.call Pr n_shelf_rack_api_Config_get [.pointer x3, .string p1] (.tup [(.agg [.str, .int .i64, .int .i64, .int .i64, .int .i64, .int .i64, .int .i64, .int .i64, .bool]), (.one (.bool))]) fun (x4 : (ByteArray × Int × Int × Int × Int × Int × Int × Int × Bool × Unit) × Bool × Unit) =>
  L.new [.string s_, .int .i64 0, .int .i64 0, .int .i64 0, .int .i64 0, .int .i64 0, .int .i64 0, .int .i64 0, .bool false] T_shelf_thing_api_Config fun b5 =>
  L.store (⟨b5, 0, none⟩) [.string x4.1.1, .int .i64 x4.1.2.1, .int .i64 x4.1.2.2.1, .int .i64 x4.1.2.2.2.1, .int .i64 x4.1.2.2.2.2.1, .int .i64 x4.1.2.2.2.2.2.1, .int .i64 x4.1.2.2.2.2.2.2.1, .int .i64 x4.1.2.2.2.2.2.2.2.1, .bool x4.1.2.2.2.2.2.2.2.2.1] <|
  L.ite (!x4.2.1) (
    L.store (⟨b1, 0, none⟩) [.string s_, .int .i64 0, .int .i64 0, .int .i64 0, .int .i64 0, .int .i64 0] <|
    L.load (.agg [.str, .int .i64, .int .i64, .int .i64, .int .i64, .int .i64]) (⟨b1, 0, none⟩) fun (x6 : ByteArray × Int × Int × Int × Int × Int × Unit) =>
    K (.tuple #[.agg #[.string x6.1, .int .i64 x6.2.1, .int .i64 x6.2.2.1, .int .i64 x6.2.2.2.1, .int .i64 x6.2.2.2.2.1, .int .i64 x6.2.2.2.2.2.1], .int .i64 0, .int .i64 0, .bool false])) <|
  L.draw <|
  L.load (.agg [.str, .int .i64, .int .i64, .int .i64, .int .i64, .int .i64]) ((⟨b5, 0, none⟩ : Addr).add 0) fun (x7 : ByteArray × Int × Int × Int × Int × Int × Unit) =>
  L.load (.one (.int .i64)) ((⟨b5, 0, none⟩ : Addr).add 6) fun (x8 : Int) =>
  L.load (.one (.int .i64)) ((⟨b5, 0, none⟩ : Addr).add 7) fun (x9 : Int) =>
  L.store (⟨b1, 0, none⟩) [.string x7.1, .int .i64 x7.2.1, .int .i64 x7.2.2.1, .int .i64 x7.2.2.2.1, .int .i64 x7.2.2.2.2.1, .int .i64 x7.2.2.2.2.2.1] <|
  L.chk ((⟨b5, 0, none⟩ : Addr).add 7) [.int .i64 x9] <|
  L.chk ((⟨b5, 0, none⟩ : Addr).add 6) [.int .i64 x8] <|
  L.chk ((⟨b5, 0, none⟩ : Addr).add 7) [.int .i64 x9] <|
  L.load (.agg [.str, .int .i64, .int .i64, .int .i64, .int .i64, .int .i64]) (⟨b1, 0, none⟩) fun (x10 : ByteArray × Int × Int × Int × Int × Int × Unit) =>
  K (.tuple #[.agg #[.string x10.1, .int .i64 x10.2.1, .int .i64 x10.2.2.1, .int .i64 x10.2.2.2.1, .int .i64 x10.2.2.2.2.1, .int .i64 x10.2.2.2.2.2.1], .int .i64 x8, .int .i64 x9, .bool true])
theorem D_shelf_Shelf_Config (p0 : Option Addr) (p1 : ByteArray) (K : Value → PT) : denF Pr Dt Try.f12 A_shelf_Shelf_Config [.v (.pointer p0), .v (.string p1)] K = F_shelf_Shelf_Config p0 p1 K := by kernel_rfl
theorem C_shelf_Shelf_Config (p0 : Option Addr) (p1 : ByteArray) {K : Value → PT} {w : World} (h : F_shelf_Shelf_Config p0 p1 K w) : Calls Pr n_shelf_Shelf_Config [.pointer p0, .string p1].toArray w fun e w2 => ∃ v, e = .returned v ∧ K v w2 :=
  denF_ok Tok (f := 12) (fn := Try.f12) (an := A_shelf_Shelf_Config) (args := [.v (.pointer p0), .v (.string p1)]) (by kernel_rfl) (by kernel_rfl) ((congrFun (D_shelf_Shelf_Config p0 p1 K) w).mpr h)
theorem E_shelf_Shelf_Config : Enters Pr n_shelf_Shelf_Config := enters_of_B (by kernel_rfl)

def A_shelf_Shelf_Drop : Ann := (.seq .auto (.seq .auto (.seq .auto (.seq .auto .auto (some [])) (some [(9, (.one (.int .i64)))])) none) none)
/-- (*damper/shelf.Shelf).Drop -/
def F_shelf_Shelf_Drop (p0 : Option Addr) (p1 : Int) (p2 : ByteArray) (p3 : Int) (K : Value → PT) : PT :=
  L.join (Y := Int × Unit) (fun k1 =>
    L.ite (p1 == 1) (
      L.nonnil p0 fun a3 =>
      L.load (.one (.ptr)) (a3.add 0) fun (x4 : Option Addr) =>
      L.call Pr n_shelf_taken_api_Config [.pointer x4, .string p2, .int .i64 p3] (.one (.one (.int .i64))) fun (x5 : Int) =>
      k1 (x5, ())) <|
    L.ite (p1 == 2) (
      L.nonnil p0 fun a6 =>
      L.load (.one (.ptr)) (a6.add 1) fun (x7 : Option Addr) =>
      L.call Pr n_shelf_taken_api_Route [.pointer x7, .string p2, .int .i64 p3] (.one (.one (.int .i64))) fun (x8 : Int) =>
      k1 (x8, ())) <|
    k1 (12, ())) fun z2 =>
  L.join (Y := Unit) (fun k9 =>
    L.ite (z2.1 == 0) (
      L.nonnil p0 fun a11 =>
      L.load (.one (.int .i64)) (a11.add 2) fun (x12 : Int) =>
      L.nonnil p0 fun a13 =>
      L.store (a13.add 2) [.int .i64 (IntKind.wrap .i64 (x12 + 1))] <|
      k9 (())) <|
    k9 (())) fun z10 =>
  K (.int .i64 z2.1)
theorem D_shelf_Shelf_Drop (p0 : Option Addr) (p1 : Int) (p2 : ByteArray) (p3 : Int) (K : Value → PT) : denF Pr Dt Try.f13 A_shelf_Shelf_Drop [.v (.pointer p0), .v (.int .i64 p1), .v (.string p2), .v (.int .i64 p3)] K = F_shelf_Shelf_Drop p0 p1 p2 p3 K := by kernel_rfl
theorem C_shelf_Shelf_Drop (p0 : Option Addr) (p1 : Int) (p2 : ByteArray) (p3 : Int) {K : Value → PT} {w : World} (h : F_shelf_Shelf_Drop p0 p1 p2 p3 K w) : Calls Pr n_shelf_Shelf_Drop [.pointer p0, .int .i64 p1, .string p2, .int .i64 p3].toArray w fun e w2 => ∃ v, e = .returned v ∧ K v w2 :=
  denF_ok Tok (f := 13) (fn := Try.f13) (an := A_shelf_Shelf_Drop) (args := [.v (.pointer p0), .v (.int .i64 p1), .v (.string p2), .v (.int .i64 p3)]) (by kernel_rfl) (by kernel_rfl) ((congrFun (D_shelf_Shelf_Drop p0 p1 p2 p3 K) w).mpr h)
theorem E_shelf_Shelf_Drop : Enters Pr n_shelf_Shelf_Drop := enters_of_B (by kernel_rfl)

def A_damperlaw4_versions : Ann := .auto
/-- damper/damperlaw4.versions -/
def F_damperlaw4_versions  (K : Value → PT) : PT :=
  L.sem Pr (.one (.one .slice)) (Instr.makeSlice T_s_int (.int .i64 20) (.int .i64 20)) fun (s1 : Sl) =>
  K (.slice s1.a s1.len s1.cap)
theorem D_damperlaw4_versions  (K : Value → PT) : denF Pr Dt Try.f14 A_damperlaw4_versions [] K = F_damperlaw4_versions  K := by kernel_rfl
theorem C_damperlaw4_versions  {K : Value → PT} {w : World} (h : F_damperlaw4_versions  K w) : Calls Pr n_damperlaw4_versions [].toArray w fun e w2 => ∃ v, e = .returned v ∧ K v w2 :=
  denF_ok Tok (f := 14) (fn := Try.f14) (an := A_damperlaw4_versions) (args := []) (by kernel_rfl) (by kernel_rfl) ((congrFun (D_damperlaw4_versions  K) w).mpr h)
theorem E_damperlaw4_versions : Enters Pr n_damperlaw4_versions := enters_of_B (by kernel_rfl)

def A_damperref4_Same : Ann := (.seq .auto (.seq .auto (.seq (.seq .auto (.one [(5, (.one (.int .i64)))] .auto) none) .auto none) none) none)
/-- damper/damperref4.Same -/
def F_damperref4_Same (p0 : Sl) (p1 : Sl) (K : Value → PT) : PT :=
  L.ite (((p0.len : Nat) : Int) != ((p1.len : Nat) : Int)) (
    K (.bool false)) <|
  L.loop (Y := Int × Unit) (0, ()) fun y1 again2 =>
  L.ite (decide (y1.1 < ((p0.len : Nat) : Int))) (
    L.draw <|
    L.idx p0.a y1.1 p0.len 1 fun a3 =>
    L.load (.one (.str)) a3 fun (x4 : ByteArray) =>
    L.idx p1.a y1.1 p1.len 1 fun a5 =>
    L.load (.one (.str)) a5 fun (x6 : ByteArray) =>
    L.ite (!(x4.toList == x6.toList)) (
      K (.bool false)) <|
    again2 (IntKind.wrap .i64 (y1.1 + 1), ())) <|
  K (.bool true)
theorem D_damperref4_Same (p0 : Sl) (p1 : Sl) (K : Value → PT) : denF Pr Dt Try.f15 A_damperref4_Same [.v (.slice p0.a p0.len p0.cap), .v (.slice p1.a p1.len p1.cap)] K = F_damperref4_Same p0 p1 K := by kernel_rfl
theorem C_damperref4_Same (p0 : Sl) (p1 : Sl) {K : Value → PT} {w : World} (h : F_damperref4_Same p0 p1 K w) : Calls Pr n_damperref4_Same [.slice p0.a p0.len p0.cap, .slice p1.a p1.len p1.cap].toArray w fun e w2 => ∃ v, e = .returned v ∧ K v w2 :=
  denF_ok Tok (f := 15) (fn := Try.f15) (an := A_damperref4_Same) (args := [.v (.slice p0.a p0.len p0.cap), .v (.slice p1.a p1.len p1.cap)]) (by kernel_rfl) (by kernel_rfl) ((congrFun (D_damperref4_Same p0 p1 K) w).mpr h)
theorem E_damperref4_Same : Enters Pr n_damperref4_Same := enters_of_B (by kernel_rfl)

def A_shelf_Shelf_Names : Ann := .auto
/-- (*damper/shelf.Shelf).Names -/
def F_shelf_Shelf_Names (p0 : Option Addr) (p1 : Int) (K : Value → PT) : PT :=
  L.ite (p1 == 1) (
    L.nonnil p0 fun a1 =>
    L.load (.one (.ptr)) (a1.add 0) fun (x2 : Option Addr) =>
    L.call Pr n_shelf_rack_api_Config_names [.pointer x2] (.one (.one (.func))) fun (x3 : FV) =>
    L.call Pr n_shelf_list [.func x3.fn x3.fs x3.cs] (.one (.one (.slice))) fun (x4 : Sl) =>
    K (.slice x4.a x4.len x4.cap)) <|
  L.ite (p1 == 2) (
    L.nonnil p0 fun a5 =>
    L.load (.one (.ptr)) (a5.add 1) fun (x6 : Option Addr) =>
    L.call Pr n_shelf_rack_api_Route_names [.pointer x6] (.one (.one (.func))) fun (x7 : FV) =>
    L.call Pr n_shelf_list [.func x7.fn x7.fs x7.cs] (.one (.one (.slice))) fun (x8 : Sl) =>
    K (.slice x8.a x8.len x8.cap)) <|
  K (.slice none 0 0)
theorem D_shelf_Shelf_Names (p0 : Option Addr) (p1 : Int) (K : Value → PT) : denF Pr Dt Try.f16 A_shelf_Shelf_Names [.v (.pointer p0), .v (.int .i64 p1)] K = F_shelf_Shelf_Names p0 p1 K := by kernel_rfl
theorem C_shelf_Shelf_Names (p0 : Option Addr) (p1 : Int) {K : Value → PT} {w : World} (h : F_shelf_Shelf_Names p0 p1 K w) : Calls Pr n_shelf_Shelf_Names [.pointer p0, .int .i64 p1].toArray w fun e w2 => ∃ v, e = .returned v ∧ K v w2 :=
  denF_ok Tok (f := 16) (fn := Try.f16) (an := A_shelf_Shelf_Names) (args := [.v (.pointer p0), .v (.int .i64 p1)]) (by kernel_rfl) (by kernel_rfl) ((congrFun (D_shelf_Shelf_Names p0 p1 K) w).mpr h)
theorem E_shelf_Shelf_Names : Enters Pr n_shelf_Shelf_Names := enters_of_B (by kernel_rfl)

def A_shelf_made_api_Config : Ann := .auto
/-- damper/shelf.made[damper/api.Config] -/
def F_shelf_made_api_Config (p0 : FV) (K : Value → PT) : PT :=
  L.sem Pr (.one (.one .map)) (Instr.makeMap T_map_string_shelf_thing_api_Config none) fun (m1 : Option Nat) =>
  L.new [.map m1, .func p0.fn p0.fs p0.cs] T_shelf_rack_api_Config fun b2 =>
  K (.pointer (some (⟨b2, 0, none⟩)))
theorem D_shelf_made_api_Config (p0 : FV) (K : Value → PT) : denF Pr Dt Try.f17 A_shelf_made_api_Config [.v (.func p0.fn p0.fs p0.cs)] K = F_shelf_made_api_Config p0 K := by kernel_rfl
theorem C_shelf_made_api_Config (p0 : FV) {K : Value → PT} {w : World} (h : F_shelf_made_api_Config p0 K w) : Calls Pr n_shelf_made_api_Config [.func p0.fn p0.fs p0.cs].toArray w fun e w2 => ∃ v, e = .returned v ∧ K v w2 :=
  denF_ok Tok (f := 17) (fn := Try.f17) (an := A_shelf_made_api_Config) (args := [.v (.func p0.fn p0.fs p0.cs)]) (by kernel_rfl) (by kernel_rfl) ((congrFun (D_shelf_made_api_Config p0 K) w).mpr h)
theorem E_shelf_made_api_Config : Enters Pr n_shelf_made_api_Config := enters_of_B (by kernel_rfl)

def A_shelf_New_1 : Ann := .auto
/-- damper/shelf.New$1 -/
def F_shelf_New_1 (p0 : HT [.str, .int .i64, .int .i64, .int .i64, .int .i64, .int .i64]) (p1 : HT [.str, .int .i64, .int .i64, .int .i64, .int .i64, .int .i64]) (K : Value → PT) : PT :=
  L.new [.string p0.1, .int .i64 p0.2.1, .int .i64 p0.2.2.1, .int .i64 p0.2.2.2.1, .int .i64 p0.2.2.2.2.1, .int .i64 p0.2.2.2.2.2.1] T_api_Config fun b1 =>
  L.new [.string p1.1, .int .i64 p1.2.1, .int .i64 p1.2.2.1, .int .i64 p1.2.2.2.1, .int .i64 p1.2.2.2.2.1, .int .i64 p1.2.2.2.2.2.1] T_api_Config fun b2 =>
  L.load (.agg [.str, .int .i64, .int .i64, .int .i64, .int .i64, .int .i64]) (⟨b1, 0, none⟩) fun (x3 : ByteArray × Int × Int × Int × Int × Int × Unit) =>
  L.load (.agg [.str, .int .i64, .int .i64, .int .i64, .int .i64, .int .i64]) (⟨b2, 0, none⟩) fun (x4 : ByteArray × Int × Int × Int × Int × Int × Unit) =>
  L.chkSem Pr (do eqGuard .eql T_api_Config (.tmp 0) (.tmp 0) (.agg #[.string x3.1, .int .i64 x3.2.1, .int .i64 x3.2.2.1, .int .i64 x3.2.2.2.1, .int .i64 x3.2.2.2.2.1, .int .i64 x3.2.2.2.2.2.1]) (.agg #[.string x4.1, .int .i64 x4.2.1, .int .i64 x4.2.2.1, .int .i64 x4.2.2.2.1, .int .i64 x4.2.2.2.2.1, .int .i64 x4.2.2.2.2.2.1]); binOp .eql T_api_Config (.agg #[.string x3.1, .int .i64 x3.2.1, .int .i64 x3.2.2.1, .int .i64 x3.2.2.2.1, .int .i64 x3.2.2.2.2.1, .int .i64 x3.2.2.2.2.2.1]) (.agg #[.string x4.1, .int .i64 x4.2.1, .int .i64 x4.2.2.1, .int .i64 x4.2.2.2.1, .int .i64 x4.2.2.2.2.1, .int .i64 x4.2.2.2.2.2.1])) (.bool ((x3.1 == x4.1) && ((x3.2.1 == x4.2.1) && ((x3.2.2.1 == x4.2.2.1) && ((x3.2.2.2.1 == x4.2.2.2.1) && ((x3.2.2.2.2.1 == x4.2.2.2.2.1) && ((x3.2.2.2.2.2.1 == x4.2.2.2.2.2.1) && true))))))) <|
  K (.bool ((x3.1 == x4.1) && ((x3.2.1 == x4.2.1) && ((x3.2.2.1 == x4.2.2.1) && ((x3.2.2.2.1 == x4.2.2.2.1) && ((x3.2.2.2.2.1 == x4.2.2.2.2.1) && ((x3.2.2.2.2.2.1 == x4.2.2.2.2.2.1) && true)))))))
theorem D_shelf_New_1 (p0 : HT [.str, .int .i64, .int .i64, .int .i64, .int .i64, .int .i64]) (p1 : HT [.str, .int .i64, .int .i64, .int .i64, .int .i64, .int .i64]) (K : Value → PT) : denF Pr Dt Try.f18 A_shelf_New_1 [.ag [.string p0.1, .int .i64 p0.2.1, .int .i64 p0.2.2.1, .int .i64 p0.2.2.2.1, .int .i64 p0.2.2.2.2.1, .int .i64 p0.2.2.2.2.2.1], .ag [.string p1.1, .int .i64 p1.2.1, .int .i64 p1.2.2.1, .int .i64 p1.2.2.2.1, .int .i64 p1.2.2.2.2.1, .int .i64 p1.2.2.2.2.2.1]] K = F_shelf_New_1 p0 p1 K := by kernel_rfl
theorem C_shelf_New_1 (p0 : HT [.str, .int .i64, .int .i64, .int .i64, .int .i64, .int .i64]) (p1 : HT [.str, .int .i64, .int .i64, .int .i64, .int .i64, .int .i64]) {K : Value → PT} {w : World} (h : F_shelf_New_1 p0 p1 K w) : Calls Pr n_shelf_New_1 [(.ag [.string p0.1, .int .i64 p0.2.1, .int .i64 p0.2.2.1, .int .i64 p0.2.2.2.1, .int .i64 p0.2.2.2.2.1, .int .i64 p0.2.2.2.2.2.1] : SV).toV, (.ag [.string p1.1, .int .i64 p1.2.1, .int .i64 p1.2.2.1, .int .i64 p1.2.2.2.1, .int .i64 p1.2.2.2.2.1, .int .i64 p1.2.2.2.2.2.1] : SV).toV].toArray w fun e w2 => ∃ v, e = .returned v ∧ K v w2 :=
  denF_ok Tok (f := 18) (fn := Try.f18) (an := A_shelf_New_1) (args := [.ag [.string p0.1, .int .i64 p0.2.1, .int .i64 p0.2.2.1, .int .i64 p0.2.2.2.1, .int .i64 p0.2.2.2.2.1, .int .i64 p0.2.2.2.2.2.1], .ag [.string p1.1, .int .i64 p1.2.1, .int .i64 p1.2.2.1, .int .i64 p1.2.2.2.1, .int .i64 p1.2.2.2.2.1, .int .i64 p1.2.2.2.2.2.1]]) (by kernel_rfl) (by kernel_rfl) ((congrFun (D_shelf_New_1 p0 p1 K) w).mpr h)
theorem E_shelf_New_1 : Enters Pr n_shelf_New_1 := enters_of_B (by kernel_rfl)

def A_shelf_made_api_Route : Ann := .auto
/-- damper/shelf.made[damper/api.Route] -/
def F_shelf_made_api_Route (p0 : FV) (K : Value → PT) : PT :=
  L.sem Pr (.one (.one .map)) (Instr.makeMap T_map_string_shelf_thing_api_Route none) fun (m1 : Option Nat) =>
  L.new [.map m1, .func p0.fn p0.fs p0.cs] T_shelf_rack_api_Route fun b2 =>
  K (.pointer (some (⟨b2, 0, none⟩)))
theorem D_shelf_made_api_Route (p0 : FV) (K : Value → PT) : denF Pr Dt Try.f19 A_shelf_made_api_Route [.v (.func p0.fn p0.fs p0.cs)] K = F_shelf_made_api_Route p0 K := by kernel_rfl
theorem C_shelf_made_api_Route (p0 : FV) {K : Value → PT} {w : World} (h : F_shelf_made_api_Route p0 K w) : Calls Pr n_shelf_made_api_Route [.func p0.fn p0.fs p0.cs].toArray w fun e w2 => ∃ v, e = .returned v ∧ K v w2 :=
  denF_ok Tok (f := 19) (fn := Try.f19) (an := A_shelf_made_api_Route) (args := [.v (.func p0.fn p0.fs p0.cs)]) (by kernel_rfl) (by kernel_rfl) ((congrFun (D_shelf_made_api_Route p0 K) w).mpr h)
theorem E_shelf_made_api_Route : Enters Pr n_shelf_made_api_Route := enters_of_B (by kernel_rfl)

def A_spec_SameRoute : Ann := .auto
/-- damper/spec.SameRoute -/
def F_spec_SameRoute (p0 : HT [.str, .str, .slice, .int .i64]) (p1 : HT [.str, .str, .slice, .int .i64]) (K : Value → PT) : PT :=
  L.new [.string p0.1, .string p0.2.1, .slice p0.2.2.1.a p0.2.2.1.len p0.2.2.1.cap, .int .i64 p0.2.2.2.1] T_api_Route fun b1 =>
  L.new [.string p1.1, .string p1.2.1, .slice p1.2.2.1.a p1.2.2.1.len p1.2.2.1.cap, .int .i64 p1.2.2.2.1] T_api_Route fun b2 =>
  L.load (.one (.str)) ((⟨b1, 0, none⟩ : Addr).add 0) fun (x3 : ByteArray) =>
  L.load (.one (.str)) ((⟨b2, 0, none⟩ : Addr).add 0) fun (x4 : ByteArray) =>
  L.ite (x3.toList == x4.toList) (
    L.load (.one (.str)) ((⟨b1, 0, none⟩ : Addr).add 1) fun (x5 : ByteArray) =>
    L.load (.one (.str)) ((⟨b2, 0, none⟩ : Addr).add 1) fun (x6 : ByteArray) =>
    L.ite (x5.toList == x6.toList) (
      L.load (.one (.int .i64)) ((⟨b1, 0, none⟩ : Addr).add 3) fun (x7 : Int) =>
      L.load (.one (.int .i64)) ((⟨b2, 0, none⟩ : Addr).add 3) fun (x8 : Int) =>
      L.ite (x7 == x8) (
        L.load (.one (.slice)) ((⟨b1, 0, none⟩ : Addr).add 2) fun (x9 : Sl) =>
        L.load (.one (.slice)) ((⟨b2, 0, none⟩ : Addr).add 2) fun (x10 : Sl) =>
        L.call Pr n_slices_EqualFunc_api_Target_api_Target_api_Target_api_Target [.slice x9.a x9.len x9.cap, .slice x10.a x10.len x10.cap, .func (.func n_spec_same) #[] #[]] (.one (.one (.bool))) fun (x11 : Bool) =>
        K (.bool x11)) <|
      K (.bool false)) <|
    K (.bool false)) <|
  K (.bool false)
theorem D_spec_SameRoute (p0 : HT [.str, .str, .slice, .int .i64]) (p1 : HT [.str, .str, .slice, .int .i64]) (K : Value → PT) : denF Pr Dt Try.f20 A_spec_SameRoute [.ag [.string p0.1, .string p0.2.1, .slice p0.2.2.1.a p0.2.2.1.len p0.2.2.1.cap, .int .i64 p0.2.2.2.1], .ag [.string p1.1, .string p1.2.1, .slice p1.2.2.1.a p1.2.2.1.len p1.2.2.1.cap, .int .i64 p1.2.2.2.1]] K = F_spec_SameRoute p0 p1 K := by kernel_rfl
theorem C_spec_SameRoute (p0 : HT [.str, .str, .slice, .int .i64]) (p1 : HT [.str, .str, .slice, .int .i64]) {K : Value → PT} {w : World} (h : F_spec_SameRoute p0 p1 K w) : Calls Pr n_spec_SameRoute [(.ag [.string p0.1, .string p0.2.1, .slice p0.2.2.1.a p0.2.2.1.len p0.2.2.1.cap, .int .i64 p0.2.2.2.1] : SV).toV, (.ag [.string p1.1, .string p1.2.1, .slice p1.2.2.1.a p1.2.2.1.len p1.2.2.1.cap, .int .i64 p1.2.2.2.1] : SV).toV].toArray w fun e w2 => ∃ v, e = .returned v ∧ K v w2 :=
  denF_ok Tok (f := 20) (fn := Try.f20) (an := A_spec_SameRoute) (args := [.ag [.string p0.1, .string p0.2.1, .slice p0.2.2.1.a p0.2.2.1.len p0.2.2.1.cap, .int .i64 p0.2.2.2.1], .ag [.string p1.1, .string p1.2.1, .slice p1.2.2.1.a p1.2.2.1.len p1.2.2.1.cap, .int .i64 p1.2.2.2.1]]) (by kernel_rfl) (by kernel_rfl) ((congrFun (D_spec_SameRoute p0 p1 K) w).mpr h)
theorem E_spec_SameRoute : Enters Pr n_spec_SameRoute := enters_of_B (by kernel_rfl)

def A_damperlaw2_within : Ann := (.seq .auto (.seq .auto (.seq .auto .auto (some [(5, (.one (.int .i64)))])) none) none)
/-- damper/damperlaw2.within -/
def F_damperlaw2_within (p0 : Int) (p1 : Int) (K : Value → PT) : PT :=
  L.guard (p1 ≠ (0 : Int)) <|
  L.join (Y := Int × Unit) (fun k1 =>
    L.ite (decide ((Int.tmod p0 p1) < 0)) (
      k1 (IntKind.wrap .i64 ((Int.tmod p0 p1) + p1), ())) <|
    k1 (Int.tmod p0 p1, ())) fun z2 =>
  K (.int .i64 z2.1)
theorem D_damperlaw2_within (p0 : Int) (p1 : Int) (K : Value → PT) : denF Pr Dt Try.f21 A_damperlaw2_within [.v (.int .i64 p0), .v (.int .i64 p1)] K = F_damperlaw2_within p0 p1 K := by kernel_rfl
theorem C_damperlaw2_within (p0 : Int) (p1 : Int) {K : Value → PT} {w : World} (h : F_damperlaw2_within p0 p1 K w) : Calls Pr n_damperlaw2_within [.int .i64 p0, .int .i64 p1].toArray w fun e w2 => ∃ v, e = .returned v ∧ K v w2 :=
  denF_ok Tok (f := 21) (fn := Try.f21) (an := A_damperlaw2_within) (args := [.v (.int .i64 p0), .v (.int .i64 p1)]) (by kernel_rfl) (by kernel_rfl) ((congrFun (D_damperlaw2_within p0 p1 K) w).mpr h)
theorem E_damperlaw2_within : Enters Pr n_damperlaw2_within := enters_of_B (by kernel_rfl)

def A_spec_Config : Ann := (.seq .auto (.seq (.seq .auto (.cond .auto (.seq .auto .auto (some [(8, (.one (.bool)))]))) none) .auto none) none)
/-- damper/spec.Config -/
def F_spec_Config (p0 : HT [.str, .int .i64, .int .i64, .int .i64, .int .i64, .int .i64]) (K : Value → PT) : PT :=
  L.new [.string p0.1, .int .i64 p0.2.1, .int .i64 p0.2.2.1, .int .i64 p0.2.2.2.1, .int .i64 p0.2.2.2.2.1, .int .i64 p0.2.2.2.2.2.1] T_api_Config fun b1 =>
  L.load (.one (.str)) ((⟨b1, 0, none⟩ : Addr).add 0) fun (x2 : ByteArray) =>
  L.call Pr n_label_Name [.string x2] (.one (.one (.bool))) fun (x3 : Bool) =>
  L.ite (!x3) (
    K (.int .i64 1)) <|
  L.join (Y := Bool × Unit) (fun k4 =>
    L.load (.one (.int .i64)) ((⟨b1, 0, none⟩ : Addr).add 1) fun (x6 : Int) =>
    L.call Pr n_spec_span_has [.agg #[.int .i64 0, .int .i64 255], .int .i64 x6] (.one (.one (.bool))) fun (x7 : Bool) =>
    L.ite (!x7) (
      k4 (!x7, ())) <|
    L.load (.one (.int .i64)) ((⟨b1, 0, none⟩ : Addr).add 2) fun (x8 : Int) =>
    L.call Pr n_spec_span_has [.agg #[.int .i64 1, .int .i64 8], .int .i64 x8] (.one (.one (.bool))) fun (x9 : Bool) =>
    L.ite (!x9) (
      k4 (!x9, ())) <|
    L.load (.one (.int .i64)) ((⟨b1, 0, none⟩ : Addr).add 4) fun (x10 : Int) =>
    L.call Pr n_spec_span_has [.agg #[.int .i64 1, .int .i64 10], .int .i64 x10] (.one (.one (.bool))) fun (x11 : Bool) =>
    L.ite (!x11) (
      k4 (!x11, ())) <|
    L.load (.one (.int .i64)) ((⟨b1, 0, none⟩ : Addr).add 4) fun (x12 : Int) =>
    L.load (.one (.int .i64)) ((⟨b1, 0, none⟩ : Addr).add 3) fun (x13 : Int) =>
    L.call Pr n_spec_span_has [.agg #[.int .i64 0, .int .i64 x12], .int .i64 x13] (.one (.one (.bool))) fun (x14 : Bool) =>
    L.ite (!x14) (
      k4 (!x14, ())) <|
    L.load (.one (.int .i64)) ((⟨b1, 0, none⟩ : Addr).add 5) fun (x15 : Int) =>
    L.call Pr n_spec_span_has [.agg #[.int .i64 0, .int .i64 30], .int .i64 x15] (.one (.one (.bool))) fun (x16 : Bool) =>
    k4 (!x16, ())) fun z5 =>
  L.ite z5.1 (
    K (.int .i64 2)) <|
  K (.int .i64 0)
theorem D_spec_Config (p0 : HT [.str, .int .i64, .int .i64, .int .i64, .int .i64, .int .i64]) (K : Value → PT) : denF Pr Dt Try.f22 A_spec_Config [.ag [.string p0.1, .int .i64 p0.2.1, .int .i64 p0.2.2.1, .int .i64 p0.2.2.2.1, .int .i64 p0.2.2.2.2.1, .int .i64 p0.2.2.2.2.2.1]] K = F_spec_Config p0 K := by kernel_rfl
theorem C_spec_Config (p0 : HT [.str, .int .i64, .int .i64, .int .i64, .int .i64, .int .i64]) {K : Value → PT} {w : World} (h : F_spec_Config p0 K w) : Calls Pr n_spec_Config [(.ag [.string p0.1, .int .i64 p0.2.1, .int .i64 p0.2.2.1, .int .i64 p0.2.2.2.1, .int .i64 p0.2.2.2.2.1, .int .i64 p0.2.2.2.2.2.1] : SV).toV].toArray w fun e w2 => ∃ v, e = .returned v ∧ K v w2 :=
  denF_ok Tok (f := 22) (fn := Try.f22) (an := A_spec_Config) (args := [.ag [.string p0.1, .int .i64 p0.2.1, .int .i64 p0.2.2.1, .int .i64 p0.2.2.2.1, .int .i64 p0.2.2.2.2.1, .int .i64 p0.2.2.2.2.2.1]]) (by kernel_rfl) (by kernel_rfl) ((congrFun (D_spec_Config p0 K) w).mpr h)
theorem E_spec_Config : Enters Pr n_spec_Config := enters_of_B (by kernel_rfl)

def A_shelf_rack_api_Config_may : Ann := (.seq .auto (.seq .auto (.seq (.seq .auto (.cond .auto (.seq .auto (.cond .auto .auto) none)) none) .auto (some [])) none) none)
/-- (*damper/shelf.rack[damper/api.Config]).may -/
def F_shelf_rack_api_Config_may (p0 : Option Addr) (p1 : ByteArray) (p2 : Int) (p3 : Bool) (K : Value → PT) : PT :=
  L.nonnil p0 fun a1 =>
  L.load (.one (.map)) (a1.add 0) fun (x2 : Option Nat) =>
  L.semR Pr (.one (.agg [.str, .int .i64, .int .i64, .int .i64, .int .i64, .int .i64, .int .i64, .int .i64, .bool])) (Instr.lookup T_map_string_shelf_thing_api_Config (.map x2) (.string p1) false) fun (x3 : ByteArray × Int × Int × Int × Int × Int × Int × Int × Bool × Unit) =>
  L.new [.string s_, .int .i64 0, .int .i64 0, .int .i64 0, .int .i64 0, .int .i64 0, .int .i64 0, .int .i64 0, .bool false] T_shelf_thing_api_Config fun b4 =>
  L.store (⟨b4, 0, none⟩) [.string x3.1, .int .i64 x3.2.1, .int .i64 x3.2.2.1, .int .i64 x3.2.2.2.1, .int .i64 x3.2.2.2.2.1, .int .i64 x3.2.2.2.2.2.1, .int .i64 x3.2.2.2.2.2.2.1, .int .i64 x3.2.2.2.2.2.2.2.1, .bool x3.2.2.2.2.2.2.2.2.1] <|
  L.join (Y := Unit) (fun k5 =>
    L.ite p3 (
      L.ite (p2 == 0) (
        L.load (.one (.bool)) ((⟨b4, 0, none⟩ : Addr).add 8) fun (x7 : Bool) =>
        L.ite x7 (
          K (.int .i64 5)) <|
        L.ite p3 (
          L.ite (p2 == 0) (
            K (.int .i64 0)) <|
          L.load (.one (.bool)) ((⟨b4, 0, none⟩ : Addr).add 8) fun (x8 : Bool) =>
          L.ite (!x8) (
            K (.int .i64 6)) <|
          L.load (.one (.int .i64)) ((⟨b4, 0, none⟩ : Addr).add 6) fun (x9 : Int) =>
          L.ite (x9 != p2) (
            K (.int .i64 7)) <|
          k5 (())) <|
        L.load (.one (.bool)) ((⟨b4, 0, none⟩ : Addr).add 8) fun (x10 : Bool) =>
        L.ite (!x10) (
          K (.int .i64 6)) <|
        L.load (.one (.int .i64)) ((⟨b4, 0, none⟩ : Addr).add 6) fun (x11 : Int) =>
        L.ite (x11 != p2) (
          K (.int .i64 7)) <|
        k5 (())) <|
      L.ite p3 (
        L.ite (p2 == 0) (
          K (.int .i64 0)) <|
        L.load (.one (.bool)) ((⟨b4, 0, none⟩ : Addr).add 8) fun (x12 : Bool) =>
        L.ite (!x12) (
          K (.int .i64 6)) <|
        L.load (.one (.int .i64)) ((⟨b4, 0, none⟩ : Addr).add 6) fun (x13 : Int) =>
        L.ite (x13 != p2) (
          K (.int .i64 7)) <|
        k5 (())) <|
      L.load (.one (.bool)) ((⟨b4, 0, none⟩ : Addr).add 8) fun (x14 : Bool) =>
      L.ite (!x14) (
        K (.int .i64 6)) <|
      L.load (.one (.int .i64)) ((⟨b4, 0, none⟩ : Addr).add 6) fun (x15 : Int) =>
      L.ite (x15 != p2) (
        K (.int .i64 7)) <|
      k5 (())) <|
    L.ite p3 (
      L.ite (p2 == 0) (
        K (.int .i64 0)) <|
      L.load (.one (.bool)) ((⟨b4, 0, none⟩ : Addr).add 8) fun (x16 : Bool) =>
      L.ite (!x16) (
        K (.int .i64 6)) <|
      L.load (.one (.int .i64)) ((⟨b4, 0, none⟩ : Addr).add 6) fun (x17 : Int) =>
      L.ite (x17 != p2) (
        K (.int .i64 7)) <|
      k5 (())) <|
    L.load (.one (.bool)) ((⟨b4, 0, none⟩ : Addr).add 8) fun (x18 : Bool) =>
    L.ite (!x18) (
      K (.int .i64 6)) <|
    L.load (.one (.int .i64)) ((⟨b4, 0, none⟩ : Addr).add 6) fun (x19 : Int) =>
    L.ite (x19 != p2) (
      K (.int .i64 7)) <|
    k5 (())) fun z6 =>
  K (.int .i64 0)
theorem D_shelf_rack_api_Config_may (p0 : Option Addr) (p1 : ByteArray) (p2 : Int) (p3 : Bool) (K : Value → PT) : denF Pr Dt Try.f23 A_shelf_rack_api_Config_may [.v (.pointer p0), .v (.string p1), .v (.int .i64 p2), .v (.bool p3)] K = F_shelf_rack_api_Config_may p0 p1 p2 p3 K := by kernel_rfl
theorem C_shelf_rack_api_Config_may (p0 : Option Addr) (p1 : ByteArray) (p2 : Int) (p3 : Bool) {K : Value → PT} {w : World} (h : F_shelf_rack_api_Config_may p0 p1 p2 p3 K w) : Calls Pr n_shelf_rack_api_Config_may [.pointer p0, .string p1, .int .i64 p2, .bool p3].toArray w fun e w2 => ∃ v, e = .returned v ∧ K v w2 :=
  denF_ok Tok (f := 23) (fn := Try.f23) (an := A_shelf_rack_api_Config_may) (args := [.v (.pointer p0), .v (.string p1), .v (.int .i64 p2), .v (.bool p3)]) (by kernel_rfl) (by kernel_rfl) ((congrFun (D_shelf_rack_api_Config_may p0 p1 p2 p3 K) w).mpr h)
theorem E_shelf_rack_api_Config_may : Enters Pr n_shelf_rack_api_Config_may := enters_of_B (by kernel_rfl)

def A_shelf_rack_api_Config_put : Ann := (.seq .auto (.seq .auto (.seq .auto .auto (some [])) none) none)
/-- (*damper/shelf.rack[damper/api.Config]).put -/
def F_shelf_rack_api_Config_put (p0 : Option Addr) (p1 : ByteArray) (p2 : HT [.str, .int .i64, .int .i64, .int .i64, .int .i64, .int .i64]) (p3 : Int) (K : Value → PT) : PT :=
  L.new [.string p2.1, .int .i64 p2.2.1, .int .i64 p2.2.2.1, .int .i64 p2.2.2.2.1, .int .i64 p2.2.2.2.2.1, .int .i64 p2.2.2.2.2.2.1] T_api_Config fun b1 =>
  L.nonnil p0 fun a2 =>
  L.load (.one (.map)) (a2.add 0) fun (x3 : Option Nat) =>
  L.semR Pr (.one (.agg [.str, .int .i64, .int .i64, .int .i64, .int .i64, .int .i64, .int .i64, .int .i64, .bool])) (Instr.lookup T_map_string_shelf_thing_api_Config (.map x3) (.string p1) false) fun (x4 : ByteArray × Int × Int × Int × Int × Int × Int × Int × Bool × Unit) =>
  L.new [.string s_, .int .i64 0, .int .i64 0, .int .i64 0, .int .i64 0, .int .i64 0, .int .i64 0, .int .i64 0, .bool false] T_shelf_thing_api_Config fun b5 =>
  L.store (⟨b5, 0, none⟩) [.string x4.1, .int .i64 x4.2.1, .int .i64 x4.2.2.1, .int .i64 x4.2.2.2.1, .int .i64 x4.2.2.2.2.1, .int .i64 x4.2.2.2.2.2.1, .int .i64 x4.2.2.2.2.2.2.1, .int .i64 x4.2.2.2.2.2.2.2.1, .bool x4.2.2.2.2.2.2.2.2.1] <|
  L.join (Y := Unit) (fun k6 =>
    L.draw <|
    L.load (.one (.bool)) ((⟨b5, 0, none⟩ : Addr).add 8) fun (x8 : Bool) =>
    L.ite (!x8) (
      L.load (.one (.int .i64)) ((⟨b5, 0, none⟩ : Addr).add 7) fun (x9 : Int) =>
      L.store ((⟨b5, 0, none⟩ : Addr).add 7) [.int .i64 (IntKind.wrap .i64 (x9 + 1))] <|
      k6 (())) <|
    L.nonnil p0 fun a10 =>
    L.load (.one (.func)) (a10.add 1) fun (x11 : FV) =>
    L.load (.agg [.str, .int .i64, .int .i64, .int .i64, .int .i64, .int .i64]) ((⟨b5, 0, none⟩ : Addr).add 0) fun (x12 : ByteArray × Int × Int × Int × Int × Int × Unit) =>
    L.load (.agg [.str, .int .i64, .int .i64, .int .i64, .int .i64, .int .i64]) (⟨b1, 0, none⟩) fun (x13 : ByteArray × Int × Int × Int × Int × Int × Unit) =>
    L.callV Pr (.func x11.fn x11.fs x11.cs) [.agg #[.string x12.1, .int .i64 x12.2.1, .int .i64 x12.2.2.1, .int .i64 x12.2.2.2.1, .int .i64 x12.2.2.2.2.1, .int .i64 x12.2.2.2.2.2.1], .agg #[.string x13.1, .int .i64 x13.2.1, .int .i64 x13.2.2.1, .int .i64 x13.2.2.2.1, .int .i64 x13.2.2.2.2.1, .int .i64 x13.2.2.2.2.2.1]] (.one (.one (.bool))) fun (x14 : Bool) =>
    L.ite (!x14) (
      L.load (.one (.int .i64)) ((⟨b5, 0, none⟩ : Addr).add 7) fun (x15 : Int) =>
      L.store ((⟨b5, 0, none⟩ : Addr).add 7) [.int .i64 (IntKind.wrap .i64 (x15 + 1))] <|
      k6 (())) <|
    k6 (())) fun z7 =>
  L.draw <|
  L.nonnil p0 fun a16 =>
  L.load (.one (.map)) (a16.add 0) fun (x17 : Option Nat) =>
  L.load (.agg [.str, .int .i64, .int .i64, .int .i64, .int .i64, .int .i64]) (⟨b1, 0, none⟩) fun (x18 : ByteArray × Int × Int × Int × Int × Int × Unit) =>
  L.load (.one (.int .i64)) ((⟨b5, 0, none⟩ : Addr).add 7) fun (x19 : Int) =>
  L.semU Pr (Instr.mapUpdate T_map_string_shelf_thing_api_Config (.map x17) (.string p1) (.agg #[.string x18.1, .int .i64 x18.2.1, .int .i64 x18.2.2.1, .int .i64 x18.2.2.2.1, .int .i64 x18.2.2.2.2.1, .int .i64 x18.2.2.2.2.2.1, .int .i64 p3, .int .i64 x19, .bool true])) <|
  K (.tuple #[])
theorem D_shelf_rack_api_Config_put (p0 : Option Addr) (p1 : ByteArray) (p2 : HT [.str, .int .i64, .int .i64, .int .i64, .int .i64, .int .i64]) (p3 : Int) (K : Value → PT) : denF Pr Dt Try.f24 A_shelf_rack_api_Config_put [.v (.pointer p0), .v (.string p1), .ag [.string p2.1, .int .i64 p2.2.1, .int .i64 p2.2.2.1, .int .i64 p2.2.2.2.1, .int .i64 p2.2.2.2.2.1, .int .i64 p2.2.2.2.2.2.1], .v (.int .i64 p3)] K = F_shelf_rack_api_Config_put p0 p1 p2 p3 K := by kernel_rfl
theorem C_shelf_rack_api_Config_put (p0 : Option Addr) (p1 : ByteArray) (p2 : HT [.str, .int .i64, .int .i64, .int .i64, .int .i64, .int .i64]) (p3 : Int) {K : Value → PT} {w : World} (h : F_shelf_rack_api_Config_put p0 p1 p2 p3 K w) : Calls Pr n_shelf_rack_api_Config_put [.pointer p0, .string p1, (.ag [.string p2.1, .int .i64 p2.2.1, .int .i64 p2.2.2.1, .int .i64 p2.2.2.2.1, .int .i64 p2.2.2.2.2.1, .int .i64 p2.2.2.2.2.2.1] : SV).toV, .int .i64 p3].toArray w fun e w2 => ∃ v, e = .returned v ∧ K v w2 :=
  denF_ok Tok (f := 24) (fn := Try.f24) (an := A_shelf_rack_api_Config_put) (args := [.v (.pointer p0), .v (.string p1), .ag [.string p2.1, .int .i64 p2.2.1, .int .i64 p2.2.2.1, .int .i64 p2.2.2.2.1, .int .i64 p2.2.2.2.2.1, .int .i64 p2.2.2.2.2.2.1], .v (.int .i64 p3)]) (by kernel_rfl) (by kernel_rfl) ((congrFun (D_shelf_rack_api_Config_put p0 p1 p2 p3 K) w).mpr h)
theorem E_shelf_rack_api_Config_put : Enters Pr n_shelf_rack_api_Config_put := enters_of_B (by kernel_rfl)

def A_shelf_rack_api_Config_get : Ann := .auto
/-- (*damper/shelf.rack[damper/api.Config]).get -/
def F_shelf_rack_api_Config_get (p0 : Option Addr) (p1 : ByteArray) (K : Value → PT) : PT :=
  L.new [.string s_, .int .i64 0, .int .i64 0, .int .i64 0, .int .i64 0, .int .i64 0, .int .i64 0, .int .i64 0, .bool false] T_shelf_thing_api_Config fun b1 =>
  L.nonnil p0 fun a2 =>
  L.load (.one (.map)) (a2.add 0) fun (x3 : Option Nat) =>
  L.semR Pr (.one (.agg [.str, .int .i64, .int .i64, .int .i64, .int .i64, .int .i64, .int .i64, .int .i64, .bool])) (Instr.lookup T_map_string_shelf_thing_api_Config (.map x3) (.string p1) false) fun (x4 : ByteArray × Int × Int × Int × Int × Int × Int × Int × Bool × Unit) =>
  L.new [.string s_, .int .i64 0, .int .i64 0, .int .i64 0, .int .i64 0, .int .i64 0, .int .i64 0, .int .i64 0, .bool false] T_shelf_thing_api_Config fun b5 =>
  L.store (⟨b5, 0, none⟩) [.string x4.1, .int .i64 x4.2.1, .int .i64 x4.2.2.1, .int .i64 x4.2.2.2.1, .int .i64 x4.2.2.2.2.1, .int .i64 x4.2.2.2.2.2.1, .int .i64 x4.2.2.2.2.2.2.1, .int .i64 x4.2.2.2.2.2.2.2.1, .bool x4.2.2.2.2.2.2.2.2.1] <|
  L.draw <|
  L.load (.agg [.str, .int .i64, .int .i64, .int .i64, .int .i64, .int .i64, .int .i64, .int .i64, .bool]) (⟨b5, 0, none⟩) fun (x6 : ByteArray × Int × Int × Int × Int × Int × Int × Int × Bool × Unit) =>
  L.load (.one (.bool)) ((⟨b5, 0, none⟩ : Addr).add 8) fun (x7 : Bool) =>
  L.store (⟨b1, 0, none⟩) [.string x6.1, .int .i64 x6.2.1, .int .i64 x6.2.2.1, .int .i64 x6.2.2.2.1, .int .i64 x6.2.2.2.2.1, .int .i64 x6.2.2.2.2.2.1, .int .i64 x6.2.2.2.2.2.2.1, .int .i64 x6.2.2.2.2.2.2.2.1, .bool x6.2.2.2.2.2.2.2.2.1] <|
  L.chk ((⟨b5, 0, none⟩ : Addr).add 8) [.bool x7] <|
  L.load (.agg [.str, .int .i64, .int .i64, .int .i64, .int .i64, .int .i64, .int .i64, .int .i64, .bool]) (⟨b1, 0, none⟩) fun (x8 : ByteArray × Int × Int × Int × Int × Int × Int × Int × Bool × Unit) =>
  K (.tuple #[.agg #[.string x8.1, .int .i64 x8.2.1, .int .i64 x8.2.2.1, .int .i64 x8.2.2.2.1, .int .i64 x8.2.2.2.2.1, .int .i64 x8.2.2.2.2.2.1, .int .i64 x8.2.2.2.2.2.2.1, .int .i64 x8.2.2.2.2.2.2.2.1, .bool x8.2.2.2.2.2.2.2.2.1], .bool x7])
theorem D_shelf_rack_api_Config_get (p0 : Option Addr) (p1 : ByteArray) (K : Value → PT) : denF Pr Dt Try.f25 A_shelf_rack_api_Config_get [.v (.pointer p0), .v (.string p1)] K = F_shelf_rack_api_Config_get p0 p1 K := by kernel_rfl
theorem C_shelf_rack_api_Config_get (p0 : Option Addr) (p1 : ByteArray) {K : Value → PT} {w : World} (h : F_shelf_rack_api_Config_get p0 p1 K w) : Calls Pr n_shelf_rack_api_Config_get [.pointer p0, .string p1].toArray w fun e w2 => ∃ v, e = .returned v ∧ K v w2 :=
  denF_ok Tok (f := 25) (fn := Try.f25) (an := A_shelf_rack_api_Config_get) (args := [.v (.pointer p0), .v (.string p1)]) (by kernel_rfl) (by kernel_rfl) ((congrFun (D_shelf_rack_api_Config_get p0 p1 K) w).mpr h)
theorem E_shelf_rack_api_Config_get : Enters Pr n_shelf_rack_api_Config_get := enters_of_B (by kernel_rfl)

def A_shelf_taken_api_Config : Ann := (.seq .auto (.seq .auto (.seq .auto .auto (some [])) none) none)
/-- damper/shelf.taken[damper/api.Config] -/
def F_shelf_taken_api_Config (p0 : Option Addr) (p1 : ByteArray) (p2 : Int) (K : Value → PT) : PT :=
  L.call Pr n_shelf_rack_api_Config_may [.pointer p0, .string p1, .int .i64 p2, .bool false] (.one (.one (.int .i64))) fun (x1 : Int) =>
  L.join (Y := Unit) (fun k2 =>
    L.ite (x1 == 0) (
      L.call Pr n_shelf_rack_api_Config_drop [.pointer p0, .string p1] (.tup []) fun (x4 : Unit) =>
      k2 (())) <|
    k2 (())) fun z3 =>
  K (.int .i64 x1)
theorem D_shelf_taken_api_Config (p0 : Option Addr) (p1 : ByteArray) (p2 : Int) (K : Value → PT) : denF Pr Dt Try.f26 A_shelf_taken_api_Config [.v (.pointer p0), .v (.string p1), .v (.int .i64 p2)] K = F_shelf_taken_api_Config p0 p1 p2 K := by kernel_rfl
theorem C_shelf_taken_api_Config (p0 : Option Addr) (p1 : ByteArray) (p2 : Int) {K : Value → PT} {w : World} (h : F_shelf_taken_api_Config p0 p1 p2 K w) : Calls Pr n_shelf_taken_api_Config [.pointer p0, .string p1, .int .i64 p2].toArray w fun e w2 => ∃ v, e = .returned v ∧ K v w2 :=
  denF_ok Tok (f := 26) (fn := Try.f26) (an := A_shelf_taken_api_Config) (args := [.v (.pointer p0), .v (.string p1), .v (.int .i64 p2)]) (by kernel_rfl) (by kernel_rfl) ((congrFun (D_shelf_taken_api_Config p0 p1 p2 K) w).mpr h)
theorem E_shelf_taken_api_Config : Enters Pr n_shelf_taken_api_Config := enters_of_B (by kernel_rfl)

def A_shelf_taken_api_Route : Ann := (.seq .auto (.seq .auto (.seq .auto .auto (some [])) none) none)
/-- damper/shelf.taken[damper/api.Route] -/
def F_shelf_taken_api_Route (p0 : Option Addr) (p1 : ByteArray) (p2 : Int) (K : Value → PT) : PT :=
  L.call Pr n_shelf_rack_api_Route_may [.pointer p0, .string p1, .int .i64 p2, .bool false] (.one (.one (.int .i64))) fun (x1 : Int) =>
  L.join (Y := Unit) (fun k2 =>
    L.ite (x1 == 0) (
      L.call Pr n_shelf_rack_api_Route_drop [.pointer p0, .string p1] (.tup []) fun (x4 : Unit) =>
      k2 (())) <|
    k2 (())) fun z3 =>
  K (.int .i64 x1)
theorem D_shelf_taken_api_Route (p0 : Option Addr) (p1 : ByteArray) (p2 : Int) (K : Value → PT) : denF Pr Dt Try.f27 A_shelf_taken_api_Route [.v (.pointer p0), .v (.string p1), .v (.int .i64 p2)] K = F_shelf_taken_api_Route p0 p1 p2 K := by kernel_rfl
theorem C_shelf_taken_api_Route (p0 : Option Addr) (p1 : ByteArray) (p2 : Int) {K : Value → PT} {w : World} (h : F_shelf_taken_api_Route p0 p1 p2 K w) : Calls Pr n_shelf_taken_api_Route [.pointer p0, .string p1, .int .i64 p2].toArray w fun e w2 => ∃ v, e = .returned v ∧ K v w2 :=
  denF_ok Tok (f := 27) (fn := Try.f27) (an := A_shelf_taken_api_Route) (args := [.v (.pointer p0), .v (.string p1), .v (.int .i64 p2)]) (by kernel_rfl) (by kernel_rfl) ((congrFun (D_shelf_taken_api_Route p0 p1 p2 K) w).mpr h)
theorem E_shelf_taken_api_Route : Enters Pr n_shelf_taken_api_Route := enters_of_B (by kernel_rfl)

def A_shelf_list : Ann := (.seq .auto (.seq .auto (.seq (.seq .auto (.seq .auto .auto (some [(6, (.one (.str)))])) none) .auto none) none) none)
/-- damper/shelf.list -/
def F_shelf_list (p0 : FV) (K : Value → PT) : PT :=
  L.new [.slice none 0 0] T_s_string fun b1 =>
  L.range Pr none (.func p0.fn p0.fs p0.cs) [(.one (.str))] (fun l2 (y3 : ByteArray × Unit) R4 =>
    L.begin Pr l2 <|
    L.load (.one (.slice)) (⟨b1, 0, none⟩) fun (x7 : Sl) =>
    L.new [.string y3.1] T_string fun b8 =>
    L.sem Pr (.one (.one .slice)) (Builtin.append_ #[T_s_string, T_s_string] T_s_string #[.slice x7.a x7.len x7.cap, .slice (some ⟨b8, 0, none⟩) 1 1]) fun (s9 : Sl) =>
    L.store (⟨b1, 0, none⟩) [.slice s9.a s9.len s9.cap] <|
    L.endRound Pr l2 none R4) fun d5 j6 =>
  L.jump j6 (
    L.load (.one (.slice)) (⟨b1, 0, none⟩) fun (x10 : Sl) =>
    L.call Pr n_slices_Clone_string_string [.slice x10.a x10.len x10.cap] (.one (.one (.slice))) fun (x11 : Sl) =>
    L.unmark Pr (d5 ++ []) <|
    K (.slice x11.a x11.len x11.cap)) (
    L.unmark Pr (d5 ++ []) <|
    K (.slice none 0 0)) []
theorem D_shelf_list (p0 : FV) (K : Value → PT) : denF Pr Dt Try.f28 A_shelf_list [.v (.func p0.fn p0.fs p0.cs)] K = F_shelf_list p0 K := by kernel_rfl
theorem C_shelf_list (p0 : FV) {K : Value → PT} {w : World} (h : F_shelf_list p0 K w) : Calls Pr n_shelf_list [.func p0.fn p0.fs p0.cs].toArray w fun e w2 => ∃ v, e = .returned v ∧ K v w2 :=
  denF_ok Tok (f := 28) (fn := Try.f28) (an := A_shelf_list) (args := [.v (.func p0.fn p0.fs p0.cs)]) (by kernel_rfl) (by kernel_rfl) ((congrFun (D_shelf_list p0 K) w).mpr h)
theorem E_shelf_list : Enters Pr n_shelf_list := enters_of_B (by kernel_rfl)

def A_shelf_rack_api_Config_names : Ann := .auto
/-- (*damper/shelf.rack[damper/api.Config]).names -/
def F_shelf_rack_api_Config_names (p0 : Option Addr) (K : Value → PT) : PT :=
  L.new [.pointer p0] T_p_shelf_rack_api_Config fun b1 =>
  K (.func (.func n_shelf_rack_api_Config_names_1) #[] #[.pointer (some (⟨b1, 0, none⟩))])
theorem D_shelf_rack_api_Config_names (p0 : Option Addr) (K : Value → PT) : denF Pr Dt Try.f29 A_shelf_rack_api_Config_names [.v (.pointer p0)] K = F_shelf_rack_api_Config_names p0 K := by kernel_rfl
theorem C_shelf_rack_api_Config_names (p0 : Option Addr) {K : Value → PT} {w : World} (h : F_shelf_rack_api_Config_names p0 K w) : Calls Pr n_shelf_rack_api_Config_names [.pointer p0].toArray w fun e w2 => ∃ v, e = .returned v ∧ K v w2 :=
  denF_ok Tok (f := 29) (fn := Try.f29) (an := A_shelf_rack_api_Config_names) (args := [.v (.pointer p0)]) (by kernel_rfl) (by kernel_rfl) ((congrFun (D_shelf_rack_api_Config_names p0 K) w).mpr h)
theorem E_shelf_rack_api_Config_names : Enters Pr n_shelf_rack_api_Config_names := enters_of_B (by kernel_rfl)

def A_shelf_rack_api_Route_names : Ann := .auto
/-- (*damper/shelf.rack[damper/api.Route]).names -/
def F_shelf_rack_api_Route_names (p0 : Option Addr) (K : Value → PT) : PT :=
  L.new [.pointer p0] T_p_shelf_rack_api_Route fun b1 =>
  K (.func (.func n_shelf_rack_api_Route_names_1) #[] #[.pointer (some (⟨b1, 0, none⟩))])
theorem D_shelf_rack_api_Route_names (p0 : Option Addr) (K : Value → PT) : denF Pr Dt Try.f30 A_shelf_rack_api_Route_names [.v (.pointer p0)] K = F_shelf_rack_api_Route_names p0 K := by kernel_rfl
theorem C_shelf_rack_api_Route_names (p0 : Option Addr) {K : Value → PT} {w : World} (h : F_shelf_rack_api_Route_names p0 K w) : Calls Pr n_shelf_rack_api_Route_names [.pointer p0].toArray w fun e w2 => ∃ v, e = .returned v ∧ K v w2 :=
  denF_ok Tok (f := 30) (fn := Try.f30) (an := A_shelf_rack_api_Route_names) (args := [.v (.pointer p0)]) (by kernel_rfl) (by kernel_rfl) ((congrFun (D_shelf_rack_api_Route_names p0 K) w).mpr h)
theorem E_shelf_rack_api_Route_names : Enters Pr n_shelf_rack_api_Route_names := enters_of_B (by kernel_rfl)

def A_slices_EqualFunc_api_Target_api_Target_api_Target_api_Target : Ann := (.seq .auto (.seq .auto (.seq (.seq .auto (.one [(17, (.one (.int .i64)))] .auto) none) .auto none) none) none)
/-- slices.EqualFunc[[]damper/api.Target,[]damper/api.Target,damper/api.Target,damper/api.Target] -/
def F_slices_EqualFunc_api_Target_api_Target_api_Target_api_Target (p0 : Sl) (p1 : Sl) (p2 : FV) (K : Value → PT) : PT :=
  L.ite (((p0.len : Nat) : Int) != ((p1.len : Nat) : Int)) (
    K (.bool false)) <|
  L.loop (Y := Int × Unit) (0, ()) fun y1 again2 =>
  L.ite (decide (y1.1 < ((p0.len : Nat) : Int))) (
    L.idx p0.a y1.1 p0.len 3 fun a3 =>
    L.load (.agg [.str, .str, .int .i64]) a3 fun (x4 : ByteArray × ByteArray × Int × Unit) =>
    L.new [.string s_, .string s_, .int .i64 0] T_api_Target fun b5 =>
    L.store (⟨b5, 0, none⟩) [.string x4.1, .string x4.2.1, .int .i64 x4.2.2.1] <|
    L.idx p1.a y1.1 p1.len 3 fun a6 =>
    L.load (.agg [.str, .str, .int .i64]) a6 fun (x7 : ByteArray × ByteArray × Int × Unit) =>
    L.new [.string s_, .string s_, .int .i64 0] T_api_Target fun b8 =>
    L.store (⟨b8, 0, none⟩) [.string x7.1, .string x7.2.1, .int .i64 x7.2.2.1] <|
    L.load (.agg [.str, .str, .int .i64]) (⟨b5, 0, none⟩) fun (x9 : ByteArray × ByteArray × Int × Unit) =>
    L.load (.agg [.str, .str, .int .i64]) (⟨b8, 0, none⟩) fun (x10 : ByteArray × ByteArray × Int × Unit) =>
    L.callV Pr (.func p2.fn p2.fs p2.cs) [.agg #[.string x9.1, .string x9.2.1, .int .i64 x9.2.2.1], .agg #[.string x10.1, .string x10.2.1, .int .i64 x10.2.2.1]] (.one (.one (.bool))) fun (x11 : Bool) =>
    L.ite (!x11) (
      K (.bool false)) <|
    again2 (IntKind.wrap .i64 (y1.1 + 1), ())) <|
  K (.bool true)
theorem D_slices_EqualFunc_api_Target_api_Target_api_Target_api_Target (p0 : Sl) (p1 : Sl) (p2 : FV) (K : Value → PT) : denF Pr Dt Try.f31 A_slices_EqualFunc_api_Target_api_Target_api_Target_api_Target [.v (.slice p0.a p0.len p0.cap), .v (.slice p1.a p1.len p1.cap), .v (.func p2.fn p2.fs p2.cs)] K = F_slices_EqualFunc_api_Target_api_Target_api_Target_api_Target p0 p1 p2 K := by kernel_rfl
theorem C_slices_EqualFunc_api_Target_api_Target_api_Target_api_Target (p0 : Sl) (p1 : Sl) (p2 : FV) {K : Value → PT} {w : World} (h : F_slices_EqualFunc_api_Target_api_Target_api_Target_api_Target p0 p1 p2 K w) : Calls Pr n_slices_EqualFunc_api_Target_api_Target_api_Target_api_Target [.slice p0.a p0.len p0.cap, .slice p1.a p1.len p1.cap, .func p2.fn p2.fs p2.cs].toArray w fun e w2 => ∃ v, e = .returned v ∧ K v w2 :=
  denF_ok Tok (f := 31) (fn := Try.f31) (an := A_slices_EqualFunc_api_Target_api_Target_api_Target_api_Target) (args := [.v (.slice p0.a p0.len p0.cap), .v (.slice p1.a p1.len p1.cap), .v (.func p2.fn p2.fs p2.cs)]) (by kernel_rfl) (by kernel_rfl) ((congrFun (D_slices_EqualFunc_api_Target_api_Target_api_Target_api_Target p0 p1 p2 K) w).mpr h)
theorem E_slices_EqualFunc_api_Target_api_Target_api_Target_api_Target : Enters Pr n_slices_EqualFunc_api_Target_api_Target_api_Target_api_Target := enters_of_B (by kernel_rfl)

def A_spec_same : Ann := .auto
/-- damper/spec.same -/
def F_spec_same (p0 : HT [.str, .str, .int .i64]) (p1 : HT [.str, .str, .int .i64]) (K : Value → PT) : PT :=
  L.new [.string p0.1, .string p0.2.1, .int .i64 p0.2.2.1] T_api_Target fun b1 =>
  L.new [.string p1.1, .string p1.2.1, .int .i64 p1.2.2.1] T_api_Target fun b2 =>
  L.load (.agg [.str, .str, .int .i64]) (⟨b1, 0, none⟩) fun (x3 : ByteArray × ByteArray × Int × Unit) =>
  L.load (.agg [.str, .str, .int .i64]) (⟨b2, 0, none⟩) fun (x4 : ByteArray × ByteArray × Int × Unit) =>
  L.chkSem Pr (do eqGuard .eql T_api_Target (.tmp 0) (.tmp 0) (.agg #[.string x3.1, .string x3.2.1, .int .i64 x3.2.2.1]) (.agg #[.string x4.1, .string x4.2.1, .int .i64 x4.2.2.1]); binOp .eql T_api_Target (.agg #[.string x3.1, .string x3.2.1, .int .i64 x3.2.2.1]) (.agg #[.string x4.1, .string x4.2.1, .int .i64 x4.2.2.1])) (.bool ((x3.1 == x4.1) && ((x3.2.1 == x4.2.1) && ((x3.2.2.1 == x4.2.2.1) && true)))) <|
  K (.bool ((x3.1 == x4.1) && ((x3.2.1 == x4.2.1) && ((x3.2.2.1 == x4.2.2.1) && true))))
theorem D_spec_same (p0 : HT [.str, .str, .int .i64]) (p1 : HT [.str, .str, .int .i64]) (K : Value → PT) : denF Pr Dt Try.f32 A_spec_same [.ag [.string p0.1, .string p0.2.1, .int .i64 p0.2.2.1], .ag [.string p1.1, .string p1.2.1, .int .i64 p1.2.2.1]] K = F_spec_same p0 p1 K := by kernel_rfl
theorem C_spec_same (p0 : HT [.str, .str, .int .i64]) (p1 : HT [.str, .str, .int .i64]) {K : Value → PT} {w : World} (h : F_spec_same p0 p1 K w) : Calls Pr n_spec_same [(.ag [.string p0.1, .string p0.2.1, .int .i64 p0.2.2.1] : SV).toV, (.ag [.string p1.1, .string p1.2.1, .int .i64 p1.2.2.1] : SV).toV].toArray w fun e w2 => ∃ v, e = .returned v ∧ K v w2 :=
  denF_ok Tok (f := 32) (fn := Try.f32) (an := A_spec_same) (args := [.ag [.string p0.1, .string p0.2.1, .int .i64 p0.2.2.1], .ag [.string p1.1, .string p1.2.1, .int .i64 p1.2.2.1]]) (by kernel_rfl) (by kernel_rfl) ((congrFun (D_spec_same p0 p1 K) w).mpr h)
theorem E_spec_same : Enters Pr n_spec_same := enters_of_B (by kernel_rfl)

def A_label_Name : Ann := .auto
/-- damper/label.Name -/
def F_label_Name (p0 : ByteArray) (K : Value → PT) : PT :=
  L.call Pr n_label_short [.string p0, .int .i64 16] (.one (.one (.bool))) fun (x1 : Bool) =>
  K (.bool x1)
theorem D_label_Name (p0 : ByteArray) (K : Value → PT) : denF Pr Dt Try.f33 A_label_Name [.v (.string p0)] K = F_label_Name p0 K := by kernel_rfl
theorem C_label_Name (p0 : ByteArray) {K : Value → PT} {w : World} (h : F_label_Name p0 K w) : Calls Pr n_label_Name [.string p0].toArray w fun e w2 => ∃ v, e = .returned v ∧ K v w2 :=
  denF_ok Tok (f := 33) (fn := Try.f33) (an := A_label_Name) (args := [.v (.string p0)]) (by kernel_rfl) (by kernel_rfl) ((congrFun (D_label_Name p0 K) w).mpr h)
theorem E_label_Name : Enters Pr n_label_Name := enters_of_B (by kernel_rfl)

def A_spec_span_has : Ann := .auto
/-- (damper/spec.span).has -/
def F_spec_span_has (p0 : HT [.int .i64, .int .i64]) (p1 : Int) (K : Value → PT) : PT :=
  L.new [.int .i64 p0.1, .int .i64 p0.2.1] T_spec_span fun b1 =>
  L.load (.one (.int .i64)) ((⟨b1, 0, none⟩ : Addr).add 0) fun (x2 : Int) =>
  L.ite (decide (p1 ≥ x2)) (
    L.load (.one (.int .i64)) ((⟨b1, 0, none⟩ : Addr).add 1) fun (x3 : Int) =>
    K (.bool (decide (p1 ≤ x3)))) <|
  K (.bool false)
theorem D_spec_span_has (p0 : HT [.int .i64, .int .i64]) (p1 : Int) (K : Value → PT) : denF Pr Dt Try.f34 A_spec_span_has [.ag [.int .i64 p0.1, .int .i64 p0.2.1], .v (.int .i64 p1)] K = F_spec_span_has p0 p1 K := by kernel_rfl
theorem C_spec_span_has (p0 : HT [.int .i64, .int .i64]) (p1 : Int) {K : Value → PT} {w : World} (h : F_spec_span_has p0 p1 K w) : Calls Pr n_spec_span_has [(.ag [.int .i64 p0.1, .int .i64 p0.2.1] : SV).toV, .int .i64 p1].toArray w fun e w2 => ∃ v, e = .returned v ∧ K v w2 :=
  denF_ok Tok (f := 34) (fn := Try.f34) (an := A_spec_span_has) (args := [.ag [.int .i64 p0.1, .int .i64 p0.2.1], .v (.int .i64 p1)]) (by kernel_rfl) (by kernel_rfl) ((congrFun (D_spec_span_has p0 p1 K) w).mpr h)
theorem E_spec_span_has : Enters Pr n_spec_span_has := enters_of_B (by kernel_rfl)

def A_shelf_rack_api_Config_drop : Ann := .auto
/-- (*damper/shelf.rack[damper/api.Config]).drop -/
def F_shelf_rack_api_Config_drop (p0 : Option Addr) (p1 : ByteArray) (K : Value → PT) : PT :=
  L.draw <|
  L.nonnil p0 fun a1 =>
  L.load (.one (.map)) (a1.add 0) fun (x2 : Option Nat) =>
  L.nonnil p0 fun a3 =>
  L.load (.one (.map)) (a3.add 0) fun (x4 : Option Nat) =>
  L.semR Pr (.one (.agg [.str, .int .i64, .int .i64, .int .i64, .int .i64, .int .i64, .int .i64, .int .i64, .bool])) (Instr.lookup T_map_string_shelf_thing_api_Config (.map x4) (.string p1) false) fun (x5 : ByteArray × Int × Int × Int × Int × Int × Int × Int × Bool × Unit) =>
  L.semU Pr (Instr.mapUpdate T_map_string_shelf_thing_api_Config (.map x2) (.string p1) (.agg #[.string s_, .int .i64 0, .int .i64 0, .int .i64 0, .int .i64 0, .int .i64 0, .int .i64 0, .int .i64 x5.2.2.2.2.2.2.2.1, .bool false])) <|
  K (.tuple #[])
theorem D_shelf_rack_api_Config_drop (p0 : Option Addr) (p1 : ByteArray) (K : Value → PT) : denF Pr Dt Try.f35 A_shelf_rack_api_Config_drop [.v (.pointer p0), .v (.string p1)] K = F_shelf_rack_api_Config_drop p0 p1 K := by kernel_rfl
theorem C_shelf_rack_api_Config_drop (p0 : Option Addr) (p1 : ByteArray) {K : Value → PT} {w : World} (h : F_shelf_rack_api_Config_drop p0 p1 K w) : Calls Pr n_shelf_rack_api_Config_drop [.pointer p0, .string p1].toArray w fun e w2 => ∃ v, e = .returned v ∧ K v w2 :=
  denF_ok Tok (f := 35) (fn := Try.f35) (an := A_shelf_rack_api_Config_drop) (args := [.v (.pointer p0), .v (.string p1)]) (by kernel_rfl) (by kernel_rfl) ((congrFun (D_shelf_rack_api_Config_drop p0 p1 K) w).mpr h)
theorem E_shelf_rack_api_Config_drop : Enters Pr n_shelf_rack_api_Config_drop := enters_of_B (by kernel_rfl)

def A_shelf_rack_api_Route_may : Ann := (.seq .auto (.seq .auto (.seq (.seq .auto (.cond .auto (.seq .auto (.cond .auto .auto) none)) none) .auto (some [])) none) none)
/-- (*damper/shelf.rack[damper/api.Route]).may -/
def F_shelf_rack_api_Route_may (p0 : Option Addr) (p1 : ByteArray) (p2 : Int) (p3 : Bool) (K : Value → PT) : PT :=
  L.nonnil p0 fun a1 =>
  L.load (.one (.map)) (a1.add 0) fun (x2 : Option Nat) =>
  L.semR Pr (.one (.agg [.str, .str, .slice, .int .i64, .int .i64, .int .i64, .bool])) (Instr.lookup T_map_string_shelf_thing_api_Route (.map x2) (.string p1) false) fun (x3 : ByteArray × ByteArray × Sl × Int × Int × Int × Bool × Unit) =>
  L.new [.string s_, .string s_, .slice none 0 0, .int .i64 0, .int .i64 0, .int .i64 0, .bool false] T_shelf_thing_api_Route fun b4 =>
  L.store (⟨b4, 0, none⟩) [.string x3.1, .string x3.2.1, .slice x3.2.2.1.a x3.2.2.1.len x3.2.2.1.cap, .int .i64 x3.2.2.2.1, .int .i64 x3.2.2.2.2.1, .int .i64 x3.2.2.2.2.2.1, .bool x3.2.2.2.2.2.2.1] <|
  L.join (Y := Unit) (fun k5 =>
    L.ite p3 (
      L.ite (p2 == 0) (
        L.load (.one (.bool)) ((⟨b4, 0, none⟩ : Addr).add 6) fun (x7 : Bool) =>
        L.ite x7 (
          K (.int .i64 5)) <|
        L.ite p3 (
          L.ite (p2 == 0) (
            K (.int .i64 0)) <|
          L.load (.one (.bool)) ((⟨b4, 0, none⟩ : Addr).add 6) fun (x8 : Bool) =>
          L.ite (!x8) (
            K (.int .i64 6)) <|
          L.load (.one (.int .i64)) ((⟨b4, 0, none⟩ : Addr).add 4) fun (x9 : Int) =>
          L.ite (x9 != p2) (
            K (.int .i64 7)) <|
          k5 (())) <|
        L.load (.one (.bool)) ((⟨b4, 0, none⟩ : Addr).add 6) fun (x10 : Bool) =>
        L.ite (!x10) (
          K (.int .i64 6)) <|
        L.load (.one (.int .i64)) ((⟨b4, 0, none⟩ : Addr).add 4) fun (x11 : Int) =>
        L.ite (x11 != p2) (
          K (.int .i64 7)) <|
        k5 (())) <|
      L.ite p3 (
        L.ite (p2 == 0) (
          K (.int .i64 0)) <|
        L.load (.one (.bool)) ((⟨b4, 0, none⟩ : Addr).add 6) fun (x12 : Bool) =>
        L.ite (!x12) (
          K (.int .i64 6)) <|
        L.load (.one (.int .i64)) ((⟨b4, 0, none⟩ : Addr).add 4) fun (x13 : Int) =>
        L.ite (x13 != p2) (
          K (.int .i64 7)) <|
        k5 (())) <|
      L.load (.one (.bool)) ((⟨b4, 0, none⟩ : Addr).add 6) fun (x14 : Bool) =>
      L.ite (!x14) (
        K (.int .i64 6)) <|
      L.load (.one (.int .i64)) ((⟨b4, 0, none⟩ : Addr).add 4) fun (x15 : Int) =>
      L.ite (x15 != p2) (
        K (.int .i64 7)) <|
      k5 (())) <|
    L.ite p3 (
      L.ite (p2 == 0) (
        K (.int .i64 0)) <|
      L.load (.one (.bool)) ((⟨b4, 0, none⟩ : Addr).add 6) fun (x16 : Bool) =>
      L.ite (!x16) (
        K (.int .i64 6)) <|
      L.load (.one (.int .i64)) ((⟨b4, 0, none⟩ : Addr).add 4) fun (x17 : Int) =>
      L.ite (x17 != p2) (
        K (.int .i64 7)) <|
      k5 (())) <|
    L.load (.one (.bool)) ((⟨b4, 0, none⟩ : Addr).add 6) fun (x18 : Bool) =>
    L.ite (!x18) (
      K (.int .i64 6)) <|
    L.load (.one (.int .i64)) ((⟨b4, 0, none⟩ : Addr).add 4) fun (x19 : Int) =>
    L.ite (x19 != p2) (
      K (.int .i64 7)) <|
    k5 (())) fun z6 =>
  K (.int .i64 0)
theorem D_shelf_rack_api_Route_may (p0 : Option Addr) (p1 : ByteArray) (p2 : Int) (p3 : Bool) (K : Value → PT) : denF Pr Dt Try.f36 A_shelf_rack_api_Route_may [.v (.pointer p0), .v (.string p1), .v (.int .i64 p2), .v (.bool p3)] K = F_shelf_rack_api_Route_may p0 p1 p2 p3 K := by kernel_rfl
theorem C_shelf_rack_api_Route_may (p0 : Option Addr) (p1 : ByteArray) (p2 : Int) (p3 : Bool) {K : Value → PT} {w : World} (h : F_shelf_rack_api_Route_may p0 p1 p2 p3 K w) : Calls Pr n_shelf_rack_api_Route_may [.pointer p0, .string p1, .int .i64 p2, .bool p3].toArray w fun e w2 => ∃ v, e = .returned v ∧ K v w2 :=
  denF_ok Tok (f := 36) (fn := Try.f36) (an := A_shelf_rack_api_Route_may) (args := [.v (.pointer p0), .v (.string p1), .v (.int .i64 p2), .v (.bool p3)]) (by kernel_rfl) (by kernel_rfl) ((congrFun (D_shelf_rack_api_Route_may p0 p1 p2 p3 K) w).mpr h)
theorem E_shelf_rack_api_Route_may : Enters Pr n_shelf_rack_api_Route_may := enters_of_B (by kernel_rfl)

def A_shelf_rack_api_Route_drop : Ann := .auto
/-- (*damper/shelf.rack[damper/api.Route]).drop -/
def F_shelf_rack_api_Route_drop (p0 : Option Addr) (p1 : ByteArray) (K : Value → PT) : PT :=
  L.draw <|
  L.nonnil p0 fun a1 =>
  L.load (.one (.map)) (a1.add 0) fun (x2 : Option Nat) =>
  L.nonnil p0 fun a3 =>
  L.load (.one (.map)) (a3.add 0) fun (x4 : Option Nat) =>
  L.semR Pr (.one (.agg [.str, .str, .slice, .int .i64, .int .i64, .int .i64, .bool])) (Instr.lookup T_map_string_shelf_thing_api_Route (.map x4) (.string p1) false) fun (x5 : ByteArray × ByteArray × Sl × Int × Int × Int × Bool × Unit) =>
  L.semU Pr (Instr.mapUpdate T_map_string_shelf_thing_api_Route (.map x2) (.string p1) (.agg #[.string s_, .string s_, .slice none 0 0, .int .i64 0, .int .i64 0, .int .i64 x5.2.2.2.2.2.1, .bool false])) <|
  K (.tuple #[])
theorem D_shelf_rack_api_Route_drop (p0 : Option Addr) (p1 : ByteArray) (K : Value → PT) : denF Pr Dt Try.f37 A_shelf_rack_api_Route_drop [.v (.pointer p0), .v (.string p1)] K = F_shelf_rack_api_Route_drop p0 p1 K := by kernel_rfl
theorem C_shelf_rack_api_Route_drop (p0 : Option Addr) (p1 : ByteArray) {K : Value → PT} {w : World} (h : F_shelf_rack_api_Route_drop p0 p1 K w) : Calls Pr n_shelf_rack_api_Route_drop [.pointer p0, .string p1].toArray w fun e w2 => ∃ v, e = .returned v ∧ K v w2 :=
  denF_ok Tok (f := 37) (fn := Try.f37) (an := A_shelf_rack_api_Route_drop) (args := [.v (.pointer p0), .v (.string p1)]) (by kernel_rfl) (by kernel_rfl) ((congrFun (D_shelf_rack_api_Route_drop p0 p1 K) w).mpr h)
theorem E_shelf_rack_api_Route_drop : Enters Pr n_shelf_rack_api_Route_drop := enters_of_B (by kernel_rfl)

def A_slices_Clone_string_string : Ann := .auto
/-- slices.Clone[[]string,string] -/
def F_slices_Clone_string_string (p0 : Sl) (K : Value → PT) : PT :=
  L.ite ((p0.a).isNone) (
    K (.slice none 0 0)) <|
  L.new [] T_string fun b1 =>
  L.sem Pr (.one (.one .slice)) (Builtin.append_ #[T_s_string, T_s_string] T_s_string #[.slice (some ⟨b1, 0, none⟩) 0 0, .slice p0.a p0.len p0.cap]) fun (s2 : Sl) =>
  K (.slice s2.a s2.len s2.cap)
theorem D_slices_Clone_string_string (p0 : Sl) (K : Value → PT) : denF Pr Dt Try.f38 A_slices_Clone_string_string [.v (.slice p0.a p0.len p0.cap)] K = F_slices_Clone_string_string p0 K := by kernel_rfl
theorem C_slices_Clone_string_string (p0 : Sl) {K : Value → PT} {w : World} (h : F_slices_Clone_string_string p0 K w) : Calls Pr n_slices_Clone_string_string [.slice p0.a p0.len p0.cap].toArray w fun e w2 => ∃ v, e = .returned v ∧ K v w2 :=
  denF_ok Tok (f := 38) (fn := Try.f38) (an := A_slices_Clone_string_string) (args := [.v (.slice p0.a p0.len p0.cap)]) (by kernel_rfl) (by kernel_rfl) ((congrFun (D_slices_Clone_string_string p0 K) w).mpr h)
theorem E_slices_Clone_string_string : Enters Pr n_slices_Clone_string_string := enters_of_B (by kernel_rfl)

def A_shelf_rack_api_Config_names_1 : Ann := (.seq .auto (.one [(12, (.one (.int .i64)))] (.seq .auto (.seq .auto (.seq (.seq .auto (.seq .auto (.cond .auto .auto) none) none) .auto (some [])) none) none)) none)
/-- (*damper/shelf.rack[damper/api.Config]).names$1 -/
def F_shelf_rack_api_Config_names_1 (p0 : FV) (c0 : Addr) (K : Value → PT) : PT :=
  L.load (.one (.ptr)) c0 fun (x1 : Option Addr) =>
  L.nonnil x1 fun a2 =>
  L.load (.one (.map)) (a2.add 0) fun (x3 : Option Nat) =>
  L.call Pr n_maps_Keys_map_string_shelf_thing_api_Config_string_bd34 [.map x3] (.one (.one (.func))) fun (x4 : FV) =>
  L.call Pr n_slices_Sorted_string [.func x4.fn x4.fs x4.cs] (.one (.one (.slice))) fun (x5 : Sl) =>
  L.loop (Y := Int × Unit) (0, ()) fun y6 again7 =>
  L.ite (decide (y6.1 < ((x5.len : Nat) : Int))) (
    L.join (Y := Unit) (fun k8 =>
      L.idx x5.a y6.1 x5.len 1 fun a10 =>
      L.load (.one (.str)) a10 fun (x11 : ByteArray) =>
      L.load (.one (.ptr)) c0 fun (x12 : Option Addr) =>
      L.nonnil x12 fun a13 =>
      L.load (.one (.map)) (a13.add 0) fun (x14 : Option Nat) =>
      L.semR Pr (.one (.agg [.str, .int .i64, .int .i64, .int .i64, .int .i64, .int .i64, .int .i64, .int .i64, .bool])) (Instr.lookup T_map_string_shelf_thing_api_Config (.map x14) (.string x11) false) fun (x15 : ByteArray × Int × Int × Int × Int × Int × Int × Int × Bool × Unit) =>
      L.ite x15.2.2.2.2.2.2.2.2.1 (
        L.callV Pr (.func p0.fn p0.fs p0.cs) [.string x11] (.one (.one (.bool))) fun (x16 : Bool) =>
        L.ite (!x16) (
          K (.tuple #[])) <|
        k8 (())) <|
      k8 (())) fun z9 =>
    again7 (IntKind.wrap .i64 (y6.1 + 1), ())) <|
  K (.tuple #[])
theorem D_shelf_rack_api_Config_names_1 (p0 : FV) (c0 : Addr) (K : Value → PT) : denF Pr Dt Try.f39 A_shelf_rack_api_Config_names_1 [.v (.func p0.fn p0.fs p0.cs), .v (.pointer (some c0))] K = F_shelf_rack_api_Config_names_1 p0 c0 K := by kernel_rfl
theorem C_shelf_rack_api_Config_names_1 (p0 : FV) (c0 : Addr) {K : Value → PT} {w : World} (h : F_shelf_rack_api_Config_names_1 p0 c0 K w) : Calls Pr n_shelf_rack_api_Config_names_1 [.func p0.fn p0.fs p0.cs, .pointer (some c0)].toArray w fun e w2 => ∃ v, e = .returned v ∧ K v w2 :=
  denF_ok Tok (f := 39) (fn := Try.f39) (an := A_shelf_rack_api_Config_names_1) (args := [.v (.func p0.fn p0.fs p0.cs), .v (.pointer (some c0))]) (by kernel_rfl) (by kernel_rfl) ((congrFun (D_shelf_rack_api_Config_names_1 p0 c0 K) w).mpr h)
theorem E_shelf_rack_api_Config_names_1 : Enters Pr n_shelf_rack_api_Config_names_1 := enters_of_B (by kernel_rfl)

def A_slices_Sorted_string : Ann := .auto
/-- slices.Sorted[string] -/
def F_slices_Sorted_string (p0 : FV) (K : Value → PT) : PT :=
  L.call Pr n_slices_Collect_string [.func p0.fn p0.fs p0.cs] (.one (.one (.slice))) fun (x1 : Sl) =>
  L.call Pr n_slices_Sort_string_string [.slice x1.a x1.len x1.cap] (.tup []) fun (x2 : Unit) =>
  K (.slice x1.a x1.len x1.cap)
theorem D_slices_Sorted_string (p0 : FV) (K : Value → PT) : denF Pr Dt Try.f40 A_slices_Sorted_string [.v (.func p0.fn p0.fs p0.cs)] K = F_slices_Sorted_string p0 K := by kernel_rfl
theorem C_slices_Sorted_string (p0 : FV) {K : Value → PT} {w : World} (h : F_slices_Sorted_string p0 K w) : Calls Pr n_slices_Sorted_string [.func p0.fn p0.fs p0.cs].toArray w fun e w2 => ∃ v, e = .returned v ∧ K v w2 :=
  denF_ok Tok (f := 40) (fn := Try.f40) (an := A_slices_Sorted_string) (args := [.v (.func p0.fn p0.fs p0.cs)]) (by kernel_rfl) (by kernel_rfl) ((congrFun (D_slices_Sorted_string p0 K) w).mpr h)
theorem E_slices_Sorted_string : Enters Pr n_slices_Sorted_string := enters_of_B (by kernel_rfl)

def A_maps_Keys_map_string_shelf_thing_api_Config_string_bd34 : Ann := .auto
/-- maps.Keys[map[string]damper/shelf.thing[damper/api.Config],string,damper/shelf.thing[damper/api.Config]] -/
def F_maps_Keys_map_string_shelf_thing_api_Config_string_bd34 (p0 : Option Nat) (K : Value → PT) : PT :=
  L.new [.map p0] T_map_string_shelf_thing_api_Config fun b1 =>
  K (.func (.func n_maps_Keys_map_string_shelf_thing_api_Config_string_df09) #[] #[.pointer (some (⟨b1, 0, none⟩))])
theorem D_maps_Keys_map_string_shelf_thing_api_Config_string_bd34 (p0 : Option Nat) (K : Value → PT) : denF Pr Dt Try.f41 A_maps_Keys_map_string_shelf_thing_api_Config_string_bd34 [.v (.map p0)] K = F_maps_Keys_map_string_shelf_thing_api_Config_string_bd34 p0 K := by kernel_rfl
theorem C_maps_Keys_map_string_shelf_thing_api_Config_string_bd34 (p0 : Option Nat) {K : Value → PT} {w : World} (h : F_maps_Keys_map_string_shelf_thing_api_Config_string_bd34 p0 K w) : Calls Pr n_maps_Keys_map_string_shelf_thing_api_Config_string_bd34 [.map p0].toArray w fun e w2 => ∃ v, e = .returned v ∧ K v w2 :=
  denF_ok Tok (f := 41) (fn := Try.f41) (an := A_maps_Keys_map_string_shelf_thing_api_Config_string_bd34) (args := [.v (.map p0)]) (by kernel_rfl) (by kernel_rfl) ((congrFun (D_maps_Keys_map_string_shelf_thing_api_Config_string_bd34 p0 K) w).mpr h)
theorem E_maps_Keys_map_string_shelf_thing_api_Config_string_bd34 : Enters Pr n_maps_Keys_map_string_shelf_thing_api_Config_string_bd34 := enters_of_B (by kernel_rfl)

def A_shelf_rack_api_Route_names_1 : Ann := (.seq .auto (.one [(12, (.one (.int .i64)))] (.seq .auto (.seq .auto (.seq (.seq .auto (.seq .auto (.cond .auto .auto) none) none) .auto (some [])) none) none)) none)
/-- (*damper/shelf.rack[damper/api.Route]).names$1 -/
def F_shelf_rack_api_Route_names_1 (p0 : FV) (c0 : Addr) (K : Value → PT) : PT :=
  L.load (.one (.ptr)) c0 fun (x1 : Option Addr) =>
  L.nonnil x1 fun a2 =>
  L.load (.one (.map)) (a2.add 0) fun (x3 : Option Nat) =>
  L.call Pr n_maps_Keys_map_string_shelf_thing_api_Route_string__f1c6 [.map x3] (.one (.one (.func))) fun (x4 : FV) =>
  L.call Pr n_slices_Sorted_string [.func x4.fn x4.fs x4.cs] (.one (.one (.slice))) fun (x5 : Sl) =>
  L.loop (Y := Int × Unit) (0, ()) fun y6 again7 =>
  L.ite (decide (y6.1 < ((x5.len : Nat) : Int))) (
    L.join (Y := Unit) (fun k8 =>
      L.idx x5.a y6.1 x5.len 1 fun a10 =>
      L.load (.one (.str)) a10 fun (x11 : ByteArray) =>
      L.load (.one (.ptr)) c0 fun (x12 : Option Addr) =>
      L.nonnil x12 fun a13 =>
      L.load (.one (.map)) (a13.add 0) fun (x14 : Option Nat) =>
      L.semR Pr (.one (.agg [.str, .str, .slice, .int .i64, .int .i64, .int .i64, .bool])) (Instr.lookup T_map_string_shelf_thing_api_Route (.map x14) (.string x11) false) fun (x15 : ByteArray × ByteArray × Sl × Int × Int × Int × Bool × Unit) =>
      L.ite x15.2.2.2.2.2.2.1 (
        L.callV Pr (.func p0.fn p0.fs p0.cs) [.string x11] (.one (.one (.bool))) fun (x16 : Bool) =>
        L.ite (!x16) (
          K (.tuple #[])) <|
        k8 (())) <|
      k8 (())) fun z9 =>
    again7 (IntKind.wrap .i64 (y6.1 + 1), ())) <|
  K (.tuple #[])
theorem D_shelf_rack_api_Route_names_1 (p0 : FV) (c0 : Addr) (K : Value → PT) : denF Pr Dt Try.f42 A_shelf_rack_api_Route_names_1 [.v (.func p0.fn p0.fs p0.cs), .v (.pointer (some c0))] K = F_shelf_rack_api_Route_names_1 p0 c0 K := by kernel_rfl
theorem C_shelf_rack_api_Route_names_1 (p0 : FV) (c0 : Addr) {K : Value → PT} {w : World} (h : F_shelf_rack_api_Route_names_1 p0 c0 K w) : Calls Pr n_shelf_rack_api_Route_names_1 [.func p0.fn p0.fs p0.cs, .pointer (some c0)].toArray w fun e w2 => ∃ v, e = .returned v ∧ K v w2 :=
  denF_ok Tok (f := 42) (fn := Try.f42) (an := A_shelf_rack_api_Route_names_1) (args := [.v (.func p0.fn p0.fs p0.cs), .v (.pointer (some c0))]) (by kernel_rfl) (by kernel_rfl) ((congrFun (D_shelf_rack_api_Route_names_1 p0 c0 K) w).mpr h)
theorem E_shelf_rack_api_Route_names_1 : Enters Pr n_shelf_rack_api_Route_names_1 := enters_of_B (by kernel_rfl)

def A_maps_Keys_map_string_shelf_thing_api_Route_string__f1c6 : Ann := .auto
/-- maps.Keys[map[string]damper/shelf.thing[damper/api.Route],string,damper/shelf.thing[damper/api.Route]] -/
def F_maps_Keys_map_string_shelf_thing_api_Route_string__f1c6 (p0 : Option Nat) (K : Value → PT) : PT :=
  L.new [.map p0] T_map_string_shelf_thing_api_Route fun b1 =>
  K (.func (.func n_maps_Keys_map_string_shelf_thing_api_Route_string__801b) #[] #[.pointer (some (⟨b1, 0, none⟩))])
theorem D_maps_Keys_map_string_shelf_thing_api_Route_string__f1c6 (p0 : Option Nat) (K : Value → PT) : denF Pr Dt Try.f43 A_maps_Keys_map_string_shelf_thing_api_Route_string__f1c6 [.v (.map p0)] K = F_maps_Keys_map_string_shelf_thing_api_Route_string__f1c6 p0 K := by kernel_rfl
theorem C_maps_Keys_map_string_shelf_thing_api_Route_string__f1c6 (p0 : Option Nat) {K : Value → PT} {w : World} (h : F_maps_Keys_map_string_shelf_thing_api_Route_string__f1c6 p0 K w) : Calls Pr n_maps_Keys_map_string_shelf_thing_api_Route_string__f1c6 [.map p0].toArray w fun e w2 => ∃ v, e = .returned v ∧ K v w2 :=
  denF_ok Tok (f := 43) (fn := Try.f43) (an := A_maps_Keys_map_string_shelf_thing_api_Route_string__f1c6) (args := [.v (.map p0)]) (by kernel_rfl) (by kernel_rfl) ((congrFun (D_maps_Keys_map_string_shelf_thing_api_Route_string__f1c6 p0 K) w).mpr h)
theorem E_maps_Keys_map_string_shelf_thing_api_Route_string__f1c6 : Enters Pr n_maps_Keys_map_string_shelf_thing_api_Route_string__f1c6 := enters_of_B (by kernel_rfl)

def A_label_short : Ann := (.seq .auto (.seq .auto (.seq (.seq .auto (.one [(5, (.one (.int .i32)))] (.seq .auto (.seq (.cond .auto .auto) (.seq .auto (.seq (.seq .auto (.cond .auto .auto) none) .auto (some [])) none) none) none)) none) .auto none) none) none)
/-- damper/label.short -/
def F_label_short (p0 : ByteArray) (p1 : Int) (K : Value → PT) : PT :=
  L.sem Pr (.one (.one .ptr)) (Instr.range T_string (.string p0)) fun (it1 : Option Addr) =>
  L.loop (Y := Int × Unit) (45, ()) fun y2 again3 =>
  L.next Pr [(.one (.int .i64)), (.one (.int .i32))] (Instr.next (.pointer it1) true T_) (
    L.ite (y2.1 != 45) (
      K (.bool (decide ((p0.size : Int) ≤ p1)))) <|
    K (.bool false)) fun (x4 : Int × Int × Unit) =>
  L.join (Y := Unit) (fun k5 =>
    L.call Pr n_label_sign [.int .i32 x4.2.1] (.one (.one (.bool))) fun (x7 : Bool) =>
    L.ite (!x7) (
      K (.bool false)) <|
    L.ite (x4.1 == 0) (
      L.call Pr n_label_letter [.int .i32 x4.2.1] (.one (.one (.bool))) fun (x8 : Bool) =>
      L.ite (!x8) (
        K (.bool false)) <|
      k5 (())) <|
    k5 (())) fun z6 =>
  again3 (x4.2.1, ())
theorem D_label_short (p0 : ByteArray) (p1 : Int) (K : Value → PT) : denF Pr Dt Try.f44 A_label_short [.v (.string p0), .v (.int .i64 p1)] K = F_label_short p0 p1 K := by kernel_rfl
theorem C_label_short (p0 : ByteArray) (p1 : Int) {K : Value → PT} {w : World} (h : F_label_short p0 p1 K w) : Calls Pr n_label_short [.string p0, .int .i64 p1].toArray w fun e w2 => ∃ v, e = .returned v ∧ K v w2 :=
  denF_ok Tok (f := 44) (fn := Try.f44) (an := A_label_short) (args := [.v (.string p0), .v (.int .i64 p1)]) (by kernel_rfl) (by kernel_rfl) ((congrFun (D_label_short p0 p1 K) w).mpr h)
theorem E_label_short : Enters Pr n_label_short := enters_of_B (by kernel_rfl)

def A_slices_Collect_string : Ann := .auto
/-- slices.Collect[string] -/
def F_slices_Collect_string (p0 : FV) (K : Value → PT) : PT :=
  L.call Pr n_slices_AppendSeq_string_string [.slice none 0 0, .func p0.fn p0.fs p0.cs] (.one (.one (.slice))) fun (x1 : Sl) =>
  K (.slice x1.a x1.len x1.cap)
theorem D_slices_Collect_string (p0 : FV) (K : Value → PT) : denF Pr Dt Try.f45 A_slices_Collect_string [.v (.func p0.fn p0.fs p0.cs)] K = F_slices_Collect_string p0 K := by kernel_rfl
theorem C_slices_Collect_string (p0 : FV) {K : Value → PT} {w : World} (h : F_slices_Collect_string p0 K w) : Calls Pr n_slices_Collect_string [.func p0.fn p0.fs p0.cs].toArray w fun e w2 => ∃ v, e = .returned v ∧ K v w2 :=
  denF_ok Tok (f := 45) (fn := Try.f45) (an := A_slices_Collect_string) (args := [.v (.func p0.fn p0.fs p0.cs)]) (by kernel_rfl) (by kernel_rfl) ((congrFun (D_slices_Collect_string p0 K) w).mpr h)
theorem E_slices_Collect_string : Enters Pr n_slices_Collect_string := enters_of_B (by kernel_rfl)

def A_maps_Keys_map_string_shelf_thing_api_Config_string_df09 : Ann := (.seq .auto (.one [] (.seq .auto (.seq (.cond .auto .auto) .auto none) none)) none)
/-- maps.Keys[map[string]damper/shelf.thing[damper/api.Config],string,damper/shelf.thing[damper/api.Config]]$1 -/
def F_maps_Keys_map_string_shelf_thing_api_Config_string_df09 (p0 : FV) (c0 : Addr) (K : Value → PT) : PT :=
  L.load (.one (.map)) c0 fun (x1 : Option Nat) =>
  L.sem Pr (.one (.one .ptr)) (Instr.range T_map_string_shelf_thing_api_Config (.map x1)) fun (it2 : Option Addr) =>
  L.loop (Y := Unit) (()) fun y3 again4 =>
  L.next Pr [(.one (.str)), (.agg [.str, .int .i64, .int .i64, .int .i64, .int .i64, .int .i64, .int .i64, .int .i64, .bool])] (Instr.next (.pointer it2) false T_) (
    K (.tuple #[])) fun (x5 : ByteArray × (ByteArray × Int × Int × Int × Int × Int × Int × Int × Bool × Unit) × Unit) =>
  L.sem Pr (.tup [(.one (.str)), (.agg [.str, .int .i64, .int .i64, .int .i64, .int .i64, .int .i64, .int .i64, .int .i64, .bool])]) (Instr.entry (.pointer it2)) fun (x6 : ByteArray × (ByteArray × Int × Int × Int × Int × Int × Int × Int × Bool × Unit) × Unit) =>
  L.callV Pr (.func p0.fn p0.fs p0.cs) [.string x6.1] (.one (.one (.bool))) fun (x7 : Bool) =>
  L.ite (!x7) (
    K (.tuple #[])) <|
  again4 (())
theorem D_maps_Keys_map_string_shelf_thing_api_Config_string_df09 (p0 : FV) (c0 : Addr) (K : Value → PT) : denF Pr Dt Try.f47 A_maps_Keys_map_string_shelf_thing_api_Config_string_df09 [.v (.func p0.fn p0.fs p0.cs), .v (.pointer (some c0))] K = F_maps_Keys_map_string_shelf_thing_api_Config_string_df09 p0 c0 K := by kernel_rfl
theorem C_maps_Keys_map_string_shelf_thing_api_Config_string_df09 (p0 : FV) (c0 : Addr) {K : Value → PT} {w : World} (h : F_maps_Keys_map_string_shelf_thing_api_Config_string_df09 p0 c0 K w) : Calls Pr n_maps_Keys_map_string_shelf_thing_api_Config_string_df09 [.func p0.fn p0.fs p0.cs, .pointer (some c0)].toArray w fun e w2 => ∃ v, e = .returned v ∧ K v w2 :=
  denF_ok Tok (f := 47) (fn := Try.f47) (an := A_maps_Keys_map_string_shelf_thing_api_Config_string_df09) (args := [.v (.func p0.fn p0.fs p0.cs), .v (.pointer (some c0))]) (by kernel_rfl) (by kernel_rfl) ((congrFun (D_maps_Keys_map_string_shelf_thing_api_Config_string_df09 p0 c0 K) w).mpr h)
theorem E_maps_Keys_map_string_shelf_thing_api_Config_string_df09 : Enters Pr n_maps_Keys_map_string_shelf_thing_api_Config_string_df09 := enters_of_B (by kernel_rfl)

def A_maps_Keys_map_string_shelf_thing_api_Route_string__801b : Ann := (.seq .auto (.one [] (.seq .auto (.seq (.cond .auto .auto) .auto none) none)) none)
/-- maps.Keys[map[string]damper/shelf.thing[damper/api.Route],string,damper/shelf.thing[damper/api.Route]]$1 -/
def F_maps_Keys_map_string_shelf_thing_api_Route_string__801b (p0 : FV) (c0 : Addr) (K : Value → PT) : PT :=
  L.load (.one (.map)) c0 fun (x1 : Option Nat) =>
  L.sem Pr (.one (.one .ptr)) (Instr.range T_map_string_shelf_thing_api_Route (.map x1)) fun (it2 : Option Addr) =>
  L.loop (Y := Unit) (()) fun y3 again4 =>
  L.next Pr [(.one (.str)), (.agg [.str, .str, .slice, .int .i64, .int .i64, .int .i64, .bool])] (Instr.next (.pointer it2) false T_) (
    K (.tuple #[])) fun (x5 : ByteArray × (ByteArray × ByteArray × Sl × Int × Int × Int × Bool × Unit) × Unit) =>
  L.sem Pr (.tup [(.one (.str)), (.agg [.str, .str, .slice, .int .i64, .int .i64, .int .i64, .bool])]) (Instr.entry (.pointer it2)) fun (x6 : ByteArray × (ByteArray × ByteArray × Sl × Int × Int × Int × Bool × Unit) × Unit) =>
  L.callV Pr (.func p0.fn p0.fs p0.cs) [.string x6.1] (.one (.one (.bool))) fun (x7 : Bool) =>
  L.ite (!x7) (
    K (.tuple #[])) <|
  again4 (())
theorem D_maps_Keys_map_string_shelf_thing_api_Route_string__801b (p0 : FV) (c0 : Addr) (K : Value → PT) : denF Pr Dt Try.f48 A_maps_Keys_map_string_shelf_thing_api_Route_string__801b [.v (.func p0.fn p0.fs p0.cs), .v (.pointer (some c0))] K = F_maps_Keys_map_string_shelf_thing_api_Route_string__801b p0 c0 K := by kernel_rfl
theorem C_maps_Keys_map_string_shelf_thing_api_Route_string__801b (p0 : FV) (c0 : Addr) {K : Value → PT} {w : World} (h : F_maps_Keys_map_string_shelf_thing_api_Route_string__801b p0 c0 K w) : Calls Pr n_maps_Keys_map_string_shelf_thing_api_Route_string__801b [.func p0.fn p0.fs p0.cs, .pointer (some c0)].toArray w fun e w2 => ∃ v, e = .returned v ∧ K v w2 :=
  denF_ok Tok (f := 48) (fn := Try.f48) (an := A_maps_Keys_map_string_shelf_thing_api_Route_string__801b) (args := [.v (.func p0.fn p0.fs p0.cs), .v (.pointer (some c0))]) (by kernel_rfl) (by kernel_rfl) ((congrFun (D_maps_Keys_map_string_shelf_thing_api_Route_string__801b p0 c0 K) w).mpr h)
theorem E_maps_Keys_map_string_shelf_thing_api_Route_string__801b : Enters Pr n_maps_Keys_map_string_shelf_thing_api_Route_string__801b := enters_of_B (by kernel_rfl)

def A_label_sign : Ann := .auto
/-- damper/label.sign -/
def F_label_sign (p0 : Int) (K : Value → PT) : PT :=
  L.call Pr n_label_letter [.int .i32 p0] (.one (.one (.bool))) fun (x1 : Bool) =>
  L.ite x1 (
    K (.bool true)) <|
  L.ite (decide (p0 ≥ 48)) (
    L.ite (decide (p0 ≤ 57)) (
      K (.bool true)) <|
    K (.bool (p0 == 45))) <|
  K (.bool (p0 == 45))
theorem D_label_sign (p0 : Int) (K : Value → PT) : denF Pr Dt Try.f49 A_label_sign [.v (.int .i32 p0)] K = F_label_sign p0 K := by kernel_rfl
theorem C_label_sign (p0 : Int) {K : Value → PT} {w : World} (h : F_label_sign p0 K w) : Calls Pr n_label_sign [.int .i32 p0].toArray w fun e w2 => ∃ v, e = .returned v ∧ K v w2 :=
  denF_ok Tok (f := 49) (fn := Try.f49) (an := A_label_sign) (args := [.v (.int .i32 p0)]) (by kernel_rfl) (by kernel_rfl) ((congrFun (D_label_sign p0 K) w).mpr h)
theorem E_label_sign : Enters Pr n_label_sign := enters_of_B (by kernel_rfl)

def A_label_letter : Ann := .auto
/-- damper/label.letter -/
def F_label_letter (p0 : Int) (K : Value → PT) : PT :=
  L.ite (decide (p0 ≥ 97)) (
    K (.bool (decide (p0 ≤ 122)))) <|
  K (.bool false)
theorem D_label_letter (p0 : Int) (K : Value → PT) : denF Pr Dt Try.f50 A_label_letter [.v (.int .i32 p0)] K = F_label_letter p0 K := by kernel_rfl
theorem C_label_letter (p0 : Int) {K : Value → PT} {w : World} (h : F_label_letter p0 K w) : Calls Pr n_label_letter [.int .i32 p0].toArray w fun e w2 => ∃ v, e = .returned v ∧ K v w2 :=
  denF_ok Tok (f := 50) (fn := Try.f50) (an := A_label_letter) (args := [.v (.int .i32 p0)]) (by kernel_rfl) (by kernel_rfl) ((congrFun (D_label_letter p0 K) w).mpr h)
theorem E_label_letter : Enters Pr n_label_letter := enters_of_B (by kernel_rfl)

def A_slices_AppendSeq_string_string : Ann := (.seq .auto (.seq (.seq .auto (.seq .auto .auto (some [(7, (.one (.str)))])) none) .auto none) none)
/-- slices.AppendSeq[[]string,string] -/
def F_slices_AppendSeq_string_string (p0 : Sl) (p1 : FV) (K : Value → PT) : PT :=
  L.new [.slice p0.a p0.len p0.cap] T_s_string fun b1 =>
  L.range Pr none (.func p1.fn p1.fs p1.cs) [(.one (.str))] (fun l2 (y3 : ByteArray × Unit) R4 =>
    L.begin Pr l2 <|
    L.load (.one (.slice)) (⟨b1, 0, none⟩) fun (x7 : Sl) =>
    L.new [.string y3.1] T_string fun b8 =>
    L.sem Pr (.one (.one .slice)) (Builtin.append_ #[T_s_string, T_s_string] T_s_string #[.slice x7.a x7.len x7.cap, .slice (some ⟨b8, 0, none⟩) 1 1]) fun (s9 : Sl) =>
    L.store (⟨b1, 0, none⟩) [.slice s9.a s9.len s9.cap] <|
    L.endRound Pr l2 none R4) fun d5 j6 =>
  L.jump j6 (
    L.load (.one (.slice)) (⟨b1, 0, none⟩) fun (x10 : Sl) =>
    L.unmark Pr (d5 ++ []) <|
    K (.slice x10.a x10.len x10.cap)) (
    L.unmark Pr (d5 ++ []) <|
    K (.slice none 0 0)) []
theorem D_slices_AppendSeq_string_string (p0 : Sl) (p1 : FV) (K : Value → PT) : denF Pr Dt Try.f51 A_slices_AppendSeq_string_string [.v (.slice p0.a p0.len p0.cap), .v (.func p1.fn p1.fs p1.cs)] K = F_slices_AppendSeq_string_string p0 p1 K := by kernel_rfl
theorem C_slices_AppendSeq_string_string (p0 : Sl) (p1 : FV) {K : Value → PT} {w : World} (h : F_slices_AppendSeq_string_string p0 p1 K w) : Calls Pr n_slices_AppendSeq_string_string [.slice p0.a p0.len p0.cap, .func p1.fn p1.fs p1.cs].toArray w fun e w2 => ∃ v, e = .returned v ∧ K v w2 :=
  denF_ok Tok (f := 51) (fn := Try.f51) (an := A_slices_AppendSeq_string_string) (args := [.v (.slice p0.a p0.len p0.cap), .v (.func p1.fn p1.fs p1.cs)]) (by kernel_rfl) (by kernel_rfl) ((congrFun (D_slices_AppendSeq_string_string p0 p1 K) w).mpr h)
theorem E_slices_AppendSeq_string_string : Enters Pr n_slices_AppendSeq_string_string := enters_of_B (by kernel_rfl)

end Go.Proofs.Ytpnbgpolbjbhpaa
