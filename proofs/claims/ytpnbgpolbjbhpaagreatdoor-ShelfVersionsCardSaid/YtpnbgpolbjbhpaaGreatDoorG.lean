/- The functions of the program, read as predicates on the world, each with its contract (text G). No conditions beyond those its theorems state. -/
import Derived.Test.YtpnbgpolbjbhpaaGreatDoorG1
set_option linter.all false
set_option maxRecDepth 100000
namespace Go.Proofs.YtpnbgpolbjbhpaaGreatDoor
open Go.Dm
def A_shelf_rack_api_Route_may : Ann := (.seq .auto (.seq .auto (.seq (.seq .auto (.cond .auto (.seq .auto (.cond .auto .auto) none)) none) .auto (some [])) none) none)
/-- (*damper/shelf.rack[damper/api.Route]).may -/
def F_shelf_rack_api_Route_may (p0 : Option Addr) (p1 : ByteArray) (p2 : Int) (p3 : Bool) (K : Value → PT) : PT :=
  L.nonnil p0 fun a1 =>
  L.load (.one (.map)) (a1.add 0) fun (x2 : Option Nat) =>
  L.semR Pr (.one (.agg [.str, .str, .slice, .int .i64, .int .i64, .int .i64, .bool])) (Instr.lookup T_map_string_shelf_thing_api_Route (.map x2) (.string p1) false) fun (x3 : ByteArray × ByteArray × Sl × Int × Int × Int × Bool × Unit) =>
  L.new [.string s_, .string s_, .slice none 0 0, .int .i64 0, .int .i64 0, .int .i64 0, .bool false] T_shelf_thing_api_Route fun b4 =>
  L.store (⟨b4, 0, none⟩) [.string x3.1, .string x3.2.1, .slice x3.2.2.1.a x3.2.2.1.len x3.2.2.1.cap, .int .i64 x3.2.2.2.1, .int .i64 x3.2.2.2.2.1, .int .i64 x3.2.2.2.2.2.1, .bool x3.2.2.2.2.2.2.1] <|
  L.join (Y := Unit) (fun k5 =>
    L.ite p3 (
      L.ite (p2 == 0) (
        L.load (.one (.bool)) ((⟨b4, 0, none⟩ : Addr).add 6) fun (x7 : Bool) =>
        L.ite x7 (
          K (.int .i64 5)) <|
        L.ite p3 (
          L.ite (p2 == 0) (
            K (.int .i64 0)) <|
          L.load (.one (.bool)) ((⟨b4, 0, none⟩ : Addr).add 6) fun (x8 : Bool) =>
          L.ite (!x8) (
            K (.int .i64 6)) <|
          L.load (.one (.int .i64)) ((⟨b4, 0, none⟩ : Addr).add 4) fun (x9 : Int) =>
          L.ite (x9 != p2) (
            K (.int .i64 7)) <|
          k5 (())) <|
        L.load (.one (.bool)) ((⟨b4, 0, none⟩ : Addr).add 6) fun (x10 : Bool) =>
        L.ite (!x10) (
          K (.int .i64 6)) <|
        L.load (.one (.int .i64)) ((⟨b4, 0, none⟩ : Addr).add 4) fun (x11 : Int) =>
        L.ite (x11 != p2) (
          K (.int .i64 7)) <|
        k5 (())) <|
      L.ite p3 (
        L.ite (p2 == 0) (
          K (.int .i64 0)) <|
        L.load (.one (.bool)) ((⟨b4, 0, none⟩ : Addr).add 6) fun (x12 : Bool) =>
        L.ite (!x12) (
          K (.int .i64 6)) <|
        L.load (.one (.int .i64)) ((⟨b4, 0, none⟩ : Addr).add 4) fun (x13 : Int) =>
        L.ite (x13 != p2) (
          K (.int .i64 7)) <|
        k5 (())) <|
      L.load (.one (.bool)) ((⟨b4, 0, none⟩ : Addr).add 6) fun (x14 : Bool) =>
      L.ite (!x14) (
        K (.int .i64 6)) <|
      L.load (.one (.int .i64)) ((⟨b4, 0, none⟩ : Addr).add 4) fun (x15 : Int) =>
      L.ite (x15 != p2) (
        K (.int .i64 7)) <|
      k5 (())) <|
    L.ite p3 (
      L.ite (p2 == 0) (
        K (.int .i64 0)) <|
      L.load (.one (.bool)) ((⟨b4, 0, none⟩ : Addr).add 6) fun (x16 : Bool) =>
      L.ite (!x16) (
        K (.int .i64 6)) <|
      L.load (.one (.int .i64)) ((⟨b4, 0, none⟩ : Addr).add 4) fun (x17 : Int) =>
      L.ite (x17 != p2) (
        K (.int .i64 7)) <|
      k5 (())) <|
    L.load (.one (.bool)) ((⟨b4, 0, none⟩ : Addr).add 6) fun (x18 : Bool) =>
    L.ite (!x18) (
      K (.int .i64 6)) <|
    L.load (.one (.int .i64)) ((⟨b4, 0, none⟩ : Addr).add 4) fun (x19 : Int) =>
    L.ite (x19 != p2) (
      K (.int .i64 7)) <|
    k5 (())) fun z6 =>
  K (.int .i64 0)
theorem D_shelf_rack_api_Route_may (p0 : Option Addr) (p1 : ByteArray) (p2 : Int) (p3 : Bool) (K : Value → PT) : denF Pr Dt Tryz.f30 A_shelf_rack_api_Route_may [.v (.pointer p0), .v (.string p1), .v (.int .i64 p2), .v (.bool p3)] K = F_shelf_rack_api_Route_may p0 p1 p2 p3 K := by kernel_rfl
theorem C_shelf_rack_api_Route_may (p0 : Option Addr) (p1 : ByteArray) (p2 : Int) (p3 : Bool) {K : Value → PT} {w : World} (h : F_shelf_rack_api_Route_may p0 p1 p2 p3 K w) : Calls Pr n_shelf_rack_api_Route_may [.pointer p0, .string p1, .int .i64 p2, .bool p3].toArray w fun e w2 => ∃ v, e = .returned v ∧ K v w2 :=
  denF_ok Tok (f := 30) (fn := Tryz.f30) (an := A_shelf_rack_api_Route_may) (args := [.v (.pointer p0), .v (.string p1), .v (.int .i64 p2), .v (.bool p3)]) (by kernel_rfl) (by kernel_rfl) ((congrFun (D_shelf_rack_api_Route_may p0 p1 p2 p3 K) w).mpr h)
theorem E_shelf_rack_api_Route_may : Enters Pr n_shelf_rack_api_Route_may := enters_of_B (by kernel_rfl)

def A_shelf_rack_api_Route_put : Ann := (.seq .auto (.seq .auto (.seq .auto .auto (some [])) none) none)
/-- (*damper/shelf.rack[damper/api.Route]).put -/
def F_shelf_rack_api_Route_put (p0 : Option Addr) (p1 : ByteArray) (p2 : HT [.str, .str, .slice, .int .i64]) (p3 : Int) (K : Value → PT) : PT :=
  L.new [.string p2.1, .string p2.2.1, .slice p2.2.2.1.a p2.2.2.1.len p2.2.2.1.cap, .int .i64 p2.2.2.2.1] T_api_Route fun b1 =>
  L.nonnil p0 fun a2 =>
  L.load (.one (.map)) (a2.add 0) fun (x3 : Option Nat) =>
  L.semR Pr (.one (.agg [.str, .str, .slice, .int .i64, .int .i64, .int .i64, .bool])) (Instr.lookup T_map_string_shelf_thing_api_Route (.map x3) (.string p1) false) fun (x4 : ByteArray × ByteArray × Sl × Int × Int × Int × Bool × Unit) =>
  L.new [.string s_, .string s_, .slice none 0 0, .int .i64 0, .int .i64 0, .int .i64 0, .bool false] T_shelf_thing_api_Route fun b5 =>
  L.store (⟨b5, 0, none⟩) [.string x4.1, .string x4.2.1, .slice x4.2.2.1.a x4.2.2.1.len x4.2.2.1.cap, .int .i64 x4.2.2.2.1, .int .i64 x4.2.2.2.2.1, .int .i64 x4.2.2.2.2.2.1, .bool x4.2.2.2.2.2.2.1] <|
  L.join (Y := Unit) (fun k6 =>
    L.draw <|
    L.load (.one (.bool)) ((⟨b5, 0, none⟩ : Addr).add 6) fun (x8 : Bool) =>
    L.ite (!x8) (
      L.load (.one (.int .i64)) ((⟨b5, 0, none⟩ : Addr).add 5) fun (x9 : Int) =>
      L.store ((⟨b5, 0, none⟩ : Addr).add 5) [.int .i64 (IntKind.wrap .i64 (x9 + 1))] <|
      k6 (())) <|
    L.nonnil p0 fun a10 =>
    L.load (.one (.func)) (a10.add 1) fun (x11 : FV) =>
    L.load (.agg [.str, .str, .slice, .int .i64]) ((⟨b5, 0, none⟩ : Addr).add 0) fun (x12 : ByteArray × ByteArray × Sl × Int × Unit) =>
    L.load (.agg [.str, .str, .slice, .int .i64]) (⟨b1, 0, none⟩) fun (x13 : ByteArray × ByteArray × Sl × Int × Unit) =>
    L.callV Pr (.func x11.fn x11.fs x11.cs) [.agg #[.string x12.1, .string x12.2.1, .slice x12.2.2.1.a x12.2.2.1.len x12.2.2.1.cap, .int .i64 x12.2.2.2.1], .agg #[.string x13.1, .string x13.2.1, .slice x13.2.2.1.a x13.2.2.1.len x13.2.2.1.cap, .int .i64 x13.2.2.2.1]] (.one (.one (.bool))) fun (x14 : Bool) =>
    L.ite (!x14) (
      L.load (.one (.int .i64)) ((⟨b5, 0, none⟩ : Addr).add 5) fun (x15 : Int) =>
      L.store ((⟨b5, 0, none⟩ : Addr).add 5) [.int .i64 (IntKind.wrap .i64 (x15 + 1))] <|
      k6 (())) <|
    k6 (())) fun z7 =>
  L.draw <|
  L.nonnil p0 fun a16 =>
  L.load (.one (.map)) (a16.add 0) fun (x17 : Option Nat) =>
  L.load (.agg [.str, .str, .slice, .int .i64]) (⟨b1, 0, none⟩) fun (x18 : ByteArray × ByteArray × Sl × Int × Unit) =>
  L.load (.one (.int .i64)) ((⟨b5, 0, none⟩ : Addr).add 5) fun (x19 : Int) =>
  L.semU Pr (Instr.mapUpdate T_map_string_shelf_thing_api_Route (.map x17) (.string p1) (.agg #[.string x18.1, .string x18.2.1, .slice x18.2.2.1.a x18.2.2.1.len x18.2.2.1.cap, .int .i64 x18.2.2.2.1, .int .i64 p3, .int .i64 x19, .bool true])) <|
  K (.tuple #[])
theorem D_shelf_rack_api_Route_put (p0 : Option Addr) (p1 : ByteArray) (p2 : HT [.str, .str, .slice, .int .i64]) (p3 : Int) (K : Value → PT) : denF Pr Dt Tryz.f31 A_shelf_rack_api_Route_put [.v (.pointer p0), .v (.string p1), .ag [.string p2.1, .string p2.2.1, .slice p2.2.2.1.a p2.2.2.1.len p2.2.2.1.cap, .int .i64 p2.2.2.2.1], .v (.int .i64 p3)] K = F_shelf_rack_api_Route_put p0 p1 p2 p3 K := by kernel_rfl
theorem C_shelf_rack_api_Route_put (p0 : Option Addr) (p1 : ByteArray) (p2 : HT [.str, .str, .slice, .int .i64]) (p3 : Int) {K : Value → PT} {w : World} (h : F_shelf_rack_api_Route_put p0 p1 p2 p3 K w) : Calls Pr n_shelf_rack_api_Route_put [.pointer p0, .string p1, (.ag [.string p2.1, .string p2.2.1, .slice p2.2.2.1.a p2.2.2.1.len p2.2.2.1.cap, .int .i64 p2.2.2.2.1] : SV).toV, .int .i64 p3].toArray w fun e w2 => ∃ v, e = .returned v ∧ K v w2 :=
  denF_ok Tok (f := 31) (fn := Tryz.f31) (an := A_shelf_rack_api_Route_put) (args := [.v (.pointer p0), .v (.string p1), .ag [.string p2.1, .string p2.2.1, .slice p2.2.2.1.a p2.2.2.1.len p2.2.2.1.cap, .int .i64 p2.2.2.2.1], .v (.int .i64 p3)]) (by kernel_rfl) (by kernel_rfl) ((congrFun (D_shelf_rack_api_Route_put p0 p1 p2 p3 K) w).mpr h)
theorem E_shelf_rack_api_Route_put : Enters Pr n_shelf_rack_api_Route_put := enters_of_B (by kernel_rfl)

def A_shelf_own : Ann := .auto
/-- damper/shelf.own -/
def F_shelf_own (p0 : HT [.str, .str, .slice, .int .i64]) (K : Value → PT) : PT :=
  L.new [.string p0.1, .string p0.2.1, .slice p0.2.2.1.a p0.2.2.1.len p0.2.2.1.cap, .int .i64 p0.2.2.2.1] T_api_Route fun b1 =>
  L.new [.string s_, .string s_, .slice none 0 0, .int .i64 0] T_api_Route fun b2 =>
  L.load (.one (.slice)) ((⟨b1, 0, none⟩ : Addr).add 2) fun (x3 : Sl) =>
  L.call Pr n_slices_Clone_api_Target_api_Target [.slice x3.a x3.len x3.cap] (.one (.one (.slice))) fun (x4 : Sl) =>
  L.store ((⟨b1, 0, none⟩ : Addr).add 2) [.slice x4.a x4.len x4.cap] <|
  L.load (.agg [.str, .str, .slice, .int .i64]) (⟨b1, 0, none⟩) fun (x5 : ByteArray × ByteArray × Sl × Int × Unit) =>
  L.store (⟨b2, 0, none⟩) [.string x5.1, .string x5.2.1, .slice x5.2.2.1.a x5.2.2.1.len x5.2.2.1.cap, .int .i64 x5.2.2.2.1] <|
  L.load (.agg [.str, .str, .slice, .int .i64]) (⟨b2, 0, none⟩) fun (x6 : ByteArray × ByteArray × Sl × Int × Unit) =>
  K (.agg #[.string x6.1, .string x6.2.1, .slice x6.2.2.1.a x6.2.2.1.len x6.2.2.1.cap, .int .i64 x6.2.2.2.1])
theorem D_shelf_own (p0 : HT [.str, .str, .slice, .int .i64]) (K : Value → PT) : denF Pr Dt Tryz.f32 A_shelf_own [.ag [.string p0.1, .string p0.2.1, .slice p0.2.2.1.a p0.2.2.1.len p0.2.2.1.cap, .int .i64 p0.2.2.2.1]] K = F_shelf_own p0 K := by kernel_rfl
theorem C_shelf_own (p0 : HT [.str, .str, .slice, .int .i64]) {K : Value → PT} {w : World} (h : F_shelf_own p0 K w) : Calls Pr n_shelf_own [(.ag [.string p0.1, .string p0.2.1, .slice p0.2.2.1.a p0.2.2.1.len p0.2.2.1.cap, .int .i64 p0.2.2.2.1] : SV).toV].toArray w fun e w2 => ∃ v, e = .returned v ∧ K v w2 :=
  denF_ok Tok (f := 32) (fn := Tryz.f32) (an := A_shelf_own) (args := [.ag [.string p0.1, .string p0.2.1, .slice p0.2.2.1.a p0.2.2.1.len p0.2.2.1.cap, .int .i64 p0.2.2.2.1]]) (by kernel_rfl) (by kernel_rfl) ((congrFun (D_shelf_own p0 K) w).mpr h)
theorem E_shelf_own : Enters Pr n_shelf_own := enters_of_B (by kernel_rfl)

def A_shelf_rack_api_Route_get : Ann := .auto
/-- (*damper/shelf.rack[damper/api.Route]).get -/
def F_shelf_rack_api_Route_get (p0 : Option Addr) (p1 : ByteArray) (K : Value → PT) : PT :=
  L.new [.string s_, .string s_, .slice none 0 0, .int .i64 0, .int .i64 0, .int .i64 0, .bool false] T_shelf_thing_api_Route fun b1 =>
  L.nonnil p0 fun a2 =>
  L.load (.one (.map)) (a2.add 0) fun (x3 : Option Nat) =>
  L.semR Pr (.one (.agg [.str, .str, .slice, .int .i64, .int .i64, .int .i64, .bool])) (Instr.lookup T_map_string_shelf_thing_api_Route (.map x3) (.string p1) false) fun (x4 : ByteArray × ByteArray × Sl × Int × Int × Int × Bool × Unit) =>
  L.new [.string s_, .string s_, .slice none 0 0, .int .i64 0, .int .i64 0, .int .i64 0, .bool false] T_shelf_thing_api_Route fun b5 =>
  L.store (⟨b5, 0, none⟩) [.string x4.1, .string x4.2.1, .slice x4.2.2.1.a x4.2.2.1.len x4.2.2.1.cap, .int .i64 x4.2.2.2.1, .int .i64 x4.2.2.2.2.1, .int .i64 x4.2.2.2.2.2.1, .bool x4.2.2.2.2.2.2.1] <|
  L.draw <|
  L.load (.agg [.str, .str, .slice, .int .i64, .int .i64, .int .i64, .bool]) (⟨b5, 0, none⟩) fun (x6 : ByteArray × ByteArray × Sl × Int × Int × Int × Bool × Unit) =>
  L.load (.one (.bool)) ((⟨b5, 0, none⟩ : Addr).add 6) fun (x7 : Bool) =>
  L.store (⟨b1, 0, none⟩) [.string x6.1, .string x6.2.1, .slice x6.2.2.1.a x6.2.2.1.len x6.2.2.1.cap, .int .i64 x6.2.2.2.1, .int .i64 x6.2.2.2.2.1, .int .i64 x6.2.2.2.2.2.1, .bool x6.2.2.2.2.2.2.1] <|
  L.chk ((⟨b5, 0, none⟩ : Addr).add 6) [.bool x7] <|
  L.load (.agg [.str, .str, .slice, .int .i64, .int .i64, .int .i64, .bool]) (⟨b1, 0, none⟩) fun (x8 : ByteArray × ByteArray × Sl × Int × Int × Int × Bool × Unit) =>
  K (.tuple #[.agg #[.string x8.1, .string x8.2.1, .slice x8.2.2.1.a x8.2.2.1.len x8.2.2.1.cap, .int .i64 x8.2.2.2.1, .int .i64 x8.2.2.2.2.1, .int .i64 x8.2.2.2.2.2.1, .bool x8.2.2.2.2.2.2.1], .bool x7])
theorem D_shelf_rack_api_Route_get (p0 : Option Addr) (p1 : ByteArray) (K : Value → PT) : denF Pr Dt Tryz.f33 A_shelf_rack_api_Route_get [.v (.pointer p0), .v (.string p1)] K = F_shelf_rack_api_Route_get p0 p1 K := by kernel_rfl
theorem C_shelf_rack_api_Route_get (p0 : Option Addr) (p1 : ByteArray) {K : Value → PT} {w : World} (h : F_shelf_rack_api_Route_get p0 p1 K w) : Calls Pr n_shelf_rack_api_Route_get [.pointer p0, .string p1].toArray w fun e w2 => ∃ v, e = .returned v ∧ K v w2 :=
  denF_ok Tok (f := 33) (fn := Tryz.f33) (an := A_shelf_rack_api_Route_get) (args := [.v (.pointer p0), .v (.string p1)]) (by kernel_rfl) (by kernel_rfl) ((congrFun (D_shelf_rack_api_Route_get p0 p1 K) w).mpr h)
theorem E_shelf_rack_api_Route_get : Enters Pr n_shelf_rack_api_Route_get := enters_of_B (by kernel_rfl)

def A_shelf_list : Ann := (.seq .auto (.seq .auto (.seq (.seq .auto (.seq .auto .auto (some [(6, (.one (.str)))])) none) .auto none) none) none)
/-- damper/shelf.list -/
def F_shelf_list (p0 : FV) (K : Value → PT) : PT :=
  L.new [.slice none 0 0] T_s_string fun b1 =>
  L.range Pr none (.func p0.fn p0.fs p0.cs) [(.one (.str))] (fun l2 (y3 : ByteArray × Unit) R4 =>
    L.begin Pr l2 <|
    L.load (.one (.slice)) (⟨b1, 0, none⟩) fun (x7 : Sl) =>
    L.new [.string y3.1] T_string fun b8 =>
    L.sem Pr (.one (.one .slice)) (Builtin.append_ #[T_s_string, T_s_string] T_s_string #[.slice x7.a x7.len x7.cap, .slice (some ⟨b8, 0, none⟩) 1 1]) fun (s9 : Sl) =>
    L.store (⟨b1, 0, none⟩) [.slice s9.a s9.len s9.cap] <|
    L.endRound Pr l2 none R4) fun d5 j6 =>
  L.jump j6 (
    L.load (.one (.slice)) (⟨b1, 0, none⟩) fun (x10 : Sl) =>
    L.call Pr n_slices_Clone_string_string [.slice x10.a x10.len x10.cap] (.one (.one (.slice))) fun (x11 : Sl) =>
    L.unmark Pr (d5 ++ []) <|
    K (.slice x11.a x11.len x11.cap)) (
    L.unmark Pr (d5 ++ []) <|
    K (.slice none 0 0)) []
theorem D_shelf_list (p0 : FV) (K : Value → PT) : denF Pr Dt Tryz.f34 A_shelf_list [.v (.func p0.fn p0.fs p0.cs)] K = F_shelf_list p0 K := by kernel_rfl
theorem C_shelf_list (p0 : FV) {K : Value → PT} {w : World} (h : F_shelf_list p0 K w) : Calls Pr n_shelf_list [.func p0.fn p0.fs p0.cs].toArray w fun e w2 => ∃ v, e = .returned v ∧ K v w2 :=
  denF_ok Tok (f := 34) (fn := Tryz.f34) (an := A_shelf_list) (args := [.v (.func p0.fn p0.fs p0.cs)]) (by kernel_rfl) (by kernel_rfl) ((congrFun (D_shelf_list p0 K) w).mpr h)
theorem E_shelf_list : Enters Pr n_shelf_list := enters_of_B (by kernel_rfl)

def A_shelf_rack_api_Config_names : Ann := .auto
/-- (*damper/shelf.rack[damper/api.Config]).names -/
def F_shelf_rack_api_Config_names (p0 : Option Addr) (K : Value → PT) : PT :=
  L.new [.pointer p0] T_p_shelf_rack_api_Config fun b1 =>
  K (.func (.func n_shelf_rack_api_Config_names_1) #[] #[.pointer (some (⟨b1, 0, none⟩))])
theorem D_shelf_rack_api_Config_names (p0 : Option Addr) (K : Value → PT) : denF Pr Dt Tryz.f35 A_shelf_rack_api_Config_names [.v (.pointer p0)] K = F_shelf_rack_api_Config_names p0 K := by kernel_rfl
theorem C_shelf_rack_api_Config_names (p0 : Option Addr) {K : Value → PT} {w : World} (h : F_shelf_rack_api_Config_names p0 K w) : Calls Pr n_shelf_rack_api_Config_names [.pointer p0].toArray w fun e w2 => ∃ v, e = .returned v ∧ K v w2 :=
  denF_ok Tok (f := 35) (fn := Tryz.f35) (an := A_shelf_rack_api_Config_names) (args := [.v (.pointer p0)]) (by kernel_rfl) (by kernel_rfl) ((congrFun (D_shelf_rack_api_Config_names p0 K) w).mpr h)
theorem E_shelf_rack_api_Config_names : Enters Pr n_shelf_rack_api_Config_names := enters_of_B (by kernel_rfl)

def A_shelf_rack_api_Route_names : Ann := .auto
/-- (*damper/shelf.rack[damper/api.Route]).names -/
def F_shelf_rack_api_Route_names (p0 : Option Addr) (K : Value → PT) : PT :=
  L.new [.pointer p0] T_p_shelf_rack_api_Route fun b1 =>
  K (.func (.func n_shelf_rack_api_Route_names_1) #[] #[.pointer (some (⟨b1, 0, none⟩))])
theorem D_shelf_rack_api_Route_names (p0 : Option Addr) (K : Value → PT) : denF Pr Dt Tryz.f36 A_shelf_rack_api_Route_names [.v (.pointer p0)] K = F_shelf_rack_api_Route_names p0 K := by kernel_rfl
theorem C_shelf_rack_api_Route_names (p0 : Option Addr) {K : Value → PT} {w : World} (h : F_shelf_rack_api_Route_names p0 K w) : Calls Pr n_shelf_rack_api_Route_names [.pointer p0].toArray w fun e w2 => ∃ v, e = .returned v ∧ K v w2 :=
  denF_ok Tok (f := 36) (fn := Tryz.f36) (an := A_shelf_rack_api_Route_names) (args := [.v (.pointer p0)]) (by kernel_rfl) (by kernel_rfl) ((congrFun (D_shelf_rack_api_Route_names p0 K) w).mpr h)
theorem E_shelf_rack_api_Route_names : Enters Pr n_shelf_rack_api_Route_names := enters_of_B (by kernel_rfl)

def A_shelf_taken_api_Config : Ann := (.seq .auto (.seq .auto (.seq .auto .auto (some [])) none) none)
/-- damper/shelf.taken[damper/api.Config] -/
def F_shelf_taken_api_Config (p0 : Option Addr) (p1 : ByteArray) (p2 : Int) (K : Value → PT) : PT :=
  L.call Pr n_shelf_rack_api_Config_may [.pointer p0, .string p1, .int .i64 p2, .bool false] (.one (.one (.int .i64))) fun (x1 : Int) =>
  L.join (Y := Unit) (fun k2 =>
    L.ite (x1 == 0) (
      L.call Pr n_shelf_rack_api_Config_drop [.pointer p0, .string p1] (.tup []) fun (x4 : Unit) =>
      k2 (())) <|
    k2 (())) fun z3 =>
  K (.int .i64 x1)
theorem D_shelf_taken_api_Config (p0 : Option Addr) (p1 : ByteArray) (p2 : Int) (K : Value → PT) : denF Pr Dt Tryz.f37 A_shelf_taken_api_Config [.v (.pointer p0), .v (.string p1), .v (.int .i64 p2)] K = F_shelf_taken_api_Config p0 p1 p2 K := by kernel_rfl
theorem C_shelf_taken_api_Config (p0 : Option Addr) (p1 : ByteArray) (p2 : Int) {K : Value → PT} {w : World} (h : F_shelf_taken_api_Config p0 p1 p2 K w) : Calls Pr n_shelf_taken_api_Config [.pointer p0, .string p1, .int .i64 p2].toArray w fun e w2 => ∃ v, e = .returned v ∧ K v w2 :=
  denF_ok Tok (f := 37) (fn := Tryz.f37) (an := A_shelf_taken_api_Config) (args := [.v (.pointer p0), .v (.string p1), .v (.int .i64 p2)]) (by kernel_rfl) (by kernel_rfl) ((congrFun (D_shelf_taken_api_Config p0 p1 p2 K) w).mpr h)
theorem E_shelf_taken_api_Config : Enters Pr n_shelf_taken_api_Config := enters_of_B (by kernel_rfl)

def A_shelf_taken_api_Route : Ann := (.seq .auto (.seq .auto (.seq .auto .auto (some [])) none) none)
/-- damper/shelf.taken[damper/api.Route] -/
def F_shelf_taken_api_Route (p0 : Option Addr) (p1 : ByteArray) (p2 : Int) (K : Value → PT) : PT :=
  L.call Pr n_shelf_rack_api_Route_may [.pointer p0, .string p1, .int .i64 p2, .bool false] (.one (.one (.int .i64))) fun (x1 : Int) =>
  L.join (Y := Unit) (fun k2 =>
    L.ite (x1 == 0) (
      L.call Pr n_shelf_rack_api_Route_drop [.pointer p0, .string p1] (.tup []) fun (x4 : Unit) =>
      k2 (())) <|
    k2 (())) fun z3 =>
  K (.int .i64 x1)
theorem D_shelf_taken_api_Route (p0 : Option Addr) (p1 : ByteArray) (p2 : Int) (K : Value → PT) : denF Pr Dt Tryz.f38 A_shelf_taken_api_Route [.v (.pointer p0), .v (.string p1), .v (.int .i64 p2)] K = F_shelf_taken_api_Route p0 p1 p2 K := by kernel_rfl
theorem C_shelf_taken_api_Route (p0 : Option Addr) (p1 : ByteArray) (p2 : Int) {K : Value → PT} {w : World} (h : F_shelf_taken_api_Route p0 p1 p2 K w) : Calls Pr n_shelf_taken_api_Route [.pointer p0, .string p1, .int .i64 p2].toArray w fun e w2 => ∃ v, e = .returned v ∧ K v w2 :=
  denF_ok Tok (f := 38) (fn := Tryz.f38) (an := A_shelf_taken_api_Route) (args := [.v (.pointer p0), .v (.string p1), .v (.int .i64 p2)]) (by kernel_rfl) (by kernel_rfl) ((congrFun (D_shelf_taken_api_Route p0 p1 p2 K) w).mpr h)
theorem E_shelf_taken_api_Route : Enters Pr n_shelf_taken_api_Route := enters_of_B (by kernel_rfl)

def A_spec_Config : Ann := (.seq .auto (.seq (.seq .auto (.cond .auto (.seq .auto .auto (some [(8, (.one (.bool)))]))) none) .auto none) none)
/-- damper/spec.Config -/
def F_spec_Config (p0 : HT [.str, .int .i64, .int .i64, .int .i64, .int .i64, .int .i64]) (K : Value → PT) : PT :=
  L.new [.string p0.1, .int .i64 p0.2.1, .int .i64 p0.2.2.1, .int .i64 p0.2.2.2.1, .int .i64 p0.2.2.2.2.1, .int .i64 p0.2.2.2.2.2.1] T_api_Config fun b1 =>
  L.load (.one (.str)) ((⟨b1, 0, none⟩ : Addr).add 0) fun (x2 : ByteArray) =>
  L.call Pr n_label_Name [.string x2] (.one (.one (.bool))) fun (x3 : Bool) =>
  L.ite (!x3) (
    K (.int .i64 1)) <|
  L.join (Y := Bool × Unit) (fun k4 =>
    L.load (.one (.int .i64)) ((⟨b1, 0, none⟩ : Addr).add 1) fun (x6 : Int) =>
    L.call Pr n_spec_span_has [.agg #[.int .i64 0, .int .i64 255], .int .i64 x6] (.one (.one (.bool))) fun (x7 : Bool) =>
    L.ite (!x7) (
      k4 (!x7, ())) <|
    L.load (.one (.int .i64)) ((⟨b1, 0, none⟩ : Addr).add 2) fun (x8 : Int) =>
    L.call Pr n_spec_span_has [.agg #[.int .i64 1, .int .i64 8], .int .i64 x8] (.one (.one (.bool))) fun (x9 : Bool) =>
    L.ite (!x9) (
      k4 (!x9, ())) <|
    L.load (.one (.int .i64)) ((⟨b1, 0, none⟩ : Addr).add 4) fun (x10 : Int) =>
    L.call Pr n_spec_span_has [.agg #[.int .i64 1, .int .i64 10], .int .i64 x10] (.one (.one (.bool))) fun (x11 : Bool) =>
    L.ite (!x11) (
      k4 (!x11, ())) <|
    L.load (.one (.int .i64)) ((⟨b1, 0, none⟩ : Addr).add 4) fun (x12 : Int) =>
    L.load (.one (.int .i64)) ((⟨b1, 0, none⟩ : Addr).add 3) fun (x13 : Int) =>
    L.call Pr n_spec_span_has [.agg #[.int .i64 0, .int .i64 x12], .int .i64 x13] (.one (.one (.bool))) fun (x14 : Bool) =>
    L.ite (!x14) (
      k4 (!x14, ())) <|
    L.load (.one (.int .i64)) ((⟨b1, 0, none⟩ : Addr).add 5) fun (x15 : Int) =>
    L.call Pr n_spec_span_has [.agg #[.int .i64 0, .int .i64 30], .int .i64 x15] (.one (.one (.bool))) fun (x16 : Bool) =>
    k4 (!x16, ())) fun z5 =>
  L.ite z5.1 (
    K (.int .i64 2)) <|
  K (.int .i64 0)
theorem D_spec_Config (p0 : HT [.str, .int .i64, .int .i64, .int .i64, .int .i64, .int .i64]) (K : Value → PT) : denF Pr Dt Tryz.f39 A_spec_Config [.ag [.string p0.1, .int .i64 p0.2.1, .int .i64 p0.2.2.1, .int .i64 p0.2.2.2.1, .int .i64 p0.2.2.2.2.1, .int .i64 p0.2.2.2.2.2.1]] K = F_spec_Config p0 K := by kernel_rfl
theorem C_spec_Config (p0 : HT [.str, .int .i64, .int .i64, .int .i64, .int .i64, .int .i64]) {K : Value → PT} {w : World} (h : F_spec_Config p0 K w) : Calls Pr n_spec_Config [(.ag [.string p0.1, .int .i64 p0.2.1, .int .i64 p0.2.2.1, .int .i64 p0.2.2.2.1, .int .i64 p0.2.2.2.2.1, .int .i64 p0.2.2.2.2.2.1] : SV).toV].toArray w fun e w2 => ∃ v, e = .returned v ∧ K v w2 :=
  denF_ok Tok (f := 39) (fn := Tryz.f39) (an := A_spec_Config) (args := [.ag [.string p0.1, .int .i64 p0.2.1, .int .i64 p0.2.2.1, .int .i64 p0.2.2.2.1, .int .i64 p0.2.2.2.2.1, .int .i64 p0.2.2.2.2.2.1]]) (by kernel_rfl) (by kernel_rfl) ((congrFun (D_spec_Config p0 K) w).mpr h)
theorem E_spec_Config : Enters Pr n_spec_Config := enters_of_B (by kernel_rfl)

def A_shelf_rack_api_Config_may : Ann := (.seq .auto (.seq .auto (.seq (.seq .auto (.cond .auto (.seq .auto (.cond .auto .auto) none)) none) .auto (some [])) none) none)
/-- (*damper/shelf.rack[damper/api.Config]).may -/
def F_shelf_rack_api_Config_may (p0 : Option Addr) (p1 : ByteArray) (p2 : Int) (p3 : Bool) (K : Value → PT) : PT :=
  L.nonnil p0 fun a1 =>
  L.load (.one (.map)) (a1.add 0) fun (x2 : Option Nat) =>
  L.semR Pr (.one (.agg [.str, .int .i64, .int .i64, .int .i64, .int .i64, .int .i64, .int .i64, .int .i64, .bool])) (Instr.lookup T_map_string_shelf_thing_api_Config (.map x2) (.string p1) false) fun (x3 : ByteArray × Int × Int × Int × Int × Int × Int × Int × Bool × Unit) =>
  L.new [.string s_, .int .i64 0, .int .i64 0, .int .i64 0, .int .i64 0, .int .i64 0, .int .i64 0, .int .i64 0, .bool false] T_shelf_thing_api_Config fun b4 =>
  L.store (⟨b4, 0, none⟩) [.string x3.1, .int .i64 x3.2.1, .int .i64 x3.2.2.1, .int .i64 x3.2.2.2.1, .int .i64 x3.2.2.2.2.1, .int .i64 x3.2.2.2.2.2.1, .int .i64 x3.2.2.2.2.2.2.1, .int .i64 x3.2.2.2.2.2.2.2.1, .bool x3.2.2.2.2.2.2.2.2.1] <|
  L.join (Y := Unit) (fun k5 =>
    L.ite p3 (
      L.ite (p2 == 0) (
        L.load (.one (.bool)) ((⟨b4, 0, none⟩ : Addr).add 8) fun (x7 : Bool) =>
        L.ite x7 (
          K (.int .i64 5)) <|
        L.ite p3 (
          L.ite (p2 == 0) (
            K (.int .i64 0)) <|
          L.load (.one (.bool)) ((⟨b4, 0, none⟩ : Addr).add 8) fun (x8 : Bool) =>
          L.ite (!x8) (
            K (.int .i64 6)) <|
          L.load (.one (.int .i64)) ((⟨b4, 0, none⟩ : Addr).add 6) fun (x9 : Int) =>
          L.ite (x9 != p2) (
            K (.int .i64 7)) <|
          k5 (())) <|
        L.load (.one (.bool)) ((⟨b4, 0, none⟩ : Addr).add 8) fun (x10 : Bool) =>
        L.ite (!x10) (
          K (.int .i64 6)) <|
        L.load (.one (.int .i64)) ((⟨b4, 0, none⟩ : Addr).add 6) fun (x11 : Int) =>
        L.ite (x11 != p2) (
          K (.int .i64 7)) <|
        k5 (())) <|
      L.ite p3 (
        L.ite (p2 == 0) (
          K (.int .i64 0)) <|
        L.load (.one (.bool)) ((⟨b4, 0, none⟩ : Addr).add 8) fun (x12 : Bool) =>
        L.ite (!x12) (
          K (.int .i64 6)) <|
        L.load (.one (.int .i64)) ((⟨b4, 0, none⟩ : Addr).add 6) fun (x13 : Int) =>
        L.ite (x13 != p2) (
          K (.int .i64 7)) <|
        k5 (())) <|
      L.load (.one (.bool)) ((⟨b4, 0, none⟩ : Addr).add 8) fun (x14 : Bool) =>
      L.ite (!x14) (
        K (.int .i64 6)) <|
      L.load (.one (.int .i64)) ((⟨b4, 0, none⟩ : Addr).add 6) fun (x15 : Int) =>
      L.ite (x15 != p2) (
        K (.int .i64 7)) <|
      k5 (())) <|
    L.ite p3 (
      L.ite (p2 == 0) (
        K (.int .i64 0)) <|
      L.load (.one (.bool)) ((⟨b4, 0, none⟩ : Addr).add 8) fun (x16 : Bool) =>
      L.ite (!x16) (
        K (.int .i64 6)) <|
      L.load (.one (.int .i64)) ((⟨b4, 0, none⟩ : Addr).add 6) fun (x17 : Int) =>
      L.ite (x17 != p2) (
        K (.int .i64 7)) <|
      k5 (())) <|
    L.load (.one (.bool)) ((⟨b4, 0, none⟩ : Addr).add 8) fun (x18 : Bool) =>
    L.ite (!x18) (
      K (.int .i64 6)) <|
    L.load (.one (.int .i64)) ((⟨b4, 0, none⟩ : Addr).add 6) fun (x19 : Int) =>
    L.ite (x19 != p2) (
      K (.int .i64 7)) <|
    k5 (())) fun z6 =>
  K (.int .i64 0)
theorem D_shelf_rack_api_Config_may (p0 : Option Addr) (p1 : ByteArray) (p2 : Int) (p3 : Bool) (K : Value → PT) : denF Pr Dt Tryz.f40 A_shelf_rack_api_Config_may [.v (.pointer p0), .v (.string p1), .v (.int .i64 p2), .v (.bool p3)] K = F_shelf_rack_api_Config_may p0 p1 p2 p3 K := by kernel_rfl
theorem C_shelf_rack_api_Config_may (p0 : Option Addr) (p1 : ByteArray) (p2 : Int) (p3 : Bool) {K : Value → PT} {w : World} (h : F_shelf_rack_api_Config_may p0 p1 p2 p3 K w) : Calls Pr n_shelf_rack_api_Config_may [.pointer p0, .string p1, .int .i64 p2, .bool p3].toArray w fun e w2 => ∃ v, e = .returned v ∧ K v w2 :=
  denF_ok Tok (f := 40) (fn := Tryz.f40) (an := A_shelf_rack_api_Config_may) (args := [.v (.pointer p0), .v (.string p1), .v (.int .i64 p2), .v (.bool p3)]) (by kernel_rfl) (by kernel_rfl) ((congrFun (D_shelf_rack_api_Config_may p0 p1 p2 p3 K) w).mpr h)
theorem E_shelf_rack_api_Config_may : Enters Pr n_shelf_rack_api_Config_may := enters_of_B (by kernel_rfl)

def A_shelf_rack_api_Config_put : Ann := (.seq .auto (.seq .auto (.seq .auto .auto (some [])) none) none)
/-- (*damper/shelf.rack[damper/api.Config]).put -/
def F_shelf_rack_api_Config_put (p0 : Option Addr) (p1 : ByteArray) (p2 : HT [.str, .int .i64, .int .i64, .int .i64, .int .i64, .int .i64]) (p3 : Int) (K : Value → PT) : PT :=
  L.new [.string p2.1, .int .i64 p2.2.1, .int .i64 p2.2.2.1, .int .i64 p2.2.2.2.1, .int .i64 p2.2.2.2.2.1, .int .i64 p2.2.2.2.2.2.1] T_api_Config fun b1 =>
  L.nonnil p0 fun a2 =>
  L.load (.one (.map)) (a2.add 0) fun (x3 : Option Nat) =>
  L.semR Pr (.one (.agg [.str, .int .i64, .int .i64, .int .i64, .int .i64, .int .i64, .int .i64, .int .i64, .bool])) (Instr.lookup T_map_string_shelf_thing_api_Config (.map x3) (.string p1) false) fun (x4 : ByteArray × Int × Int × Int × Int × Int × Int × Int × Bool × Unit) =>
  L.new [.string s_, .int .i64 0, .int .i64 0, .int .i64 0, .int .i64 0, .int .i64 0, .int .i64 0, .int .i64 0, .bool false] T_shelf_thing_api_Config fun b5 =>
  L.store (⟨b5, 0, none⟩) [.string x4.1, .int .i64 x4.2.1, .int .i64 x4.2.2.1, .int .i64 x4.2.2.2.1, .int .i64 x4.2.2.2.2.1, .int .i64 x4.2.2.2.2.2.1, .int .i64 x4.2.2.2.2.2.2.1, .int .i64 x4.2.2.2.2.2.2.2.1, .bool x4.2.2.2.2.2.2.2.2.1] <|
  L.join (Y := Unit) (fun k6 =>
    L.draw <|
    L.load (.one (.bool)) ((⟨b5, 0, none⟩ : Addr).add 8) fun (x8 : Bool) =>
    L.ite (!x8) (
      L.load (.one (.int .i64)) ((⟨b5, 0, none⟩ : Addr).add 7) fun (x9 : Int) =>
      L.store ((⟨b5, 0, none⟩ : Addr).add 7) [.int .i64 (IntKind.wrap .i64 (x9 + 1))] <|
      k6 (())) <|
    L.nonnil p0 fun a10 =>
    L.load (.one (.func)) (a10.add 1) fun (x11 : FV) =>
    L.load (.agg [.str, .int .i64, .int .i64, .int .i64, .int .i64, .int .i64]) ((⟨b5, 0, none⟩ : Addr).add 0) fun (x12 : ByteArray × Int × Int × Int × Int × Int × Unit) =>
    L.load (.agg [.str, .int .i64, .int .i64, .int .i64, .int .i64, .int .i64]) (⟨b1, 0, none⟩) fun (x13 : ByteArray × Int × Int × Int × Int × Int × Unit) =>
    L.callV Pr (.func x11.fn x11.fs x11.cs) [.agg #[.string x12.1, .int .i64 x12.2.1, .int .i64 x12.2.2.1, .int .i64 x12.2.2.2.1, .int .i64 x12.2.2.2.2.1, .int .i64 x12.2.2.2.2.2.1], .agg #[.string x13.1, .int .i64 x13.2.1, .int .i64 x13.2.2.1, .int .i64 x13.2.2.2.1, .int .i64 x13.2.2.2.2.1, .int .i64 x13.2.2.2.2.2.1]] (.one (.one (.bool))) fun (x14 : Bool) =>
    L.ite (!x14) (
      L.load (.one (.int .i64)) ((⟨b5, 0, none⟩ : Addr).add 7) fun (x15 : Int) =>
      L.store ((⟨b5, 0, none⟩ : Addr).add 7) [.int .i64 (IntKind.wrap .i64 (x15 + 1))] <|
      k6 (())) <|
    k6 (())) fun z7 =>
  L.draw <|
  L.nonnil p0 fun a16 =>
  L.load (.one (.map)) (a16.add 0) fun (x17 : Option Nat) =>
  L.load (.agg [.str, .int .i64, .int .i64, .int .i64, .int .i64, .int .i64]) (⟨b1, 0, none⟩) fun (x18 : ByteArray × Int × Int × Int × Int × Int × Unit) =>
  L.load (.one (.int .i64)) ((⟨b5, 0, none⟩ : Addr).add 7) fun (x19 : Int) =>
  L.semU Pr (Instr.mapUpdate T_map_string_shelf_thing_api_Config (.map x17) (.string p1) (.agg #[.string x18.1, .int .i64 x18.2.1, .int .i64 x18.2.2.1, .int .i64 x18.2.2.2.1, .int .i64 x18.2.2.2.2.1, .int .i64 x18.2.2.2.2.2.1, .int .i64 p3, .int .i64 x19, .bool true])) <|
  K (.tuple #[])
theorem D_shelf_rack_api_Config_put (p0 : Option Addr) (p1 : ByteArray) (p2 : HT [.str, .int .i64, .int .i64, .int .i64, .int .i64, .int .i64]) (p3 : Int) (K : Value → PT) : denF Pr Dt Tryz.f41 A_shelf_rack_api_Config_put [.v (.pointer p0), .v (.string p1), .ag [.string p2.1, .int .i64 p2.2.1, .int .i64 p2.2.2.1, .int .i64 p2.2.2.2.1, .int .i64 p2.2.2.2.2.1, .int .i64 p2.2.2.2.2.2.1], .v (.int .i64 p3)] K = F_shelf_rack_api_Config_put p0 p1 p2 p3 K := by kernel_rfl
theorem C_shelf_rack_api_Config_put (p0 : Option Addr) (p1 : ByteArray) (p2 : HT [.str, .int .i64, .int .i64, .int .i64, .int .i64, .int .i64]) (p3 : Int) {K : Value → PT} {w : World} (h : F_shelf_rack_api_Config_put p0 p1 p2 p3 K w) : Calls Pr n_shelf_rack_api_Config_put [.pointer p0, .string p1, (.ag [.string p2.1, .int .i64 p2.2.1, .int .i64 p2.2.2.1, .int .i64 p2.2.2.2.1, .int .i64 p2.2.2.2.2.1, .int .i64 p2.2.2.2.2.2.1] : SV).toV, .int .i64 p3].toArray w fun e w2 => ∃ v, e = .returned v ∧ K v w2 :=
  denF_ok Tok (f := 41) (fn := Tryz.f41) (an := A_shelf_rack_api_Config_put) (args := [.v (.pointer p0), .v (.string p1), .ag [.string p2.1, .int .i64 p2.2.1, .int .i64 p2.2.2.1, .int .i64 p2.2.2.2.1, .int .i64 p2.2.2.2.2.1, .int .i64 p2.2.2.2.2.2.1], .v (.int .i64 p3)]) (by kernel_rfl) (by kernel_rfl) ((congrFun (D_shelf_rack_api_Config_put p0 p1 p2 p3 K) w).mpr h)
theorem E_shelf_rack_api_Config_put : Enters Pr n_shelf_rack_api_Config_put := enters_of_B (by kernel_rfl)

def A_damperref4_Shelf_Config : Ann := .auto
/-- (*damper/damperref4.Shelf).Config -/
def F_damperref4_Shelf_Config (p0 : Option Addr) (p1 : ByteArray) (K : Value → PT) : PT :=
  L.new [.string s_, .int .i64 0, .int .i64 0, .int .i64 0, .int .i64 0, .int .i64 0] T_api_Config fun b1 =>
  L.call Pr n_damperref4_Shelf_find [.pointer p0, .int .i64 1, .string p1] (.one (.one (.ptr))) fun (x2 : Option Addr) =>
  L.ite ((x2).isNone) (
    L.store (⟨b1, 0, none⟩) [.string s_, .int .i64 0, .int .i64 0, .int .i64 0, .int .i64 0, .int .i64 0] <|
    L.load (.agg [.str, .int .i64, .int .i64, .int .i64, .int .i64, .int .i64]) (⟨b1, 0, none⟩) fun (x3 : ByteArray × Int × Int × Int × Int × Int × Unit) =>
    K (.tuple #[.agg #[.string x3.1, .int .i64 x3.2.1, .int .i64 x3.2.2.1, .int .i64 x3.2.2.2.1, .int .i64 x3.2.2.2.2.1, .int .i64 x3.2.2.2.2.2.1], .int .i64 0, .int .i64 0, .bool false])) <|
  L.nonnil x2 fun a4 =>
  L.load (.one (.bool)) (a4.add 14) fun (x5 : Bool) =>
  L.ite (!x5) (
    L.store (⟨b1, 0, none⟩) [.string s_, .int .i64 0, .int .i64 0, .int .i64 0, .int .i64 0, .int .i64 0] <|
    L.load (.agg [.str, .int .i64, .int .i64, .int .i64, .int .i64, .int .i64]) (⟨b1, 0, none⟩) fun (x6 : ByteArray × Int × Int × Int × Int × Int × Unit) =>
    K (.tuple #[.agg #[.string x6.1, .int .i64 x6.2.1, .int .i64 x6.2.2.1, .int .i64 x6.2.2.2.1, .int .i64 x6.2.2.2.2.1, .int .i64 x6.2.2.2.2.2.1], .int .i64 0, .int .i64 0, .bool false])) <|
  L.draw <|
  L.nonnil x2 fun a7 =>
  L.load (.agg [.str, .int .i64, .int .i64, .int .i64, .int .i64, .int .i64]) (a7.add 2) fun (x8 : ByteArray × Int × Int × Int × Int × Int × Unit) =>
  L.nonnil x2 fun a9 =>
  L.load (.one (.int .i64)) (a9.add 12) fun (x10 : Int) =>
  L.nonnil x2 fun a11 =>
  L.load (.one (.int .i64)) (a11.add 13) fun (x12 : Int) =>
  L.store (⟨b1, 0, none⟩) [.string x8.1, .int .i64 x8.2.1, .int .i64 x8.2.2.1, .int .i64 x8.2.2.2.1, .int .i64 x8.2.2.2.2.1, .int .i64 x8.2.2.2.2.2.1] <|
  L.chk (a11.add 13) [.int .i64 x12] <|
  L.chk (a9.add 12) [.int .i64 x10] <|
  L.chk (a11.add 13) [.int .i64 x12] <|
  L.load (.agg [.str, .int .i64, .int .i64, .int .i64, .int .i64, .int .i64]) (⟨b1, 0, none⟩) fun (x13 : ByteArray × Int × Int × Int × Int × Int × Unit) =>
  K (.tuple #[.agg #[.string x13.1, .int .i64 x13.2.1, .int .i64 x13.2.2.1, .int .i64 x13.2.2.2.1, .int .i64 x13.2.2.2.2.1, .int .i64 x13.2.2.2.2.2.1], .int .i64 x10, .int .i64 x12, .bool true])
theorem D_damperref4_Shelf_Config (p0 : Option Addr) (p1 : ByteArray) (K : Value → PT) : denF Pr Dt Tryz.f42 A_damperref4_Shelf_Config [.v (.pointer p0), .v (.string p1)] K = F_damperref4_Shelf_Config p0 p1 K := by kernel_rfl
theorem C_damperref4_Shelf_Config (p0 : Option Addr) (p1 : ByteArray) {K : Value → PT} {w : World} (h : F_damperref4_Shelf_Config p0 p1 K w) : Calls Pr n_damperref4_Shelf_Config [.pointer p0, .string p1].toArray w fun e w2 => ∃ v, e = .returned v ∧ K v w2 :=
  denF_ok Tok (f := 42) (fn := Tryz.f42) (an := A_damperref4_Shelf_Config) (args := [.v (.pointer p0), .v (.string p1)]) (by kernel_rfl) (by kernel_rfl) ((congrFun (D_damperref4_Shelf_Config p0 p1 K) w).mpr h)
theorem E_damperref4_Shelf_Config : Enters Pr n_damperref4_Shelf_Config := enters_of_B (by kernel_rfl)

def A_damperref4_Shelf_Route : Ann := .auto
/-- (*damper/damperref4.Shelf).Route -/
def F_damperref4_Shelf_Route (p0 : Option Addr) (p1 : ByteArray) (K : Value → PT) : PT :=
  L.new [.string s_, .string s_, .slice none 0 0, .int .i64 0] T_api_Route fun b1 =>
  L.call Pr n_damperref4_Shelf_find [.pointer p0, .int .i64 2, .string p1] (.one (.one (.ptr))) fun (x2 : Option Addr) =>
  L.ite ((x2).isNone) (
    L.store (⟨b1, 0, none⟩) [.string s_, .string s_, .slice none 0 0, .int .i64 0] <|
    L.load (.agg [.str, .str, .slice, .int .i64]) (⟨b1, 0, none⟩) fun (x3 : ByteArray × ByteArray × Sl × Int × Unit) =>
    K (.tuple #[.agg #[.string x3.1, .string x3.2.1, .slice x3.2.2.1.a x3.2.2.1.len x3.2.2.1.cap, .int .i64 x3.2.2.2.1], .int .i64 0, .bool false])) <|
  L.nonnil x2 fun a4 =>
  L.load (.one (.bool)) (a4.add 14) fun (x5 : Bool) =>
  L.ite (!x5) (
    L.store (⟨b1, 0, none⟩) [.string s_, .string s_, .slice none 0 0, .int .i64 0] <|
    L.load (.agg [.str, .str, .slice, .int .i64]) (⟨b1, 0, none⟩) fun (x6 : ByteArray × ByteArray × Sl × Int × Unit) =>
    K (.tuple #[.agg #[.string x6.1, .string x6.2.1, .slice x6.2.2.1.a x6.2.2.1.len x6.2.2.1.cap, .int .i64 x6.2.2.2.1], .int .i64 0, .bool false])) <|
  L.nonnil x2 fun a7 =>
  L.load (.agg [.str, .str, .slice, .int .i64]) (a7.add 8) fun (x8 : ByteArray × ByteArray × Sl × Int × Unit) =>
  L.new [.string s_, .string s_, .slice none 0 0, .int .i64 0] T_api_Route fun b9 =>
  L.store (⟨b9, 0, none⟩) [.string x8.1, .string x8.2.1, .slice x8.2.2.1.a x8.2.2.1.len x8.2.2.1.cap, .int .i64 x8.2.2.2.1] <|
  L.new [] T_api_Target fun b10 =>
  L.nonnil x2 fun a11 =>
  L.load (.one (.slice)) ((a11.add 8).add 2) fun (x12 : Sl) =>
  L.sem Pr (.one (.one .slice)) (Builtin.append_ #[T_s_api_Target, T_s_api_Target] T_s_api_Target #[.slice (some ⟨b10, 0, none⟩) 0 0, .slice x12.a x12.len x12.cap]) fun (s13 : Sl) =>
  L.store ((⟨b9, 0, none⟩ : Addr).add 2) [.slice s13.a s13.len s13.cap] <|
  L.draw <|
  L.load (.agg [.str, .str, .slice, .int .i64]) (⟨b9, 0, none⟩) fun (x14 : ByteArray × ByteArray × Sl × Int × Unit) =>
  L.nonnil x2 fun a15 =>
  L.load (.one (.int .i64)) (a15.add 12) fun (x16 : Int) =>
  L.store (⟨b1, 0, none⟩) [.string x14.1, .string x14.2.1, .slice x14.2.2.1.a x14.2.2.1.len x14.2.2.1.cap, .int .i64 x14.2.2.2.1] <|
  L.chk (a15.add 12) [.int .i64 x16] <|
  L.load (.agg [.str, .str, .slice, .int .i64]) (⟨b1, 0, none⟩) fun (x17 : ByteArray × ByteArray × Sl × Int × Unit) =>
  K (.tuple #[.agg #[.string x17.1, .string x17.2.1, .slice x17.2.2.1.a x17.2.2.1.len x17.2.2.1.cap, .int .i64 x17.2.2.2.1], .int .i64 x16, .bool true])
theorem D_damperref4_Shelf_Route (p0 : Option Addr) (p1 : ByteArray) (K : Value → PT) : denF Pr Dt Tryz.f43 A_damperref4_Shelf_Route [.v (.pointer p0), .v (.string p1)] K = F_damperref4_Shelf_Route p0 p1 K := by kernel_rfl
theorem C_damperref4_Shelf_Route (p0 : Option Addr) (p1 : ByteArray) {K : Value → PT} {w : World} (h : F_damperref4_Shelf_Route p0 p1 K w) : Calls Pr n_damperref4_Shelf_Route [.pointer p0, .string p1].toArray w fun e w2 => ∃ v, e = .returned v ∧ K v w2 :=
  denF_ok Tok (f := 43) (fn := Tryz.f43) (an := A_damperref4_Shelf_Route) (args := [.v (.pointer p0), .v (.string p1)]) (by kernel_rfl) (by kernel_rfl) ((congrFun (D_damperref4_Shelf_Route p0 p1 K) w).mpr h)
theorem E_damperref4_Shelf_Route : Enters Pr n_damperref4_Shelf_Route := enters_of_B (by kernel_rfl)

def A_damperref2_Config : Ann := (.seq .auto (.seq .auto (.seq (.seq .auto .auto (some [(56, (.one (.bool)))])) .auto none) none) none)
/-- damper/damperref2.Config -/
def F_damperref2_Config (p0 : HT [.str, .int .i64, .int .i64, .int .i64, .int .i64, .int .i64]) (K : Value → PT) : PT :=
  L.new [.string p0.1, .int .i64 p0.2.1, .int .i64 p0.2.2.1, .int .i64 p0.2.2.2.1, .int .i64 p0.2.2.2.2.1, .int .i64 p0.2.2.2.2.2.1] T_api_Config fun b1 =>
  L.load (.one (.str)) ((⟨b1, 0, none⟩ : Addr).add 0) fun (x2 : ByteArray) =>
  L.call Pr n_damperref1_Name [.string x2] (.one (.one (.bool))) fun (x3 : Bool) =>
  L.ite (!x3) (
    K (.int .i64 1)) <|
  L.join (Y := Bool × Unit) (fun k4 =>
    L.load (.one (.int .i64)) ((⟨b1, 0, none⟩ : Addr).add 1) fun (x6 : Int) =>
    L.ite (decide (x6 < 0)) (
      k4 (true, ())) <|
    L.load (.one (.int .i64)) ((⟨b1, 0, none⟩ : Addr).add 1) fun (x7 : Int) =>
    L.ite (decide (x7 > 255)) (
      k4 (true, ())) <|
    L.load (.one (.int .i64)) ((⟨b1, 0, none⟩ : Addr).add 2) fun (x8 : Int) =>
    L.ite (decide (x8 < 1)) (
      k4 (true, ())) <|
    L.load (.one (.int .i64)) ((⟨b1, 0, none⟩ : Addr).add 2) fun (x9 : Int) =>
    L.ite (decide (x9 > 8)) (
      k4 (true, ())) <|
    L.load (.one (.int .i64)) ((⟨b1, 0, none⟩ : Addr).add 4) fun (x10 : Int) =>
    L.ite (decide (x10 < 1)) (
      k4 (true, ())) <|
    L.load (.one (.int .i64)) ((⟨b1, 0, none⟩ : Addr).add 4) fun (x11 : Int) =>
    L.ite (decide (x11 > 10)) (
      k4 (true, ())) <|
    L.load (.one (.int .i64)) ((⟨b1, 0, none⟩ : Addr).add 3) fun (x12 : Int) =>
    L.ite (decide (x12 < 0)) (
      k4 (true, ())) <|
    L.load (.one (.int .i64)) ((⟨b1, 0, none⟩ : Addr).add 3) fun (x13 : Int) =>
    L.load (.one (.int .i64)) ((⟨b1, 0, none⟩ : Addr).add 4) fun (x14 : Int) =>
    L.ite (decide (x13 > x14)) (
      k4 (true, ())) <|
    L.load (.one (.int .i64)) ((⟨b1, 0, none⟩ : Addr).add 5) fun (x15 : Int) =>
    L.ite (decide (x15 < 0)) (
      k4 (true, ())) <|
    L.load (.one (.int .i64)) ((⟨b1, 0, none⟩ : Addr).add 5) fun (x16 : Int) =>
    k4 (decide (x16 > 30), ())) fun z5 =>
  L.ite z5.1 (
    K (.int .i64 2)) <|
  K (.int .i64 0)
theorem D_damperref2_Config (p0 : HT [.str, .int .i64, .int .i64, .int .i64, .int .i64, .int .i64]) (K : Value → PT) : denF Pr Dt Tryz.f44 A_damperref2_Config [.ag [.string p0.1, .int .i64 p0.2.1, .int .i64 p0.2.2.1, .int .i64 p0.2.2.2.1, .int .i64 p0.2.2.2.2.1, .int .i64 p0.2.2.2.2.2.1]] K = F_damperref2_Config p0 K := by kernel_rfl
theorem C_damperref2_Config (p0 : HT [.str, .int .i64, .int .i64, .int .i64, .int .i64, .int .i64]) {K : Value → PT} {w : World} (h : F_damperref2_Config p0 K w) : Calls Pr n_damperref2_Config [(.ag [.string p0.1, .int .i64 p0.2.1, .int .i64 p0.2.2.1, .int .i64 p0.2.2.2.1, .int .i64 p0.2.2.2.2.1, .int .i64 p0.2.2.2.2.2.1] : SV).toV].toArray w fun e w2 => ∃ v, e = .returned v ∧ K v w2 :=
  denF_ok Tok (f := 44) (fn := Tryz.f44) (an := A_damperref2_Config) (args := [.ag [.string p0.1, .int .i64 p0.2.1, .int .i64 p0.2.2.1, .int .i64 p0.2.2.2.1, .int .i64 p0.2.2.2.2.1, .int .i64 p0.2.2.2.2.2.1]]) (by kernel_rfl) (by kernel_rfl) ((congrFun (D_damperref2_Config p0 K) w).mpr h)
theorem E_damperref2_Config : Enters Pr n_damperref2_Config := enters_of_B (by kernel_rfl)

def A_damperref4_Shelf_put : Ann := (.seq .auto (.seq .auto (.seq .auto (.seq .auto (.seq .auto .auto (some [(10, (.one (.ptr)))])) none) none) none) none)
/-- (*damper/damperref4.Shelf).put -/
def F_damperref4_Shelf_put (p0 : Option Addr) (p1 : Int) (p2 : ByteArray) (p3 : Int) (K : Value → PT) : PT :=
  L.call Pr n_damperref4_Shelf_find [.pointer p0, .int .i64 p1, .string p2] (.one (.one (.ptr))) fun (x1 : Option Addr) =>
  L.call Pr n_damperref4_may [.pointer x1, .int .i64 p3] (.one (.one (.int .i64))) fun (x2 : Int) =>
  L.ite (x2 != 0) (
    K (.tuple #[.pointer none, .int .i64 x2])) <|
  L.join (Y := Option Addr × Unit) (fun k3 =>
    L.ite ((x1).isNone) (
      L.new [.int .i64 p1, .string p2, .string s_, .int .i64 0, .int .i64 0, .int .i64 0, .int .i64 0, .int .i64 0, .string s_, .string s_, .slice none 0 0, .int .i64 0, .int .i64 0, .int .i64 0, .bool false] T_damperref4_object fun b5 =>
      L.nonnil p0 fun a6 =>
      L.load (.one (.slice)) (a6.add 0) fun (x7 : Sl) =>
      L.new [.pointer (some (⟨b5, 0, none⟩))] T_p_damperref4_object fun b8 =>
      L.sem Pr (.one (.one .slice)) (Builtin.append_ #[T_s_p_damperref4_object, T_s_p_damperref4_object] T_s_p_damperref4_object #[.slice x7.a x7.len x7.cap, .slice (some ⟨b8, 0, none⟩) 1 1]) fun (s9 : Sl) =>
      L.nonnil p0 fun a10 =>
      L.store (a10.add 0) [.slice s9.a s9.len s9.cap] <|
      k3 (some (⟨b5, 0, none⟩), ())) <|
    k3 (x1, ())) fun z4 =>
  L.nonnil p0 fun a11 =>
  L.load (.one (.int .i64)) (a11.add 1) fun (x12 : Int) =>
  L.nonnil p0 fun a13 =>
  L.store (a13.add 1) [.int .i64 (IntKind.wrap .i64 (x12 + 1))] <|
  L.nonnil p0 fun a14 =>
  L.load (.one (.int .i64)) (a14.add 1) fun (x15 : Int) =>
  L.nonnil z4.1 fun a16 =>
  L.store (a16.add 12) [.int .i64 x15] <|
  K (.tuple #[.pointer z4.1, .int .i64 0])
theorem D_damperref4_Shelf_put (p0 : Option Addr) (p1 : Int) (p2 : ByteArray) (p3 : Int) (K : Value → PT) : denF Pr Dt Tryz.f45 A_damperref4_Shelf_put [.v (.pointer p0), .v (.int .i64 p1), .v (.string p2), .v (.int .i64 p3)] K = F_damperref4_Shelf_put p0 p1 p2 p3 K := by kernel_rfl
theorem C_damperref4_Shelf_put (p0 : Option Addr) (p1 : Int) (p2 : ByteArray) (p3 : Int) {K : Value → PT} {w : World} (h : F_damperref4_Shelf_put p0 p1 p2 p3 K w) : Calls Pr n_damperref4_Shelf_put [.pointer p0, .int .i64 p1, .string p2, .int .i64 p3].toArray w fun e w2 => ∃ v, e = .returned v ∧ K v w2 :=
  denF_ok Tok (f := 45) (fn := Tryz.f45) (an := A_damperref4_Shelf_put) (args := [.v (.pointer p0), .v (.int .i64 p1), .v (.string p2), .v (.int .i64 p3)]) (by kernel_rfl) (by kernel_rfl) ((congrFun (D_damperref4_Shelf_put p0 p1 p2 p3 K) w).mpr h)
theorem E_damperref4_Shelf_put : Enters Pr n_damperref4_Shelf_put := enters_of_B (by kernel_rfl)

def A_damperref2_Route : Ann := (.seq .auto (.seq .auto (.seq (.seq .auto (.one [(3, (.one (.int .i64)))] (.seq .auto (.seq (.seq .auto (.seq (.seq .auto (.cond .auto .auto) none) .auto (some [])) none) .auto none) none)) none) (.seq .auto (.seq (.seq .auto (.one [(5, (.one (.int .i64))), (6, (.one (.int .i64)))] (.seq .auto (.seq (.seq .auto (.seq .auto (.one [(7, (.one (.int .i64)))] (.seq .auto (.seq (.seq .auto (.cond .auto .auto) none) .auto (some [])) none)) none) none) .auto none) none)) none) .auto none) none) none) none) none)
/-- damper/damperref2.Route -/
def F_damperref2_Route (p0 : HT [.str, .str, .slice, .int .i64]) (K : Value → PT) : PT :=
  L.new [.string p0.1, .string p0.2.1, .slice p0.2.2.1.a p0.2.2.1.len p0.2.2.1.cap, .int .i64 p0.2.2.2.1] T_api_Route fun b1 =>
  L.load (.one (.str)) ((⟨b1, 0, none⟩ : Addr).add 0) fun (x2 : ByteArray) =>
  L.call Pr n_damperref1_Name [.string x2] (.one (.one (.bool))) fun (x3 : Bool) =>
  L.ite (!x3) (
    K (.int .i64 1)) <|
  L.load (.one (.str)) ((⟨b1, 0, none⟩ : Addr).add 1) fun (x4 : ByteArray) =>
  L.call Pr n_damperref1_Name [.string x4] (.one (.one (.bool))) fun (x5 : Bool) =>
  L.ite (!x5) (
    K (.int .i64 1)) <|
  L.load (.one (.int .i64)) ((⟨b1, 0, none⟩ : Addr).add 3) fun (x6 : Int) =>
  L.ite (decide (x6 < 0)) (
    K (.int .i64 2)) <|
  L.load (.one (.int .i64)) ((⟨b1, 0, none⟩ : Addr).add 3) fun (x7 : Int) =>
  L.ite (decide (x7 > 60)) (
    K (.int .i64 2)) <|
  L.load (.one (.slice)) ((⟨b1, 0, none⟩ : Addr).add 2) fun (x8 : Sl) =>
  L.ite (decide (((x8.len : Nat) : Int) < 1)) (
    K (.int .i64 3)) <|
  L.load (.one (.slice)) ((⟨b1, 0, none⟩ : Addr).add 2) fun (x9 : Sl) =>
  L.ite (decide (((x9.len : Nat) : Int) > 6)) (
    K (.int .i64 3)) <|
  L.loop (Y := Int × Unit) (0, ()) fun y10 again11 =>
  L.load (.one (.slice)) ((⟨b1, 0, none⟩ : Addr).add 2) fun (x12 : Sl) =>
  L.ite (decide (y10.1 < ((x12.len : Nat) : Int))) (
    L.load (.one (.slice)) ((⟨b1, 0, none⟩ : Addr).add 2) fun (x13 : Sl) =>
    L.idx x13.a y10.1 x13.len 3 fun a14 =>
    L.load (.agg [.str, .str, .int .i64]) a14 fun (x15 : ByteArray × ByteArray × Int × Unit) =>
    L.new [.string s_, .string s_, .int .i64 0] T_api_Target fun b16 =>
    L.store (⟨b16, 0, none⟩) [.string x15.1, .string x15.2.1, .int .i64 x15.2.2.1] <|
    L.join (Y := Unit) (fun k17 =>
      L.load (.one (.str)) ((⟨b16, 0, none⟩ : Addr).add 0) fun (x19 : ByteArray) =>
      L.ite (!(x19.toList == s_.toList)) (
        L.load (.one (.str)) ((⟨b16, 0, none⟩ : Addr).add 0) fun (x20 : ByteArray) =>
        L.call Pr n_damperref2_revision [.string x20] (.one (.one (.bool))) fun (x21 : Bool) =>
        L.ite (!x21) (
          K (.int .i64 1)) <|
        L.load (.one (.str)) ((⟨b16, 0, none⟩ : Addr).add 1) fun (x22 : ByteArray) =>
        L.ite (!(x22.toList == s_.toList)) (
          L.load (.one (.str)) ((⟨b16, 0, none⟩ : Addr).add 1) fun (x23 : ByteArray) =>
          L.call Pr n_damperref1_Tag [.string x23] (.one (.one (.bool))) fun (x24 : Bool) =>
          L.ite (!x24) (
            K (.int .i64 1)) <|
          k17 (())) <|
        k17 (())) <|
      L.load (.one (.str)) ((⟨b16, 0, none⟩ : Addr).add 1) fun (x25 : ByteArray) =>
      L.ite (!(x25.toList == s_.toList)) (
        L.load (.one (.str)) ((⟨b16, 0, none⟩ : Addr).add 1) fun (x26 : ByteArray) =>
        L.call Pr n_damperref1_Tag [.string x26] (.one (.one (.bool))) fun (x27 : Bool) =>
        L.ite (!x27) (
          K (.int .i64 1)) <|
        k17 (())) <|
      k17 (())) fun z18 =>
    L.load (.one (.int .i64)) ((⟨b16, 0, none⟩ : Addr).add 2) fun (x28 : Int) =>
    L.ite (decide (x28 < 0)) (
      K (.int .i64 2)) <|
    L.load (.one (.int .i64)) ((⟨b16, 0, none⟩ : Addr).add 2) fun (x29 : Int) =>
    L.ite (decide (x29 > 100)) (
      K (.int .i64 2)) <|
    again11 (IntKind.wrap .i64 (y10.1 + 1), ())) <|
  L.loop (Y := Int × Int × Unit) (0, 0, ()) fun y30 again31 =>
  L.load (.one (.slice)) ((⟨b1, 0, none⟩ : Addr).add 2) fun (x32 : Sl) =>
  L.ite (decide (y30.2.1 < ((x32.len : Nat) : Int))) (
    L.load (.one (.slice)) ((⟨b1, 0, none⟩ : Addr).add 2) fun (x33 : Sl) =>
    L.idx x33.a y30.2.1 x33.len 3 fun a34 =>
    L.load (.one (.int .i64)) (a34.add 2) fun (x35 : Int) =>
    L.loop (Y := Int × Unit) (0, ()) fun y36 again37 =>
    L.ite (decide (y36.1 < y30.2.1)) (
      L.join (Y := Unit) (fun k38 =>
        L.draw <|
        L.load (.one (.slice)) ((⟨b1, 0, none⟩ : Addr).add 2) fun (x40 : Sl) =>
        L.idx x40.a y30.2.1 x40.len 3 fun a41 =>
        L.load (.one (.str)) (a41.add 1) fun (x42 : ByteArray) =>
        L.ite (!(x42.toList == s_.toList)) (
          L.load (.one (.slice)) ((⟨b1, 0, none⟩ : Addr).add 2) fun (x43 : Sl) =>
          L.idx x43.a y30.2.1 x43.len 3 fun a44 =>
          L.load (.one (.str)) (a44.add 1) fun (x45 : ByteArray) =>
          L.load (.one (.slice)) ((⟨b1, 0, none⟩ : Addr).add 2) fun (x46 : Sl) =>
          L.idx x46.a y36.1 x46.len 3 fun a47 =>
          L.load (.one (.str)) (a47.add 1) fun (x48 : ByteArray) =>
          L.ite (x45.toList == x48.toList) (
            K (.int .i64 5)) <|
          k38 (())) <|
        k38 (())) fun z39 =>
      again37 (IntKind.wrap .i64 (y36.1 + 1), ())) <|
    again31 (IntKind.wrap .i64 (y30.1 + x35), IntKind.wrap .i64 (y30.2.1 + 1), ())) <|
  L.ite (y30.1 != 100) (
    K (.int .i64 4)) <|
  K (.int .i64 0)
theorem D_damperref2_Route (p0 : HT [.str, .str, .slice, .int .i64]) (K : Value → PT) : denF Pr Dt Tryz.f46 A_damperref2_Route [.ag [.string p0.1, .string p0.2.1, .slice p0.2.2.1.a p0.2.2.1.len p0.2.2.1.cap, .int .i64 p0.2.2.2.1]] K = F_damperref2_Route p0 K := by kernel_rfl
theorem C_damperref2_Route (p0 : HT [.str, .str, .slice, .int .i64]) {K : Value → PT} {w : World} (h : F_damperref2_Route p0 K w) : Calls Pr n_damperref2_Route [(.ag [.string p0.1, .string p0.2.1, .slice p0.2.2.1.a p0.2.2.1.len p0.2.2.1.cap, .int .i64 p0.2.2.2.1] : SV).toV].toArray w fun e w2 => ∃ v, e = .returned v ∧ K v w2 :=
  denF_ok Tok (f := 46) (fn := Tryz.f46) (an := A_damperref2_Route) (args := [.ag [.string p0.1, .string p0.2.1, .slice p0.2.2.1.a p0.2.2.1.len p0.2.2.1.cap, .int .i64 p0.2.2.2.1]]) (by kernel_rfl) (by kernel_rfl) ((congrFun (D_damperref2_Route p0 K) w).mpr h)
theorem E_damperref2_Route : Enters Pr n_damperref2_Route := enters_of_B (by kernel_rfl)

def A_damperref4_Shelf_find : Ann := (.seq .auto (.seq (.seq .auto (.one [(7, (.one (.int .i64)))] (.seq .auto (.seq (.seq .auto (.cond .auto .auto) none) .auto (some [])) none)) none) .auto none) none)
/-- (*damper/damperref4.Shelf).find -/
def F_damperref4_Shelf_find (p0 : Option Addr) (p1 : Int) (p2 : ByteArray) (K : Value → PT) : PT :=
  L.loop (Y := Int × Unit) (0, ()) fun y1 again2 =>
  L.nonnil p0 fun a3 =>
  L.load (.one (.slice)) (a3.add 0) fun (x4 : Sl) =>
  L.ite (decide (y1.1 < ((x4.len : Nat) : Int))) (
    L.join (Y := Unit) (fun k5 =>
      L.nonnil p0 fun a7 =>
      L.load (.one (.slice)) (a7.add 0) fun (x8 : Sl) =>
      L.idx x8.a y1.1 x8.len 1 fun a9 =>
      L.load (.one (.ptr)) a9 fun (x10 : Option Addr) =>
      L.nonnil x10 fun a11 =>
      L.load (.one (.int .i64)) (a11.add 0) fun (x12 : Int) =>
      L.ite (x12 == p1) (
        L.nonnil p0 fun a13 =>
        L.load (.one (.slice)) (a13.add 0) fun (x14 : Sl) =>
        L.idx x14.a y1.1 x14.len 1 fun a15 =>
        L.load (.one (.ptr)) a15 fun (x16 : Option Addr) =>
        L.nonnil x16 fun a17 =>
        L.load (.one (.str)) (a17.add 1) fun (x18 : ByteArray) =>
        L.ite (x18.toList == p2.toList) (
          L.nonnil p0 fun a19 =>
          L.load (.one (.slice)) (a19.add 0) fun (x20 : Sl) =>
          L.idx x20.a y1.1 x20.len 1 fun a21 =>
          L.load (.one (.ptr)) a21 fun (x22 : Option Addr) =>
          K (.pointer x22)) <|
        k5 (())) <|
      k5 (())) fun z6 =>
    again2 (IntKind.wrap .i64 (y1.1 + 1), ())) <|
  K (.pointer none)
theorem D_damperref4_Shelf_find (p0 : Option Addr) (p1 : Int) (p2 : ByteArray) (K : Value → PT) : denF Pr Dt Tryz.f47 A_damperref4_Shelf_find [.v (.pointer p0), .v (.int .i64 p1), .v (.string p2)] K = F_damperref4_Shelf_find p0 p1 p2 K := by kernel_rfl
theorem C_damperref4_Shelf_find (p0 : Option Addr) (p1 : Int) (p2 : ByteArray) {K : Value → PT} {w : World} (h : F_damperref4_Shelf_find p0 p1 p2 K w) : Calls Pr n_damperref4_Shelf_find [.pointer p0, .int .i64 p1, .string p2].toArray w fun e w2 => ∃ v, e = .returned v ∧ K v w2 :=
  denF_ok Tok (f := 47) (fn := Tryz.f47) (an := A_damperref4_Shelf_find) (args := [.v (.pointer p0), .v (.int .i64 p1), .v (.string p2)]) (by kernel_rfl) (by kernel_rfl) ((congrFun (D_damperref4_Shelf_find p0 p1 p2 K) w).mpr h)
theorem E_damperref4_Shelf_find : Enters Pr n_damperref4_Shelf_find := enters_of_B (by kernel_rfl)

def A_damperref4_Same : Ann := (.seq .auto (.seq .auto (.seq (.seq .auto (.one [(5, (.one (.int .i64)))] .auto) none) .auto none) none) none)
/-- damper/damperref4.Same -/
def F_damperref4_Same (p0 : Sl) (p1 : Sl) (K : Value → PT) : PT :=
  L.ite (((p0.len : Nat) : Int) != ((p1.len : Nat) : Int)) (
    K (.bool false)) <|
  L.loop (Y := Int × Unit) (0, ()) fun y1 again2 =>
  L.ite (decide (y1.1 < ((p0.len : Nat) : Int))) (
    L.draw <|
    L.idx p0.a y1.1 p0.len 1 fun a3 =>
    L.load (.one (.str)) a3 fun (x4 : ByteArray) =>
    L.idx p1.a y1.1 p1.len 1 fun a5 =>
    L.load (.one (.str)) a5 fun (x6 : ByteArray) =>
    L.ite (!(x4.toList == x6.toList)) (
      K (.bool false)) <|
    again2 (IntKind.wrap .i64 (y1.1 + 1), ())) <|
  K (.bool true)
theorem D_damperref4_Same (p0 : Sl) (p1 : Sl) (K : Value → PT) : denF Pr Dt Tryz.f48 A_damperref4_Same [.v (.slice p0.a p0.len p0.cap), .v (.slice p1.a p1.len p1.cap)] K = F_damperref4_Same p0 p1 K := by kernel_rfl
theorem C_damperref4_Same (p0 : Sl) (p1 : Sl) {K : Value → PT} {w : World} (h : F_damperref4_Same p0 p1 K w) : Calls Pr n_damperref4_Same [.slice p0.a p0.len p0.cap, .slice p1.a p1.len p1.cap].toArray w fun e w2 => ∃ v, e = .returned v ∧ K v w2 :=
  denF_ok Tok (f := 48) (fn := Tryz.f48) (an := A_damperref4_Same) (args := [.v (.slice p0.a p0.len p0.cap), .v (.slice p1.a p1.len p1.cap)]) (by kernel_rfl) (by kernel_rfl) ((congrFun (D_damperref4_Same p0 p1 K) w).mpr h)
theorem E_damperref4_Same : Enters Pr n_damperref4_Same := enters_of_B (by kernel_rfl)

def A_damperref4_Shelf_Names : Ann := (.seq .auto (.seq .auto (.seq (.seq .auto (.one [(5, (.one (.slice))), (6, (.one (.int .i64)))] (.seq .auto (.seq (.seq .auto (.cond .auto .auto) none) .auto (some [(5, (.one (.slice)))])) none)) none) .auto none) none) none)
/-- (*damper/damperref4.Shelf).Names -/
def F_damperref4_Shelf_Names (p0 : Option Addr) (p1 : Int) (K : Value → PT) : PT :=
  L.loop (Y := Sl × Int × Unit) (⟨none, 0, 0⟩, 0, ()) fun y1 again2 =>
  L.nonnil p0 fun a3 =>
  L.load (.one (.slice)) (a3.add 0) fun (x4 : Sl) =>
  L.ite (decide (y1.2.1 < ((x4.len : Nat) : Int))) (
    L.join (Y := Sl × Unit) (fun k5 =>
      L.nonnil p0 fun a7 =>
      L.load (.one (.slice)) (a7.add 0) fun (x8 : Sl) =>
      L.idx x8.a y1.2.1 x8.len 1 fun a9 =>
      L.load (.one (.ptr)) a9 fun (x10 : Option Addr) =>
      L.nonnil x10 fun a11 =>
      L.load (.one (.int .i64)) (a11.add 0) fun (x12 : Int) =>
      L.ite (x12 == p1) (
        L.nonnil p0 fun a13 =>
        L.load (.one (.slice)) (a13.add 0) fun (x14 : Sl) =>
        L.idx x14.a y1.2.1 x14.len 1 fun a15 =>
        L.load (.one (.ptr)) a15 fun (x16 : Option Addr) =>
        L.nonnil x16 fun a17 =>
        L.load (.one (.bool)) (a17.add 14) fun (x18 : Bool) =>
        L.ite x18 (
          L.nonnil p0 fun a19 =>
          L.load (.one (.slice)) (a19.add 0) fun (x20 : Sl) =>
          L.idx x20.a y1.2.1 x20.len 1 fun a21 =>
          L.load (.one (.ptr)) a21 fun (x22 : Option Addr) =>
          L.nonnil x22 fun a23 =>
          L.load (.one (.str)) (a23.add 1) fun (x24 : ByteArray) =>
          L.call Pr n_damperref4_Put [.slice y1.1.a y1.1.len y1.1.cap, .string x24] (.one (.one (.slice))) fun (x25 : Sl) =>
          k5 (⟨x25.a, x25.len, x25.cap⟩, ())) <|
        k5 (⟨y1.1.a, y1.1.len, y1.1.cap⟩, ())) <|
      k5 (⟨y1.1.a, y1.1.len, y1.1.cap⟩, ())) fun z6 =>
    again2 (⟨z6.1.a, z6.1.len, z6.1.cap⟩, IntKind.wrap .i64 (y1.2.1 + 1), ())) <|
  K (.slice y1.1.a y1.1.len y1.1.cap)
theorem D_damperref4_Shelf_Names (p0 : Option Addr) (p1 : Int) (K : Value → PT) : denF Pr Dt Tryz.f49 A_damperref4_Shelf_Names [.v (.pointer p0), .v (.int .i64 p1)] K = F_damperref4_Shelf_Names p0 p1 K := by kernel_rfl
theorem C_damperref4_Shelf_Names (p0 : Option Addr) (p1 : Int) {K : Value → PT} {w : World} (h : F_damperref4_Shelf_Names p0 p1 K w) : Calls Pr n_damperref4_Shelf_Names [.pointer p0, .int .i64 p1].toArray w fun e w2 => ∃ v, e = .returned v ∧ K v w2 :=
  denF_ok Tok (f := 49) (fn := Tryz.f49) (an := A_damperref4_Shelf_Names) (args := [.v (.pointer p0), .v (.int .i64 p1)]) (by kernel_rfl) (by kernel_rfl) ((congrFun (D_damperref4_Shelf_Names p0 p1 K) w).mpr h)
theorem E_damperref4_Shelf_Names : Enters Pr n_damperref4_Shelf_Names := enters_of_B (by kernel_rfl)

def A_shelf_rack_api_Config_get : Ann := .auto
/-- (*damper/shelf.rack[damper/api.Config]).get -/
def F_shelf_rack_api_Config_get (p0 : Option Addr) (p1 : ByteArray) (K : Value → PT) : PT :=
  L.new [.string s_, .int .i64 0, .int .i64 0, .int .i64 0, .int .i64 0, .int .i64 0, .int .i64 0, .int .i64 0, .bool false] T_shelf_thing_api_Config fun b1 =>
  L.nonnil p0 fun a2 =>
  L.load (.one (.map)) (a2.add 0) fun (x3 : Option Nat) =>
  L.semR Pr (.one (.agg [.str, .int .i64, .int .i64, .int .i64, .int .i64, .int .i64, .int .i64, .int .i64, .bool])) (Instr.lookup T_map_string_shelf_thing_api_Config (.map x3) (.string p1) false) fun (x4 : ByteArray × Int × Int × Int × Int × Int × Int × Int × Bool × Unit) =>
  L.new [.string s_, .int .i64 0, .int .i64 0, .int .i64 0, .int .i64 0, .int .i64 0, .int .i64 0, .int .i64 0, .bool false] T_shelf_thing_api_Config fun b5 =>
  L.store (⟨b5, 0, none⟩) [.string x4.1, .int .i64 x4.2.1, .int .i64 x4.2.2.1, .int .i64 x4.2.2.2.1, .int .i64 x4.2.2.2.2.1, .int .i64 x4.2.2.2.2.2.1, .int .i64 x4.2.2.2.2.2.2.1, .int .i64 x4.2.2.2.2.2.2.2.1, .bool x4.2.2.2.2.2.2.2.2.1] <|
  L.draw <|
  L.load (.agg [.str, .int .i64, .int .i64, .int .i64, .int .i64, .int .i64, .int .i64, .int .i64, .bool]) (⟨b5, 0, none⟩) fun (x6 : ByteArray × Int × Int × Int × Int × Int × Int × Int × Bool × Unit) =>
  L.load (.one (.bool)) ((⟨b5, 0, none⟩ : Addr).add 8) fun (x7 : Bool) =>
  L.store (⟨b1, 0, none⟩) [.string x6.1, .int .i64 x6.2.1, .int .i64 x6.2.2.1, .int .i64 x6.2.2.2.1, .int .i64 x6.2.2.2.2.1, .int .i64 x6.2.2.2.2.2.1, .int .i64 x6.2.2.2.2.2.2.1, .int .i64 x6.2.2.2.2.2.2.2.1, .bool x6.2.2.2.2.2.2.2.2.1] <|
  L.chk ((⟨b5, 0, none⟩ : Addr).add 8) [.bool x7] <|
  L.load (.agg [.str, .int .i64, .int .i64, .int .i64, .int .i64, .int .i64, .int .i64, .int .i64, .bool]) (⟨b1, 0, none⟩) fun (x8 : ByteArray × Int × Int × Int × Int × Int × Int × Int × Bool × Unit) =>
  K (.tuple #[.agg #[.string x8.1, .int .i64 x8.2.1, .int .i64 x8.2.2.1, .int .i64 x8.2.2.2.1, .int .i64 x8.2.2.2.2.1, .int .i64 x8.2.2.2.2.2.1, .int .i64 x8.2.2.2.2.2.2.1, .int .i64 x8.2.2.2.2.2.2.2.1, .bool x8.2.2.2.2.2.2.2.2.1], .bool x7])
theorem D_shelf_rack_api_Config_get (p0 : Option Addr) (p1 : ByteArray) (K : Value → PT) : denF Pr Dt Tryz.f50 A_shelf_rack_api_Config_get [.v (.pointer p0), .v (.string p1)] K = F_shelf_rack_api_Config_get p0 p1 K := by kernel_rfl
theorem C_shelf_rack_api_Config_get (p0 : Option Addr) (p1 : ByteArray) {K : Value → PT} {w : World} (h : F_shelf_rack_api_Config_get p0 p1 K w) : Calls Pr n_shelf_rack_api_Config_get [.pointer p0, .string p1].toArray w fun e w2 => ∃ v, e = .returned v ∧ K v w2 :=
  denF_ok Tok (f := 50) (fn := Tryz.f50) (an := A_shelf_rack_api_Config_get) (args := [.v (.pointer p0), .v (.string p1)]) (by kernel_rfl) (by kernel_rfl) ((congrFun (D_shelf_rack_api_Config_get p0 p1 K) w).mpr h)
theorem E_shelf_rack_api_Config_get : Enters Pr n_shelf_rack_api_Config_get := enters_of_B (by kernel_rfl)

def A_slices_EqualFunc_api_Target_api_Target_api_Target_api_Target : Ann := (.seq .auto (.seq .auto (.seq (.seq .auto (.one [(17, (.one (.int .i64)))] .auto) none) .auto none) none) none)
/-- slices.EqualFunc[[]damper/api.Target,[]damper/api.Target,damper/api.Target,damper/api.Target] -/
def F_slices_EqualFunc_api_Target_api_Target_api_Target_api_Target (p0 : Sl) (p1 : Sl) (p2 : FV) (K : Value → PT) : PT :=
  L.ite (((p0.len : Nat) : Int) != ((p1.len : Nat) : Int)) (
    K (.bool false)) <|
  L.loop (Y := Int × Unit) (0, ()) fun y1 again2 =>
  L.ite (decide (y1.1 < ((p0.len : Nat) : Int))) (
    L.idx p0.a y1.1 p0.len 3 fun a3 =>
    L.load (.agg [.str, .str, .int .i64]) a3 fun (x4 : ByteArray × ByteArray × Int × Unit) =>
    L.new [.string s_, .string s_, .int .i64 0] T_api_Target fun b5 =>
    L.store (⟨b5, 0, none⟩) [.string x4.1, .string x4.2.1, .int .i64 x4.2.2.1] <|
    L.idx p1.a y1.1 p1.len 3 fun a6 =>
    L.load (.agg [.str, .str, .int .i64]) a6 fun (x7 : ByteArray × ByteArray × Int × Unit) =>
    L.new [.string s_, .string s_, .int .i64 0] T_api_Target fun b8 =>
    L.store (⟨b8, 0, none⟩) [.string x7.1, .string x7.2.1, .int .i64 x7.2.2.1] <|
    L.load (.agg [.str, .str, .int .i64]) (⟨b5, 0, none⟩) fun (x9 : ByteArray × ByteArray × Int × Unit) =>
    L.load (.agg [.str, .str, .int .i64]) (⟨b8, 0, none⟩) fun (x10 : ByteArray × ByteArray × Int × Unit) =>
    L.callV Pr (.func p2.fn p2.fs p2.cs) [.agg #[.string x9.1, .string x9.2.1, .int .i64 x9.2.2.1], .agg #[.string x10.1, .string x10.2.1, .int .i64 x10.2.2.1]] (.one (.one (.bool))) fun (x11 : Bool) =>
    L.ite (!x11) (
      K (.bool false)) <|
    again2 (IntKind.wrap .i64 (y1.1 + 1), ())) <|
  K (.bool true)
theorem D_slices_EqualFunc_api_Target_api_Target_api_Target_api_Target (p0 : Sl) (p1 : Sl) (p2 : FV) (K : Value → PT) : denF Pr Dt Tryz.f51 A_slices_EqualFunc_api_Target_api_Target_api_Target_api_Target [.v (.slice p0.a p0.len p0.cap), .v (.slice p1.a p1.len p1.cap), .v (.func p2.fn p2.fs p2.cs)] K = F_slices_EqualFunc_api_Target_api_Target_api_Target_api_Target p0 p1 p2 K := by kernel_rfl
theorem C_slices_EqualFunc_api_Target_api_Target_api_Target_api_Target (p0 : Sl) (p1 : Sl) (p2 : FV) {K : Value → PT} {w : World} (h : F_slices_EqualFunc_api_Target_api_Target_api_Target_api_Target p0 p1 p2 K w) : Calls Pr n_slices_EqualFunc_api_Target_api_Target_api_Target_api_Target [.slice p0.a p0.len p0.cap, .slice p1.a p1.len p1.cap, .func p2.fn p2.fs p2.cs].toArray w fun e w2 => ∃ v, e = .returned v ∧ K v w2 :=
  denF_ok Tok (f := 51) (fn := Tryz.f51) (an := A_slices_EqualFunc_api_Target_api_Target_api_Target_api_Target) (args := [.v (.slice p0.a p0.len p0.cap), .v (.slice p1.a p1.len p1.cap), .v (.func p2.fn p2.fs p2.cs)]) (by kernel_rfl) (by kernel_rfl) ((congrFun (D_slices_EqualFunc_api_Target_api_Target_api_Target_api_Target p0 p1 p2 K) w).mpr h)
theorem E_slices_EqualFunc_api_Target_api_Target_api_Target_api_Target : Enters Pr n_slices_EqualFunc_api_Target_api_Target_api_Target_api_Target := enters_of_B (by kernel_rfl)

def A_spec_same : Ann := .auto
/-- damper/spec.same -/
def F_spec_same (p0 : HT [.str, .str, .int .i64]) (p1 : HT [.str, .str, .int .i64]) (K : Value → PT) : PT :=
  L.new [.string p0.1, .string p0.2.1, .int .i64 p0.2.2.1] T_api_Target fun b1 =>
  L.new [.string p1.1, .string p1.2.1, .int .i64 p1.2.2.1] T_api_Target fun b2 =>
  L.load (.agg [.str, .str, .int .i64]) (⟨b1, 0, none⟩) fun (x3 : ByteArray × ByteArray × Int × Unit) =>
  L.load (.agg [.str, .str, .int .i64]) (⟨b2, 0, none⟩) fun (x4 : ByteArray × ByteArray × Int × Unit) =>
  L.chkSem Pr (do eqGuard .eql T_api_Target (.tmp 0) (.tmp 0) (.agg #[.string x3.1, .string x3.2.1, .int .i64 x3.2.2.1]) (.agg #[.string x4.1, .string x4.2.1, .int .i64 x4.2.2.1]); binOp .eql T_api_Target (.agg #[.string x3.1, .string x3.2.1, .int .i64 x3.2.2.1]) (.agg #[.string x4.1, .string x4.2.1, .int .i64 x4.2.2.1])) (.bool ((x3.1 == x4.1) && ((x3.2.1 == x4.2.1) && ((x3.2.2.1 == x4.2.2.1) && true)))) <|
  K (.bool ((x3.1 == x4.1) && ((x3.2.1 == x4.2.1) && ((x3.2.2.1 == x4.2.2.1) && true))))
theorem D_spec_same (p0 : HT [.str, .str, .int .i64]) (p1 : HT [.str, .str, .int .i64]) (K : Value → PT) : denF Pr Dt Tryz.f52 A_spec_same [.ag [.string p0.1, .string p0.2.1, .int .i64 p0.2.2.1], .ag [.string p1.1, .string p1.2.1, .int .i64 p1.2.2.1]] K = F_spec_same p0 p1 K := by kernel_rfl
theorem C_spec_same (p0 : HT [.str, .str, .int .i64]) (p1 : HT [.str, .str, .int .i64]) {K : Value → PT} {w : World} (h : F_spec_same p0 p1 K w) : Calls Pr n_spec_same [(.ag [.string p0.1, .string p0.2.1, .int .i64 p0.2.2.1] : SV).toV, (.ag [.string p1.1, .string p1.2.1, .int .i64 p1.2.2.1] : SV).toV].toArray w fun e w2 => ∃ v, e = .returned v ∧ K v w2 :=
  denF_ok Tok (f := 52) (fn := Tryz.f52) (an := A_spec_same) (args := [.ag [.string p0.1, .string p0.2.1, .int .i64 p0.2.2.1], .ag [.string p1.1, .string p1.2.1, .int .i64 p1.2.2.1]]) (by kernel_rfl) (by kernel_rfl) ((congrFun (D_spec_same p0 p1 K) w).mpr h)
theorem E_spec_same : Enters Pr n_spec_same := enters_of_B (by kernel_rfl)

def A_label_Name : Ann := .auto
/-- damper/label.Name -/
def F_label_Name (p0 : ByteArray) (K : Value → PT) : PT :=
  L.call Pr n_label_short [.string p0, .int .i64 16] (.one (.one (.bool))) fun (x1 : Bool) =>
  K (.bool x1)
theorem D_label_Name (p0 : ByteArray) (K : Value → PT) : denF Pr Dt Tryz.f53 A_label_Name [.v (.string p0)] K = F_label_Name p0 K := by kernel_rfl
theorem C_label_Name (p0 : ByteArray) {K : Value → PT} {w : World} (h : F_label_Name p0 K w) : Calls Pr n_label_Name [.string p0].toArray w fun e w2 => ∃ v, e = .returned v ∧ K v w2 :=
  denF_ok Tok (f := 53) (fn := Tryz.f53) (an := A_label_Name) (args := [.v (.string p0)]) (by kernel_rfl) (by kernel_rfl) ((congrFun (D_label_Name p0 K) w).mpr h)
theorem E_label_Name : Enters Pr n_label_Name := enters_of_B (by kernel_rfl)

def A_spec_span_has : Ann := .auto
/-- (damper/spec.span).has -/
def F_spec_span_has (p0 : HT [.int .i64, .int .i64]) (p1 : Int) (K : Value → PT) : PT :=
  L.new [.int .i64 p0.1, .int .i64 p0.2.1] T_spec_span fun b1 =>
  L.load (.one (.int .i64)) ((⟨b1, 0, none⟩ : Addr).add 0) fun (x2 : Int) =>
  L.ite (decide (p1 ≥ x2)) (
    L.load (.one (.int .i64)) ((⟨b1, 0, none⟩ : Addr).add 1) fun (x3 : Int) =>
    K (.bool (decide (p1 ≤ x3)))) <|
  K (.bool false)
theorem D_spec_span_has (p0 : HT [.int .i64, .int .i64]) (p1 : Int) (K : Value → PT) : denF Pr Dt Tryz.f54 A_spec_span_has [.ag [.int .i64 p0.1, .int .i64 p0.2.1], .v (.int .i64 p1)] K = F_spec_span_has p0 p1 K := by kernel_rfl
theorem C_spec_span_has (p0 : HT [.int .i64, .int .i64]) (p1 : Int) {K : Value → PT} {w : World} (h : F_spec_span_has p0 p1 K w) : Calls Pr n_spec_span_has [(.ag [.int .i64 p0.1, .int .i64 p0.2.1] : SV).toV, .int .i64 p1].toArray w fun e w2 => ∃ v, e = .returned v ∧ K v w2 :=
  denF_ok Tok (f := 54) (fn := Tryz.f54) (an := A_spec_span_has) (args := [.ag [.int .i64 p0.1, .int .i64 p0.2.1], .v (.int .i64 p1)]) (by kernel_rfl) (by kernel_rfl) ((congrFun (D_spec_span_has p0 p1 K) w).mpr h)
theorem E_spec_span_has : Enters Pr n_spec_span_has := enters_of_B (by kernel_rfl)

def A_spec_target : Ann := (.seq .auto (.seq .auto (.seq .auto (.seq (.seq (.seq .auto (.cond .auto .auto) none) .auto (some [(16, (.one (.bool)))])) .auto none) none) none) none)
/-- damper/spec.target -/
def F_spec_target (p0 : HT [.str, .str, .int .i64]) (K : Value → PT) : PT :=
  L.new [.string p0.1, .string p0.2.1, .int .i64 p0.2.2.1] T_api_Target fun b1 =>
  L.load (.one (.str)) ((⟨b1, 0, none⟩ : Addr).add 0) fun (x2 : ByteArray) =>
  L.call Pr n_label_Split [.string x2] (.tup [(.one (.str)), (.one (.int .i64)), (.one (.bool))]) fun (x3 : ByteArray × Int × Bool × Unit) =>
  L.join (Y := Bool × Unit) (fun k4 =>
    L.load (.one (.str)) ((⟨b1, 0, none⟩ : Addr).add 0) fun (x6 : ByteArray) =>
    L.ite (!(x6.toList == s_.toList)) (
      L.ite (!x3.2.2.1) (
        k4 (!x3.2.2.1, ())) <|
      L.load (.one (.str)) ((⟨b1, 0, none⟩ : Addr).add 1) fun (x7 : ByteArray) =>
      L.ite (!(x7.toList == s_.toList)) (
        L.load (.one (.str)) ((⟨b1, 0, none⟩ : Addr).add 1) fun (x8 : ByteArray) =>
        L.call Pr n_label_Tag [.string x8] (.one (.one (.bool))) fun (x9 : Bool) =>
        k4 (!x9, ())) <|
      k4 (false, ())) <|
    L.load (.one (.str)) ((⟨b1, 0, none⟩ : Addr).add 1) fun (x10 : ByteArray) =>
    L.ite (!(x10.toList == s_.toList)) (
      L.load (.one (.str)) ((⟨b1, 0, none⟩ : Addr).add 1) fun (x11 : ByteArray) =>
      L.call Pr n_label_Tag [.string x11] (.one (.one (.bool))) fun (x12 : Bool) =>
      k4 (!x12, ())) <|
    k4 (false, ())) fun z5 =>
  L.ite z5.1 (
    K (.int .i64 1)) <|
  L.load (.one (.int .i64)) ((⟨b1, 0, none⟩ : Addr).add 2) fun (x13 : Int) =>
  L.callV Pr (.func (.func n_spec_span_has) #[.agg #[.int .i64 0, .int .i64 100]] #[]) [.int .i64 x13] (.one (.one (.bool))) fun (x14 : Bool) =>
  L.ite (!x14) (
    K (.int .i64 2)) <|
  K (.int .i64 0)
theorem D_spec_target (p0 : HT [.str, .str, .int .i64]) (K : Value → PT) : denF Pr Dt Tryz.f55 A_spec_target [.ag [.string p0.1, .string p0.2.1, .int .i64 p0.2.2.1]] K = F_spec_target p0 K := by kernel_rfl
theorem C_spec_target (p0 : HT [.str, .str, .int .i64]) {K : Value → PT} {w : World} (h : F_spec_target p0 K w) : Calls Pr n_spec_target [(.ag [.string p0.1, .string p0.2.1, .int .i64 p0.2.2.1] : SV).toV].toArray w fun e w2 => ∃ v, e = .returned v ∧ K v w2 :=
  denF_ok Tok (f := 55) (fn := Tryz.f55) (an := A_spec_target) (args := [.ag [.string p0.1, .string p0.2.1, .int .i64 p0.2.2.1]]) (by kernel_rfl) (by kernel_rfl) ((congrFun (D_spec_target p0 K) w).mpr h)
theorem E_spec_target : Enters Pr n_spec_target := enters_of_B (by kernel_rfl)

def A_spec_all : Ann := (.seq .auto (.seq .auto (.seq (.seq .auto (.one [(3, (.one (.int .i64))), (8, (.one (.int .i64)))] (.seq .auto (.seq .auto (.seq (.seq .auto (.seq .auto (.seq .auto (.cond .auto .auto) none) none) none) .auto (some [(3, (.one (.int .i64)))])) none) none)) none) .auto none) none) none)
/-- damper/spec.all -/
def F_spec_all (p0 : Sl) (K : Value → PT) : PT :=
  L.loop (Y := Int × Int × Unit) (0, 0, ()) fun y1 again2 =>
  L.ite (decide (y1.2.1 < ((p0.len : Nat) : Int))) (
    L.join (Y := Int × Unit) (fun k3 =>
      L.idx p0.a y1.2.1 p0.len 3 fun a5 =>
      L.load (.agg [.str, .str, .int .i64]) a5 fun (x6 : ByteArray × ByteArray × Int × Unit) =>
      L.new [.string s_, .string s_, .int .i64 0] T_api_Target fun b7 =>
      L.store (⟨b7, 0, none⟩) [.string x6.1, .string x6.2.1, .int .i64 x6.2.2.1] <|
      L.load (.one (.int .i64)) ((⟨b7, 0, none⟩ : Addr).add 2) fun (x8 : Int) =>
      L.load (.one (.str)) ((⟨b7, 0, none⟩ : Addr).add 1) fun (x9 : ByteArray) =>
      L.ite (!(x9.toList == s_.toList)) (
        L.guard (0 ≤ (0 : Int) ∧ (0 : Int) ≤ y1.2.1 ∧ y1.2.1 ≤ ((p0.cap : Nat) : Int) ∧ ((p0.cap : Nat) : Int) ≤ p0.cap) <|
        L.call Pr n_slices_ContainsFunc_api_Target_api_Target [.slice (if Int.toNat ((p0.cap : Nat) : Int) = Int.toNat (0 : Int) then p0.a else Option.map (fun a : Addr => a.add (Int.toNat (0 : Int) * 3)) p0.a) (Int.toNat y1.2.1 - Int.toNat (0 : Int)) (Int.toNat ((p0.cap : Nat) : Int) - Int.toNat (0 : Int)), .func (.func n_spec_all_1) #[] #[.pointer (some (⟨b7, 0, none⟩))]] (.one (.one (.bool))) fun (x10 : Bool) =>
        L.ite x10 (
          K (.int .i64 5)) <|
        k3 (IntKind.wrap .i64 (y1.1 + x8), ())) <|
      k3 (IntKind.wrap .i64 (y1.1 + x8), ())) fun z4 =>
    again2 (z4.1, IntKind.wrap .i64 (y1.2.1 + 1), ())) <|
  L.ite (y1.1 != 100) (
    K (.int .i64 4)) <|
  K (.int .i64 0)
theorem D_spec_all (p0 : Sl) (K : Value → PT) : denF Pr Dt Tryz.f56 A_spec_all [.v (.slice p0.a p0.len p0.cap)] K = F_spec_all p0 K := by kernel_rfl
theorem C_spec_all (p0 : Sl) {K : Value → PT} {w : World} (h : F_spec_all p0 K w) : Calls Pr n_spec_all [.slice p0.a p0.len p0.cap].toArray w fun e w2 => ∃ v, e = .returned v ∧ K v w2 :=
  denF_ok Tok (f := 56) (fn := Tryz.f56) (an := A_spec_all) (args := [.v (.slice p0.a p0.len p0.cap)]) (by kernel_rfl) (by kernel_rfl) ((congrFun (D_spec_all p0 K) w).mpr h)
theorem E_spec_all : Enters Pr n_spec_all := enters_of_B (by kernel_rfl)

def A_slices_Clone_api_Target_api_Target : Ann := .auto
/-- slices.Clone[[]damper/api.Target,damper/api.Target] -/
def F_slices_Clone_api_Target_api_Target (p0 : Sl) (K : Value → PT) : PT :=
  L.ite ((p0.a).isNone) (
    K (.slice none 0 0)) <|
  L.new [] T_api_Target fun b1 =>
  L.sem Pr (.one (.one .slice)) (Builtin.append_ #[T_s_api_Target, T_s_api_Target] T_s_api_Target #[.slice (some ⟨b1, 0, none⟩) 0 0, .slice p0.a p0.len p0.cap]) fun (s2 : Sl) =>
  K (.slice s2.a s2.len s2.cap)
theorem D_slices_Clone_api_Target_api_Target (p0 : Sl) (K : Value → PT) : denF Pr Dt Tryz.f57 A_slices_Clone_api_Target_api_Target [.v (.slice p0.a p0.len p0.cap)] K = F_slices_Clone_api_Target_api_Target p0 K := by kernel_rfl
theorem C_slices_Clone_api_Target_api_Target (p0 : Sl) {K : Value → PT} {w : World} (h : F_slices_Clone_api_Target_api_Target p0 K w) : Calls Pr n_slices_Clone_api_Target_api_Target [.slice p0.a p0.len p0.cap].toArray w fun e w2 => ∃ v, e = .returned v ∧ K v w2 :=
  denF_ok Tok (f := 57) (fn := Tryz.f57) (an := A_slices_Clone_api_Target_api_Target) (args := [.v (.slice p0.a p0.len p0.cap)]) (by kernel_rfl) (by kernel_rfl) ((congrFun (D_slices_Clone_api_Target_api_Target p0 K) w).mpr h)
theorem E_slices_Clone_api_Target_api_Target : Enters Pr n_slices_Clone_api_Target_api_Target := enters_of_B (by kernel_rfl)

def A_slices_Clone_string_string : Ann := .auto
/-- slices.Clone[[]string,string] -/
def F_slices_Clone_string_string (p0 : Sl) (K : Value → PT) : PT :=
  L.ite ((p0.a).isNone) (
    K (.slice none 0 0)) <|
  L.new [] T_string fun b1 =>
  L.sem Pr (.one (.one .slice)) (Builtin.append_ #[T_s_string, T_s_string] T_s_string #[.slice (some ⟨b1, 0, none⟩) 0 0, .slice p0.a p0.len p0.cap]) fun (s2 : Sl) =>
  K (.slice s2.a s2.len s2.cap)
theorem D_slices_Clone_string_string (p0 : Sl) (K : Value → PT) : denF Pr Dt Tryz.f58 A_slices_Clone_string_string [.v (.slice p0.a p0.len p0.cap)] K = F_slices_Clone_string_string p0 K := by kernel_rfl
theorem C_slices_Clone_string_string (p0 : Sl) {K : Value → PT} {w : World} (h : F_slices_Clone_string_string p0 K w) : Calls Pr n_slices_Clone_string_string [.slice p0.a p0.len p0.cap].toArray w fun e w2 => ∃ v, e = .returned v ∧ K v w2 :=
  denF_ok Tok (f := 58) (fn := Tryz.f58) (an := A_slices_Clone_string_string) (args := [.v (.slice p0.a p0.len p0.cap)]) (by kernel_rfl) (by kernel_rfl) ((congrFun (D_slices_Clone_string_string p0 K) w).mpr h)
theorem E_slices_Clone_string_string : Enters Pr n_slices_Clone_string_string := enters_of_B (by kernel_rfl)

def A_shelf_rack_api_Config_names_1 : Ann := (.seq .auto (.one [(12, (.one (.int .i64)))] (.seq .auto (.seq .auto (.seq (.seq .auto (.seq .auto (.cond .auto .auto) none) none) .auto (some [])) none) none)) none)
/-- (*damper/shelf.rack[damper/api.Config]).names$1 -/
def F_shelf_rack_api_Config_names_1 (p0 : FV) (c0 : Addr) (K : Value → PT) : PT :=
  L.load (.one (.ptr)) c0 fun (x1 : Option Addr) =>
  L.nonnil x1 fun a2 =>
  L.load (.one (.map)) (a2.add 0) fun (x3 : Option Nat) =>
  L.call Pr n_maps_Keys_map_string_shelf_thing_api_Config_string_bd34 [.map x3] (.one (.one (.func))) fun (x4 : FV) =>
  L.call Pr n_slices_Sorted_string [.func x4.fn x4.fs x4.cs] (.one (.one (.slice))) fun (x5 : Sl) =>
  L.loop (Y := Int × Unit) (0, ()) fun y6 again7 =>
  L.ite (decide (y6.1 < ((x5.len : Nat) : Int))) (
    L.join (Y := Unit) (fun k8 =>
      L.idx x5.a y6.1 x5.len 1 fun a10 =>
      L.load (.one (.str)) a10 fun (x11 : ByteArray) =>
      L.load (.one (.ptr)) c0 fun (x12 : Option Addr) =>
      L.nonnil x12 fun a13 =>
      L.load (.one (.map)) (a13.add 0) fun (x14 : Option Nat) =>
      L.semR Pr (.one (.agg [.str, .int .i64, .int .i64, .int .i64, .int .i64, .int .i64, .int .i64, .int .i64, .bool])) (Instr.lookup T_map_string_shelf_thing_api_Config (.map x14) (.string x11) false) fun (x15 : ByteArray × Int × Int × Int × Int × Int × Int × Int × Bool × Unit) =>
      L.ite x15.2.2.2.2.2.2.2.2.1 (
        L.callV Pr (.func p0.fn p0.fs p0.cs) [.string x11] (.one (.one (.bool))) fun (x16 : Bool) =>
        L.ite (!x16) (
          K (.tuple #[])) <|
        k8 (())) <|
      k8 (())) fun z9 =>
    again7 (IntKind.wrap .i64 (y6.1 + 1), ())) <|
  K (.tuple #[])
theorem D_shelf_rack_api_Config_names_1 (p0 : FV) (c0 : Addr) (K : Value → PT) : denF Pr Dt Tryz.f59 A_shelf_rack_api_Config_names_1 [.v (.func p0.fn p0.fs p0.cs), .v (.pointer (some c0))] K = F_shelf_rack_api_Config_names_1 p0 c0 K := by kernel_rfl
theorem C_shelf_rack_api_Config_names_1 (p0 : FV) (c0 : Addr) {K : Value → PT} {w : World} (h : F_shelf_rack_api_Config_names_1 p0 c0 K w) : Calls Pr n_shelf_rack_api_Config_names_1 [.func p0.fn p0.fs p0.cs, .pointer (some c0)].toArray w fun e w2 => ∃ v, e = .returned v ∧ K v w2 :=
  denF_ok Tok (f := 59) (fn := Tryz.f59) (an := A_shelf_rack_api_Config_names_1) (args := [.v (.func p0.fn p0.fs p0.cs), .v (.pointer (some c0))]) (by kernel_rfl) (by kernel_rfl) ((congrFun (D_shelf_rack_api_Config_names_1 p0 c0 K) w).mpr h)
theorem E_shelf_rack_api_Config_names_1 : Enters Pr n_shelf_rack_api_Config_names_1 := enters_of_B (by kernel_rfl)

def A_slices_Sorted_string : Ann := .auto
/-- slices.Sorted[string] -/
def F_slices_Sorted_string (p0 : FV) (K : Value → PT) : PT :=
  L.call Pr n_slices_Collect_string [.func p0.fn p0.fs p0.cs] (.one (.one (.slice))) fun (x1 : Sl) =>
  L.call Pr n_slices_Sort_string_string [.slice x1.a x1.len x1.cap] (.tup []) fun (x2 : Unit) =>
  K (.slice x1.a x1.len x1.cap)
theorem D_slices_Sorted_string (p0 : FV) (K : Value → PT) : denF Pr Dt Tryz.f60 A_slices_Sorted_string [.v (.func p0.fn p0.fs p0.cs)] K = F_slices_Sorted_string p0 K := by kernel_rfl
theorem C_slices_Sorted_string (p0 : FV) {K : Value → PT} {w : World} (h : F_slices_Sorted_string p0 K w) : Calls Pr n_slices_Sorted_string [.func p0.fn p0.fs p0.cs].toArray w fun e w2 => ∃ v, e = .returned v ∧ K v w2 :=
  denF_ok Tok (f := 60) (fn := Tryz.f60) (an := A_slices_Sorted_string) (args := [.v (.func p0.fn p0.fs p0.cs)]) (by kernel_rfl) (by kernel_rfl) ((congrFun (D_slices_Sorted_string p0 K) w).mpr h)
theorem E_slices_Sorted_string : Enters Pr n_slices_Sorted_string := enters_of_B (by kernel_rfl)

def A_maps_Keys_map_string_shelf_thing_api_Config_string_bd34 : Ann := .auto
/-- maps.Keys[map[string]damper/shelf.thing[damper/api.Config],string,damper/shelf.thing[damper/api.Config]] -/
def F_maps_Keys_map_string_shelf_thing_api_Config_string_bd34 (p0 : Option Nat) (K : Value → PT) : PT :=
  L.new [.map p0] T_map_string_shelf_thing_api_Config fun b1 =>
  K (.func (.func n_maps_Keys_map_string_shelf_thing_api_Config_string_df09) #[] #[.pointer (some (⟨b1, 0, none⟩))])
theorem D_maps_Keys_map_string_shelf_thing_api_Config_string_bd34 (p0 : Option Nat) (K : Value → PT) : denF Pr Dt Tryz.f61 A_maps_Keys_map_string_shelf_thing_api_Config_string_bd34 [.v (.map p0)] K = F_maps_Keys_map_string_shelf_thing_api_Config_string_bd34 p0 K := by kernel_rfl
theorem C_maps_Keys_map_string_shelf_thing_api_Config_string_bd34 (p0 : Option Nat) {K : Value → PT} {w : World} (h : F_maps_Keys_map_string_shelf_thing_api_Config_string_bd34 p0 K w) : Calls Pr n_maps_Keys_map_string_shelf_thing_api_Config_string_bd34 [.map p0].toArray w fun e w2 => ∃ v, e = .returned v ∧ K v w2 :=
  denF_ok Tok (f := 61) (fn := Tryz.f61) (an := A_maps_Keys_map_string_shelf_thing_api_Config_string_bd34) (args := [.v (.map p0)]) (by kernel_rfl) (by kernel_rfl) ((congrFun (D_maps_Keys_map_string_shelf_thing_api_Config_string_bd34 p0 K) w).mpr h)
theorem E_maps_Keys_map_string_shelf_thing_api_Config_string_bd34 : Enters Pr n_maps_Keys_map_string_shelf_thing_api_Config_string_bd34 := enters_of_B (by kernel_rfl)

def A_shelf_rack_api_Route_names_1 : Ann := (.seq .auto (.one [(12, (.one (.int .i64)))] (.seq .auto (.seq .auto (.seq (.seq .auto (.seq .auto (.cond .auto .auto) none) none) .auto (some [])) none) none)) none)
/-- (*damper/shelf.rack[damper/api.Route]).names$1 -/
def F_shelf_rack_api_Route_names_1 (p0 : FV) (c0 : Addr) (K : Value → PT) : PT :=
  L.load (.one (.ptr)) c0 fun (x1 : Option Addr) =>
  L.nonnil x1 fun a2 =>
  L.load (.one (.map)) (a2.add 0) fun (x3 : Option Nat) =>
  L.call Pr n_maps_Keys_map_string_shelf_thing_api_Route_string__f1c6 [.map x3] (.one (.one (.func))) fun (x4 : FV) =>
  L.call Pr n_slices_Sorted_string [.func x4.fn x4.fs x4.cs] (.one (.one (.slice))) fun (x5 : Sl) =>
  L.loop (Y := Int × Unit) (0, ()) fun y6 again7 =>
  L.ite (decide (y6.1 < ((x5.len : Nat) : Int))) (
    L.join (Y := Unit) (fun k8 =>
      L.idx x5.a y6.1 x5.len 1 fun a10 =>
      L.load (.one (.str)) a10 fun (x11 : ByteArray) =>
      L.load (.one (.ptr)) c0 fun (x12 : Option Addr) =>
      L.nonnil x12 fun a13 =>
      L.load (.one (.map)) (a13.add 0) fun (x14 : Option Nat) =>
      L.semR Pr (.one (.agg [.str, .str, .slice, .int .i64, .int .i64, .int .i64, .bool])) (Instr.lookup T_map_string_shelf_thing_api_Route (.map x14) (.string x11) false) fun (x15 : ByteArray × ByteArray × Sl × Int × Int × Int × Bool × Unit) =>
      L.ite x15.2.2.2.2.2.2.1 (
        L.callV Pr (.func p0.fn p0.fs p0.cs) [.string x11] (.one (.one (.bool))) fun (x16 : Bool) =>
        L.ite (!x16) (
          K (.tuple #[])) <|
        k8 (())) <|
      k8 (())) fun z9 =>
    again7 (IntKind.wrap .i64 (y6.1 + 1), ())) <|
  K (.tuple #[])
theorem D_shelf_rack_api_Route_names_1 (p0 : FV) (c0 : Addr) (K : Value → PT) : denF Pr Dt Tryz.f62 A_shelf_rack_api_Route_names_1 [.v (.func p0.fn p0.fs p0.cs), .v (.pointer (some c0))] K = F_shelf_rack_api_Route_names_1 p0 c0 K := by kernel_rfl
theorem C_shelf_rack_api_Route_names_1 (p0 : FV) (c0 : Addr) {K : Value → PT} {w : World} (h : F_shelf_rack_api_Route_names_1 p0 c0 K w) : Calls Pr n_shelf_rack_api_Route_names_1 [.func p0.fn p0.fs p0.cs, .pointer (some c0)].toArray w fun e w2 => ∃ v, e = .returned v ∧ K v w2 :=
  denF_ok Tok (f := 62) (fn := Tryz.f62) (an := A_shelf_rack_api_Route_names_1) (args := [.v (.func p0.fn p0.fs p0.cs), .v (.pointer (some c0))]) (by kernel_rfl) (by kernel_rfl) ((congrFun (D_shelf_rack_api_Route_names_1 p0 c0 K) w).mpr h)
theorem E_shelf_rack_api_Route_names_1 : Enters Pr n_shelf_rack_api_Route_names_1 := enters_of_B (by kernel_rfl)

def A_maps_Keys_map_string_shelf_thing_api_Route_string__f1c6 : Ann := .auto
/-- maps.Keys[map[string]damper/shelf.thing[damper/api.Route],string,damper/shelf.thing[damper/api.Route]] -/
def F_maps_Keys_map_string_shelf_thing_api_Route_string__f1c6 (p0 : Option Nat) (K : Value → PT) : PT :=
  L.new [.map p0] T_map_string_shelf_thing_api_Route fun b1 =>
  K (.func (.func n_maps_Keys_map_string_shelf_thing_api_Route_string__801b) #[] #[.pointer (some (⟨b1, 0, none⟩))])
theorem D_maps_Keys_map_string_shelf_thing_api_Route_string__f1c6 (p0 : Option Nat) (K : Value → PT) : denF Pr Dt Tryz.f63 A_maps_Keys_map_string_shelf_thing_api_Route_string__f1c6 [.v (.map p0)] K = F_maps_Keys_map_string_shelf_thing_api_Route_string__f1c6 p0 K := by kernel_rfl
theorem C_maps_Keys_map_string_shelf_thing_api_Route_string__f1c6 (p0 : Option Nat) {K : Value → PT} {w : World} (h : F_maps_Keys_map_string_shelf_thing_api_Route_string__f1c6 p0 K w) : Calls Pr n_maps_Keys_map_string_shelf_thing_api_Route_string__f1c6 [.map p0].toArray w fun e w2 => ∃ v, e = .returned v ∧ K v w2 :=
  denF_ok Tok (f := 63) (fn := Tryz.f63) (an := A_maps_Keys_map_string_shelf_thing_api_Route_string__f1c6) (args := [.v (.map p0)]) (by kernel_rfl) (by kernel_rfl) ((congrFun (D_maps_Keys_map_string_shelf_thing_api_Route_string__f1c6 p0 K) w).mpr h)
theorem E_maps_Keys_map_string_shelf_thing_api_Route_string__f1c6 : Enters Pr n_maps_Keys_map_string_shelf_thing_api_Route_string__f1c6 := enters_of_B (by kernel_rfl)

def A_shelf_rack_api_Config_drop : Ann := .auto
/-- (*damper/shelf.rack[damper/api.Config]).drop -/
def F_shelf_rack_api_Config_drop (p0 : Option Addr) (p1 : ByteArray) (K : Value → PT) : PT :=
  L.draw <|
  L.nonnil p0 fun a1 =>
  L.load (.one (.map)) (a1.add 0) fun (x2 : Option Nat) =>
  L.nonnil p0 fun a3 =>
  L.load (.one (.map)) (a3.add 0) fun (x4 : Option Nat) =>
  L.semR Pr (.one (.agg [.str, .int .i64, .int .i64, .int .i64, .int .i64, .int .i64, .int .i64, .int .i64, .bool])) (Instr.lookup T_map_string_shelf_thing_api_Config (.map x4) (.string p1) false) fun (x5 : ByteArray × Int × Int × Int × Int × Int × Int × Int × Bool × Unit) =>
  L.semU Pr (Instr.mapUpdate T_map_string_shelf_thing_api_Config (.map x2) (.string p1) (.agg #[.string s_, .int .i64 0, .int .i64 0, .int .i64 0, .int .i64 0, .int .i64 0, .int .i64 0, .int .i64 x5.2.2.2.2.2.2.2.1, .bool false])) <|
  K (.tuple #[])
theorem D_shelf_rack_api_Config_drop (p0 : Option Addr) (p1 : ByteArray) (K : Value → PT) : denF Pr Dt Tryz.f64 A_shelf_rack_api_Config_drop [.v (.pointer p0), .v (.string p1)] K = F_shelf_rack_api_Config_drop p0 p1 K := by kernel_rfl
theorem C_shelf_rack_api_Config_drop (p0 : Option Addr) (p1 : ByteArray) {K : Value → PT} {w : World} (h : F_shelf_rack_api_Config_drop p0 p1 K w) : Calls Pr n_shelf_rack_api_Config_drop [.pointer p0, .string p1].toArray w fun e w2 => ∃ v, e = .returned v ∧ K v w2 :=
  denF_ok Tok (f := 64) (fn := Tryz.f64) (an := A_shelf_rack_api_Config_drop) (args := [.v (.pointer p0), .v (.string p1)]) (by kernel_rfl) (by kernel_rfl) ((congrFun (D_shelf_rack_api_Config_drop p0 p1 K) w).mpr h)
theorem E_shelf_rack_api_Config_drop : Enters Pr n_shelf_rack_api_Config_drop := enters_of_B (by kernel_rfl)

def A_shelf_rack_api_Route_drop : Ann := .auto
/-- (*damper/shelf.rack[damper/api.Route]).drop -/
def F_shelf_rack_api_Route_drop (p0 : Option Addr) (p1 : ByteArray) (K : Value → PT) : PT :=
  L.draw <|
  L.nonnil p0 fun a1 =>
  L.load (.one (.map)) (a1.add 0) fun (x2 : Option Nat) =>
  L.nonnil p0 fun a3 =>
  L.load (.one (.map)) (a3.add 0) fun (x4 : Option Nat) =>
  L.semR Pr (.one (.agg [.str, .str, .slice, .int .i64, .int .i64, .int .i64, .bool])) (Instr.lookup T_map_string_shelf_thing_api_Route (.map x4) (.string p1) false) fun (x5 : ByteArray × ByteArray × Sl × Int × Int × Int × Bool × Unit) =>
  L.semU Pr (Instr.mapUpdate T_map_string_shelf_thing_api_Route (.map x2) (.string p1) (.agg #[.string s_, .string s_, .slice none 0 0, .int .i64 0, .int .i64 0, .int .i64 x5.2.2.2.2.2.1, .bool false])) <|
  K (.tuple #[])
theorem D_shelf_rack_api_Route_drop (p0 : Option Addr) (p1 : ByteArray) (K : Value → PT) : denF Pr Dt Tryz.f65 A_shelf_rack_api_Route_drop [.v (.pointer p0), .v (.string p1)] K = F_shelf_rack_api_Route_drop p0 p1 K := by kernel_rfl
theorem C_shelf_rack_api_Route_drop (p0 : Option Addr) (p1 : ByteArray) {K : Value → PT} {w : World} (h : F_shelf_rack_api_Route_drop p0 p1 K w) : Calls Pr n_shelf_rack_api_Route_drop [.pointer p0, .string p1].toArray w fun e w2 => ∃ v, e = .returned v ∧ K v w2 :=
  denF_ok Tok (f := 65) (fn := Tryz.f65) (an := A_shelf_rack_api_Route_drop) (args := [.v (.pointer p0), .v (.string p1)]) (by kernel_rfl) (by kernel_rfl) ((congrFun (D_shelf_rack_api_Route_drop p0 p1 K) w).mpr h)
theorem E_shelf_rack_api_Route_drop : Enters Pr n_shelf_rack_api_Route_drop := enters_of_B (by kernel_rfl)

def A_damperref1_Name : Ann := (.seq .auto (.seq .auto (.seq (.seq .auto (.one [(3, (.one (.int .i64)))] .auto) none) .auto none) none) none)
/-- damper/damperref1.Name -/
def F_damperref1_Name (p0 : ByteArray) (K : Value → PT) : PT :=
  L.ite (decide ((p0.size : Int) < 1)) (
    K (.bool false)) <|
  L.ite (decide ((p0.size : Int) > 16)) (
    K (.bool false)) <|
  L.guard ((0 : Int) ≤ 0 ∧ (0 : Int) < p0.size) <|
  L.ite (decide ((byteAt p0 0) < 97)) (
    K (.bool false)) <|
  L.guard ((0 : Int) ≤ 0 ∧ (0 : Int) < p0.size) <|
  L.ite (decide ((byteAt p0 0) > 122)) (
    K (.bool false)) <|
  L.guard ((0 : Int) ≤ (IntKind.wrap .i64 ((p0.size : Int) - 1)) ∧ (IntKind.wrap .i64 ((p0.size : Int) - 1)) < p0.size) <|
  L.ite ((byteAt p0 (IntKind.wrap .i64 ((p0.size : Int) - 1))) == 45) (
    K (.bool false)) <|
  L.loop (Y := Int × Unit) (0, ()) fun y1 again2 =>
  L.ite (decide (y1.1 < (p0.size : Int))) (
    L.guard ((0 : Int) ≤ y1.1 ∧ y1.1 < p0.size) <|
    L.call Pr n_damperref1_sign [.int .u8 (byteAt p0 y1.1)] (.one (.one (.bool))) fun (x3 : Bool) =>
    L.ite (!x3) (
      K (.bool false)) <|
    again2 (IntKind.wrap .i64 (y1.1 + 1), ())) <|
  K (.bool true)
theorem D_damperref1_Name (p0 : ByteArray) (K : Value → PT) : denF Pr Dt Tryz.f66 A_damperref1_Name [.v (.string p0)] K = F_damperref1_Name p0 K := by kernel_rfl
theorem C_damperref1_Name (p0 : ByteArray) {K : Value → PT} {w : World} (h : F_damperref1_Name p0 K w) : Calls Pr n_damperref1_Name [.string p0].toArray w fun e w2 => ∃ v, e = .returned v ∧ K v w2 :=
  denF_ok Tok (f := 66) (fn := Tryz.f66) (an := A_damperref1_Name) (args := [.v (.string p0)]) (by kernel_rfl) (by kernel_rfl) ((congrFun (D_damperref1_Name p0 K) w).mpr h)
theorem E_damperref1_Name : Enters Pr n_damperref1_Name := enters_of_B (by kernel_rfl)

def A_damperref4_may : Ann := (.seq .auto (.seq .auto (.seq (.seq .auto (.cond .auto (.seq .auto (.cond .auto (.seq .auto (.cond .auto .auto) none)) none)) none) .auto (some [])) (some [(5, (.one (.bool)))])) none)
/-- damper/damperref4.may -/
def F_damperref4_may (p0 : Option Addr) (p1 : Int) (K : Value → PT) : PT :=
  L.join (Y := Bool × Unit) (fun k1 =>
    L.ite (!(p0).isNone) (
      L.nonnil p0 fun a3 =>
      L.load (.one (.bool)) (a3.add 14) fun (x4 : Bool) =>
      k1 (x4, ())) <|
    k1 (false, ())) fun z2 =>
  L.join (Y := Unit) (fun k5 =>
    L.ite (p1 == 0) (
      L.ite z2.1 (
        K (.int .i64 5)) <|
      L.ite (p1 != 0) (
        L.ite (!z2.1) (
          K (.int .i64 6)) <|
        L.ite (p1 != 0) (
          L.nonnil p0 fun a7 =>
          L.load (.one (.int .i64)) (a7.add 12) fun (x8 : Int) =>
          L.ite (x8 != p1) (
            K (.int .i64 7)) <|
          k5 (())) <|
        k5 (())) <|
      L.ite (p1 != 0) (
        L.nonnil p0 fun a9 =>
        L.load (.one (.int .i64)) (a9.add 12) fun (x10 : Int) =>
        L.ite (x10 != p1) (
          K (.int .i64 7)) <|
        k5 (())) <|
      k5 (())) <|
    L.ite (p1 != 0) (
      L.ite (!z2.1) (
        K (.int .i64 6)) <|
      L.ite (p1 != 0) (
        L.nonnil p0 fun a11 =>
        L.load (.one (.int .i64)) (a11.add 12) fun (x12 : Int) =>
        L.ite (x12 != p1) (
          K (.int .i64 7)) <|
        k5 (())) <|
      k5 (())) <|
    L.ite (p1 != 0) (
      L.nonnil p0 fun a13 =>
      L.load (.one (.int .i64)) (a13.add 12) fun (x14 : Int) =>
      L.ite (x14 != p1) (
        K (.int .i64 7)) <|
      k5 (())) <|
    k5 (())) fun z6 =>
  K (.int .i64 0)
theorem D_damperref4_may (p0 : Option Addr) (p1 : Int) (K : Value → PT) : denF Pr Dt Tryz.f67 A_damperref4_may [.v (.pointer p0), .v (.int .i64 p1)] K = F_damperref4_may p0 p1 K := by kernel_rfl
theorem C_damperref4_may (p0 : Option Addr) (p1 : Int) {K : Value → PT} {w : World} (h : F_damperref4_may p0 p1 K w) : Calls Pr n_damperref4_may [.pointer p0, .int .i64 p1].toArray w fun e w2 => ∃ v, e = .returned v ∧ K v w2 :=
  denF_ok Tok (f := 67) (fn := Tryz.f67) (an := A_damperref4_may) (args := [.v (.pointer p0), .v (.int .i64 p1)]) (by kernel_rfl) (by kernel_rfl) ((congrFun (D_damperref4_may p0 p1 K) w).mpr h)
theorem E_damperref4_may : Enters Pr n_damperref4_may := enters_of_B (by kernel_rfl)

def A_damperref2_revision : Ann := .auto
/-- damper/damperref2.revision -/
def F_damperref2_revision (p0 : ByteArray) (K : Value → PT) : PT :=
  L.call Pr n_damperref1_Split [.string p0] (.tup [(.one (.str)), (.one (.int .i64)), (.one (.bool))]) fun (x1 : ByteArray × Int × Bool × Unit) =>
  K (.bool x1.2.2.1)
theorem D_damperref2_revision (p0 : ByteArray) (K : Value → PT) : denF Pr Dt Tryz.f68 A_damperref2_revision [.v (.string p0)] K = F_damperref2_revision p0 K := by kernel_rfl
theorem C_damperref2_revision (p0 : ByteArray) {K : Value → PT} {w : World} (h : F_damperref2_revision p0 K w) : Calls Pr n_damperref2_revision [.string p0].toArray w fun e w2 => ∃ v, e = .returned v ∧ K v w2 :=
  denF_ok Tok (f := 68) (fn := Tryz.f68) (an := A_damperref2_revision) (args := [.v (.string p0)]) (by kernel_rfl) (by kernel_rfl) ((congrFun (D_damperref2_revision p0 K) w).mpr h)
theorem E_damperref2_revision : Enters Pr n_damperref2_revision := enters_of_B (by kernel_rfl)

def A_damperref1_Tag : Ann := .auto
/-- damper/damperref1.Tag -/
def F_damperref1_Tag (p0 : ByteArray) (K : Value → PT) : PT :=
  L.ite (decide ((p0.size : Int) ≤ 8)) (
    L.call Pr n_damperref1_Name [.string p0] (.one (.one (.bool))) fun (x1 : Bool) =>
    K (.bool x1)) <|
  K (.bool false)
theorem D_damperref1_Tag (p0 : ByteArray) (K : Value → PT) : denF Pr Dt Tryz.f69 A_damperref1_Tag [.v (.string p0)] K = F_damperref1_Tag p0 K := by kernel_rfl
theorem C_damperref1_Tag (p0 : ByteArray) {K : Value → PT} {w : World} (h : F_damperref1_Tag p0 K w) : Calls Pr n_damperref1_Tag [.string p0].toArray w fun e w2 => ∃ v, e = .returned v ∧ K v w2 :=
  denF_ok Tok (f := 69) (fn := Tryz.f69) (an := A_damperref1_Tag) (args := [.v (.string p0)]) (by kernel_rfl) (by kernel_rfl) ((congrFun (D_damperref1_Tag p0 K) w).mpr h)
theorem E_damperref1_Tag : Enters Pr n_damperref1_Tag := enters_of_B (by kernel_rfl)

def A_damperref4_Put : Ann := (.seq .auto (.seq .auto (.seq (.one [(5, (.one (.int .i64)))] (.seq (.seq .auto (.cond .auto .auto) none) .auto none)) (.seq (.seq .auto (.cond .auto .auto) none) (.seq (.one [(4, (.one (.slice)))] .auto) .auto none) (some [])) (some [(5, (.one (.int .i64)))])) none) none)
/-- damper/damperref4.Put -/
def F_damperref4_Put (p0 : Sl) (p1 : ByteArray) (K : Value → PT) : PT :=
  L.join (Y := Int × Unit) (fun k1 =>
    L.loop (Y := Int × Unit) (0, ()) fun y3 again4 =>
    L.ite (decide (y3.1 < ((p0.len : Nat) : Int))) (
      L.idx p0.a y3.1 p0.len 1 fun a5 =>
      L.load (.one (.str)) a5 fun (x6 : ByteArray) =>
      L.ite (Op.bytesLess x6.toList p1.toList) (
        again4 (IntKind.wrap .i64 (y3.1 + 1), ())) <|
      k1 (y3.1, ())) <|
    k1 (y3.1, ())) fun z2 =>
  L.join (Y := Unit) (fun k7 =>
    L.ite (decide (z2.1 < ((p0.len : Nat) : Int))) (
      L.idx p0.a z2.1 p0.len 1 fun a9 =>
      L.load (.one (.str)) a9 fun (x10 : ByteArray) =>
      L.ite (x10.toList == p1.toList) (
        K (.slice p0.a p0.len p0.cap)) <|
      k7 (())) <|
    k7 (())) fun z8 =>
  L.join (Y := Sl × Unit) (fun k11 =>
    L.draw <|
    L.guard (0 ≤ (0 : Int) ∧ (0 : Int) ≤ z2.1 ∧ z2.1 ≤ ((p0.cap : Nat) : Int) ∧ ((p0.cap : Nat) : Int) ≤ p0.cap) <|
    L.guard (0 ≤ z2.1 ∧ z2.1 ≤ ((p0.len : Nat) : Int) ∧ ((p0.len : Nat) : Int) ≤ ((p0.cap : Nat) : Int) ∧ ((p0.cap : Nat) : Int) ≤ p0.cap) <|
    L.alts [(
        L.new [] T_string fun b13 =>
        L.alts [(
            L.sem Pr (.one (.one .slice)) (Builtin.append_ #[T_s_string, T_s_string] T_s_string #[.slice (some ⟨b13, 0, none⟩) 0 0, .slice (if Int.toNat ((p0.cap : Nat) : Int) = Int.toNat (0 : Int) then p0.a else Option.map (fun a : Addr => a.add (Int.toNat (0 : Int) * 1)) p0.a) (Int.toNat z2.1 - Int.toNat (0 : Int)) (Int.toNat ((p0.cap : Nat) : Int) - Int.toNat (0 : Int))]) fun (s14 : Sl) =>
            L.new [.string p1] T_string fun b15 =>
            L.sem Pr (.one (.one .slice)) (Builtin.append_ #[T_s_string, T_s_string] T_s_string #[.slice s14.a s14.len s14.cap, .slice (some ⟨b15, 0, none⟩) 1 1]) fun (s16 : Sl) =>
            L.sem Pr (.one (.one .slice)) (Builtin.append_ #[T_s_string, T_s_string] T_s_string #[.slice s16.a s16.len s16.cap, .slice (if Int.toNat ((p0.cap : Nat) : Int) = Int.toNat z2.1 then p0.a else Option.map (fun a : Addr => a.add (Int.toNat z2.1 * 1)) p0.a) (Int.toNat ((p0.len : Nat) : Int) - Int.toNat z2.1) (Int.toNat ((p0.cap : Nat) : Int) - Int.toNat z2.1)]) fun (s17 : Sl) =>
            k11 (⟨s17.a, s17.len, s17.cap⟩, ())),(
            L.new [.string p1] T_string fun b18 =>
            L.sem Pr (.one (.one .slice)) (Builtin.append_ #[T_s_string, T_s_string] T_s_string #[.slice (some ⟨b13, 0, none⟩) 0 0, .slice (if Int.toNat ((p0.cap : Nat) : Int) = Int.toNat (0 : Int) then p0.a else Option.map (fun a : Addr => a.add (Int.toNat (0 : Int) * 1)) p0.a) (Int.toNat z2.1 - Int.toNat (0 : Int)) (Int.toNat ((p0.cap : Nat) : Int) - Int.toNat (0 : Int))]) fun (s19 : Sl) =>
            L.sem Pr (.one (.one .slice)) (Builtin.append_ #[T_s_string, T_s_string] T_s_string #[.slice s19.a s19.len s19.cap, .slice (some ⟨b18, 0, none⟩) 1 1]) fun (s20 : Sl) =>
            L.sem Pr (.one (.one .slice)) (Builtin.append_ #[T_s_string, T_s_string] T_s_string #[.slice s20.a s20.len s20.cap, .slice (if Int.toNat ((p0.cap : Nat) : Int) = Int.toNat z2.1 then p0.a else Option.map (fun a : Addr => a.add (Int.toNat z2.1 * 1)) p0.a) (Int.toNat ((p0.len : Nat) : Int) - Int.toNat z2.1) (Int.toNat ((p0.cap : Nat) : Int) - Int.toNat z2.1)]) fun (s21 : Sl) =>
            k11 (⟨s21.a, s21.len, s21.cap⟩, ()))]),(
        L.new [.string p1] T_string fun b22 =>
        L.new [] T_string fun b23 =>
        L.sem Pr (.one (.one .slice)) (Builtin.append_ #[T_s_string, T_s_string] T_s_string #[.slice (some ⟨b23, 0, none⟩) 0 0, .slice (if Int.toNat ((p0.cap : Nat) : Int) = Int.toNat (0 : Int) then p0.a else Option.map (fun a : Addr => a.add (Int.toNat (0 : Int) * 1)) p0.a) (Int.toNat z2.1 - Int.toNat (0 : Int)) (Int.toNat ((p0.cap : Nat) : Int) - Int.toNat (0 : Int))]) fun (s24 : Sl) =>
        L.sem Pr (.one (.one .slice)) (Builtin.append_ #[T_s_string, T_s_string] T_s_string #[.slice s24.a s24.len s24.cap, .slice (some ⟨b22, 0, none⟩) 1 1]) fun (s25 : Sl) =>
        L.sem Pr (.one (.one .slice)) (Builtin.append_ #[T_s_string, T_s_string] T_s_string #[.slice s25.a s25.len s25.cap, .slice (if Int.toNat ((p0.cap : Nat) : Int) = Int.toNat z2.1 then p0.a else Option.map (fun a : Addr => a.add (Int.toNat z2.1 * 1)) p0.a) (Int.toNat ((p0.len : Nat) : Int) - Int.toNat z2.1) (Int.toNat ((p0.cap : Nat) : Int) - Int.toNat z2.1)]) fun (s26 : Sl) =>
        k11 (⟨s26.a, s26.len, s26.cap⟩, ()))]) fun z12 =>
  K (.slice z12.1.a z12.1.len z12.1.cap)
theorem D_damperref4_Put (p0 : Sl) (p1 : ByteArray) (K : Value → PT) : denF Pr Dt Tryz.f70 A_damperref4_Put [.v (.slice p0.a p0.len p0.cap), .v (.string p1)] K = F_damperref4_Put p0 p1 K := by kernel_rfl
theorem C_damperref4_Put (p0 : Sl) (p1 : ByteArray) {K : Value → PT} {w : World} (h : F_damperref4_Put p0 p1 K w) : Calls Pr n_damperref4_Put [.slice p0.a p0.len p0.cap, .string p1].toArray w fun e w2 => ∃ v, e = .returned v ∧ K v w2 :=
  denF_ok Tok (f := 70) (fn := Tryz.f70) (an := A_damperref4_Put) (args := [.v (.slice p0.a p0.len p0.cap), .v (.string p1)]) (by kernel_rfl) (by kernel_rfl) ((congrFun (D_damperref4_Put p0 p1 K) w).mpr h)
theorem E_damperref4_Put : Enters Pr n_damperref4_Put := enters_of_B (by kernel_rfl)

def A_label_short : Ann := (.seq .auto (.seq .auto (.seq (.seq .auto (.one [(5, (.one (.int .i32)))] (.seq .auto (.seq (.cond .auto .auto) (.seq .auto (.seq (.seq .auto (.cond .auto .auto) none) .auto (some [])) none) none) none)) none) .auto none) none) none)
/-- damper/label.short -/
def F_label_short (p0 : ByteArray) (p1 : Int) (K : Value → PT) : PT :=
  L.sem Pr (.one (.one .ptr)) (Instr.range T_string (.string p0)) fun (it1 : Option Addr) =>
  L.loop (Y := Int × Unit) (45, ()) fun y2 again3 =>
  L.next Pr [(.one (.int .i64)), (.one (.int .i32))] (Instr.next (.pointer it1) true T_) (
    L.ite (y2.1 != 45) (
      K (.bool (decide ((p0.size : Int) ≤ p1)))) <|
    K (.bool false)) fun (x4 : Int × Int × Unit) =>
  L.join (Y := Unit) (fun k5 =>
    L.call Pr n_label_sign [.int .i32 x4.2.1] (.one (.one (.bool))) fun (x7 : Bool) =>
    L.ite (!x7) (
      K (.bool false)) <|
    L.ite (x4.1 == 0) (
      L.call Pr n_label_letter [.int .i32 x4.2.1] (.one (.one (.bool))) fun (x8 : Bool) =>
      L.ite (!x8) (
        K (.bool false)) <|
      k5 (())) <|
    k5 (())) fun z6 =>
  again3 (x4.2.1, ())
theorem D_label_short (p0 : ByteArray) (p1 : Int) (K : Value → PT) : denF Pr Dt Tryz.f71 A_label_short [.v (.string p0), .v (.int .i64 p1)] K = F_label_short p0 p1 K := by kernel_rfl
theorem C_label_short (p0 : ByteArray) (p1 : Int) {K : Value → PT} {w : World} (h : F_label_short p0 p1 K w) : Calls Pr n_label_short [.string p0, .int .i64 p1].toArray w fun e w2 => ∃ v, e = .returned v ∧ K v w2 :=
  denF_ok Tok (f := 71) (fn := Tryz.f71) (an := A_label_short) (args := [.v (.string p0), .v (.int .i64 p1)]) (by kernel_rfl) (by kernel_rfl) ((congrFun (D_label_short p0 p1 K) w).mpr h)
theorem E_label_short : Enters Pr n_label_short := enters_of_B (by kernel_rfl)

def A_label_Split : Ann := .auto
/-- damper/label.Split -/
def F_label_Split (p0 : ByteArray) (K : Value → PT) : PT :=
  L.call Pr n_strings_LastIndex [.string p0, .string s__] (.one (.one (.int .i64))) fun (x1 : Int) =>
  L.ite (decide (x1 < 0)) (
    K (.tuple #[.string s_, .int .i64 0, .bool false])) <|
  L.guard ((0 : Int) ≤ (IntKind.wrap .i64 (x1 + 1)) ∧ (IntKind.wrap .i64 (x1 + 1)) ≤ (p0.size : Int) ∧ (p0.size : Int) ≤ p0.size) <|
  L.call Pr n_strconv_Atoi [.string (p0.extract (Int.toNat (IntKind.wrap .i64 (x1 + 1))) (Int.toNat (p0.size : Int)))] (.tup [(.one (.int .i64)), (.one (.iface))]) fun (x2 : Int × Option (TypeId × Value) × Unit) =>
  L.ite (!(x2.2.1).isNone) (
    K (.tuple #[.string s_, .int .i64 0, .bool false])) <|
  L.guard ((0 : Int) ≤ 0 ∧ 0 ≤ x1 ∧ x1 ≤ p0.size) <|
  L.call Pr n_label_Rev [.string (p0.extract (Int.toNat 0) (Int.toNat x1)), .int .i64 x2.1] (.one (.one (.str))) fun (x3 : ByteArray) =>
  L.ite (!(x3.toList == p0.toList)) (
    K (.tuple #[.string s_, .int .i64 0, .bool false])) <|
  L.guard ((0 : Int) ≤ 0 ∧ 0 ≤ x1 ∧ x1 ≤ p0.size) <|
  K (.tuple #[.string (p0.extract (Int.toNat 0) (Int.toNat x1)), .int .i64 x2.1, .bool true])
theorem D_label_Split (p0 : ByteArray) (K : Value → PT) : denF Pr Dt Tryz.f72 A_label_Split [.v (.string p0)] K = F_label_Split p0 K := by kernel_rfl
theorem C_label_Split (p0 : ByteArray) {K : Value → PT} {w : World} (h : F_label_Split p0 K w) : Calls Pr n_label_Split [.string p0].toArray w fun e w2 => ∃ v, e = .returned v ∧ K v w2 :=
  denF_ok Tok (f := 72) (fn := Tryz.f72) (an := A_label_Split) (args := [.v (.string p0)]) (by kernel_rfl) (by kernel_rfl) ((congrFun (D_label_Split p0 K) w).mpr h)
theorem E_label_Split : Enters Pr n_label_Split := enters_of_B (by kernel_rfl)

def A_label_Tag : Ann := .auto
/-- damper/label.Tag -/
def F_label_Tag (p0 : ByteArray) (K : Value → PT) : PT :=
  L.call Pr n_label_short [.string p0, .int .i64 8] (.one (.one (.bool))) fun (x1 : Bool) =>
  K (.bool x1)
theorem D_label_Tag (p0 : ByteArray) (K : Value → PT) : denF Pr Dt Tryz.f73 A_label_Tag [.v (.string p0)] K = F_label_Tag p0 K := by kernel_rfl
theorem C_label_Tag (p0 : ByteArray) {K : Value → PT} {w : World} (h : F_label_Tag p0 K w) : Calls Pr n_label_Tag [.string p0].toArray w fun e w2 => ∃ v, e = .returned v ∧ K v w2 :=
  denF_ok Tok (f := 73) (fn := Tryz.f73) (an := A_label_Tag) (args := [.v (.string p0)]) (by kernel_rfl) (by kernel_rfl) ((congrFun (D_label_Tag p0 K) w).mpr h)
theorem E_label_Tag : Enters Pr n_label_Tag := enters_of_B (by kernel_rfl)

def A_slices_ContainsFunc_api_Target_api_Target : Ann := .auto
/-- slices.ContainsFunc[[]damper/api.Target,damper/api.Target] -/
def F_slices_ContainsFunc_api_Target_api_Target (p0 : Sl) (p1 : FV) (K : Value → PT) : PT :=
  L.call Pr n_slices_IndexFunc_api_Target_api_Target [.slice p0.a p0.len p0.cap, .func p1.fn p1.fs p1.cs] (.one (.one (.int .i64))) fun (x1 : Int) =>
  K (.bool (decide (x1 ≥ 0)))
theorem D_slices_ContainsFunc_api_Target_api_Target (p0 : Sl) (p1 : FV) (K : Value → PT) : denF Pr Dt Tryz.f74 A_slices_ContainsFunc_api_Target_api_Target [.v (.slice p0.a p0.len p0.cap), .v (.func p1.fn p1.fs p1.cs)] K = F_slices_ContainsFunc_api_Target_api_Target p0 p1 K := by kernel_rfl
theorem C_slices_ContainsFunc_api_Target_api_Target (p0 : Sl) (p1 : FV) {K : Value → PT} {w : World} (h : F_slices_ContainsFunc_api_Target_api_Target p0 p1 K w) : Calls Pr n_slices_ContainsFunc_api_Target_api_Target [.slice p0.a p0.len p0.cap, .func p1.fn p1.fs p1.cs].toArray w fun e w2 => ∃ v, e = .returned v ∧ K v w2 :=
  denF_ok Tok (f := 74) (fn := Tryz.f74) (an := A_slices_ContainsFunc_api_Target_api_Target) (args := [.v (.slice p0.a p0.len p0.cap), .v (.func p1.fn p1.fs p1.cs)]) (by kernel_rfl) (by kernel_rfl) ((congrFun (D_slices_ContainsFunc_api_Target_api_Target p0 p1 K) w).mpr h)
theorem E_slices_ContainsFunc_api_Target_api_Target : Enters Pr n_slices_ContainsFunc_api_Target_api_Target := enters_of_B (by kernel_rfl)

def A_spec_all_1 : Ann := .auto
/-- damper/spec.all$1 -/
def F_spec_all_1 (p0 : HT [.str, .str, .int .i64]) (c0 : Addr) (K : Value → PT) : PT :=
  L.new [.string p0.1, .string p0.2.1, .int .i64 p0.2.2.1] T_api_Target fun b1 =>
  L.load (.one (.str)) ((⟨b1, 0, none⟩ : Addr).add 1) fun (x2 : ByteArray) =>
  L.load (.one (.str)) (c0.add 1) fun (x3 : ByteArray) =>
  K (.bool (x2.toList == x3.toList))
theorem D_spec_all_1 (p0 : HT [.str, .str, .int .i64]) (c0 : Addr) (K : Value → PT) : denF Pr Dt Tryz.f75 A_spec_all_1 [.ag [.string p0.1, .string p0.2.1, .int .i64 p0.2.2.1], .v (.pointer (some c0))] K = F_spec_all_1 p0 c0 K := by kernel_rfl
theorem C_spec_all_1 (p0 : HT [.str, .str, .int .i64]) (c0 : Addr) {K : Value → PT} {w : World} (h : F_spec_all_1 p0 c0 K w) : Calls Pr n_spec_all_1 [(.ag [.string p0.1, .string p0.2.1, .int .i64 p0.2.2.1] : SV).toV, .pointer (some c0)].toArray w fun e w2 => ∃ v, e = .returned v ∧ K v w2 :=
  denF_ok Tok (f := 75) (fn := Tryz.f75) (an := A_spec_all_1) (args := [.ag [.string p0.1, .string p0.2.1, .int .i64 p0.2.2.1], .v (.pointer (some c0))]) (by kernel_rfl) (by kernel_rfl) ((congrFun (D_spec_all_1 p0 c0 K) w).mpr h)
theorem E_spec_all_1 : Enters Pr n_spec_all_1 := enters_of_B (by kernel_rfl)

def A_slices_Collect_string : Ann := .auto
/-- slices.Collect[string] -/
def F_slices_Collect_string (p0 : FV) (K : Value → PT) : PT :=
  L.call Pr n_slices_AppendSeq_string_string [.slice none 0 0, .func p0.fn p0.fs p0.cs] (.one (.one (.slice))) fun (x1 : Sl) =>
  K (.slice x1.a x1.len x1.cap)
theorem D_slices_Collect_string (p0 : FV) (K : Value → PT) : denF Pr Dt Tryz.f76 A_slices_Collect_string [.v (.func p0.fn p0.fs p0.cs)] K = F_slices_Collect_string p0 K := by kernel_rfl
theorem C_slices_Collect_string (p0 : FV) {K : Value → PT} {w : World} (h : F_slices_Collect_string p0 K w) : Calls Pr n_slices_Collect_string [.func p0.fn p0.fs p0.cs].toArray w fun e w2 => ∃ v, e = .returned v ∧ K v w2 :=
  denF_ok Tok (f := 76) (fn := Tryz.f76) (an := A_slices_Collect_string) (args := [.v (.func p0.fn p0.fs p0.cs)]) (by kernel_rfl) (by kernel_rfl) ((congrFun (D_slices_Collect_string p0 K) w).mpr h)
theorem E_slices_Collect_string : Enters Pr n_slices_Collect_string := enters_of_B (by kernel_rfl)

def A_maps_Keys_map_string_shelf_thing_api_Config_string_df09 : Ann := (.seq .auto (.one [] (.seq .auto (.seq (.cond .auto .auto) .auto none) none)) none)
/-- maps.Keys[map[string]damper/shelf.thing[damper/api.Config],string,damper/shelf.thing[damper/api.Config]]$1 -/
def F_maps_Keys_map_string_shelf_thing_api_Config_string_df09 (p0 : FV) (c0 : Addr) (K : Value → PT) : PT :=
  L.load (.one (.map)) c0 fun (x1 : Option Nat) =>
  L.sem Pr (.one (.one .ptr)) (Instr.range T_map_string_shelf_thing_api_Config (.map x1)) fun (it2 : Option Addr) =>
  L.loop (Y := Unit) (()) fun y3 again4 =>
  L.next Pr [(.one (.str)), (.agg [.str, .int .i64, .int .i64, .int .i64, .int .i64, .int .i64, .int .i64, .int .i64, .bool])] (Instr.next (.pointer it2) false T_) (
    K (.tuple #[])) fun (x5 : ByteArray × (ByteArray × Int × Int × Int × Int × Int × Int × Int × Bool × Unit) × Unit) =>
  L.sem Pr (.tup [(.one (.str)), (.agg [.str, .int .i64, .int .i64, .int .i64, .int .i64, .int .i64, .int .i64, .int .i64, .bool])]) (Instr.entry (.pointer it2)) fun (x6 : ByteArray × (ByteArray × Int × Int × Int × Int × Int × Int × Int × Bool × Unit) × Unit) =>
  L.callV Pr (.func p0.fn p0.fs p0.cs) [.string x6.1] (.one (.one (.bool))) fun (x7 : Bool) =>
  L.ite (!x7) (
    K (.tuple #[])) <|
  again4 (())
theorem D_maps_Keys_map_string_shelf_thing_api_Config_string_df09 (p0 : FV) (c0 : Addr) (K : Value → PT) : denF Pr Dt Tryz.f78 A_maps_Keys_map_string_shelf_thing_api_Config_string_df09 [.v (.func p0.fn p0.fs p0.cs), .v (.pointer (some c0))] K = F_maps_Keys_map_string_shelf_thing_api_Config_string_df09 p0 c0 K := by kernel_rfl
theorem C_maps_Keys_map_string_shelf_thing_api_Config_string_df09 (p0 : FV) (c0 : Addr) {K : Value → PT} {w : World} (h : F_maps_Keys_map_string_shelf_thing_api_Config_string_df09 p0 c0 K w) : Calls Pr n_maps_Keys_map_string_shelf_thing_api_Config_string_df09 [.func p0.fn p0.fs p0.cs, .pointer (some c0)].toArray w fun e w2 => ∃ v, e = .returned v ∧ K v w2 :=
  denF_ok Tok (f := 78) (fn := Tryz.f78) (an := A_maps_Keys_map_string_shelf_thing_api_Config_string_df09) (args := [.v (.func p0.fn p0.fs p0.cs), .v (.pointer (some c0))]) (by kernel_rfl) (by kernel_rfl) ((congrFun (D_maps_Keys_map_string_shelf_thing_api_Config_string_df09 p0 c0 K) w).mpr h)
theorem E_maps_Keys_map_string_shelf_thing_api_Config_string_df09 : Enters Pr n_maps_Keys_map_string_shelf_thing_api_Config_string_df09 := enters_of_B (by kernel_rfl)

def A_maps_Keys_map_string_shelf_thing_api_Route_string__801b : Ann := (.seq .auto (.one [] (.seq .auto (.seq (.cond .auto .auto) .auto none) none)) none)
/-- maps.Keys[map[string]damper/shelf.thing[damper/api.Route],string,damper/shelf.thing[damper/api.Route]]$1 -/
def F_maps_Keys_map_string_shelf_thing_api_Route_string__801b (p0 : FV) (c0 : Addr) (K : Value → PT) : PT :=
  L.load (.one (.map)) c0 fun (x1 : Option Nat) =>
  L.sem Pr (.one (.one .ptr)) (Instr.range T_map_string_shelf_thing_api_Route (.map x1)) fun (it2 : Option Addr) =>
  L.loop (Y := Unit) (()) fun y3 again4 =>
  L.next Pr [(.one (.str)), (.agg [.str, .str, .slice, .int .i64, .int .i64, .int .i64, .bool])] (Instr.next (.pointer it2) false T_) (
    K (.tuple #[])) fun (x5 : ByteArray × (ByteArray × ByteArray × Sl × Int × Int × Int × Bool × Unit) × Unit) =>
  L.sem Pr (.tup [(.one (.str)), (.agg [.str, .str, .slice, .int .i64, .int .i64, .int .i64, .bool])]) (Instr.entry (.pointer it2)) fun (x6 : ByteArray × (ByteArray × ByteArray × Sl × Int × Int × Int × Bool × Unit) × Unit) =>
  L.callV Pr (.func p0.fn p0.fs p0.cs) [.string x6.1] (.one (.one (.bool))) fun (x7 : Bool) =>
  L.ite (!x7) (
    K (.tuple #[])) <|
  again4 (())
theorem D_maps_Keys_map_string_shelf_thing_api_Route_string__801b (p0 : FV) (c0 : Addr) (K : Value → PT) : denF Pr Dt Tryz.f79 A_maps_Keys_map_string_shelf_thing_api_Route_string__801b [.v (.func p0.fn p0.fs p0.cs), .v (.pointer (some c0))] K = F_maps_Keys_map_string_shelf_thing_api_Route_string__801b p0 c0 K := by kernel_rfl
theorem C_maps_Keys_map_string_shelf_thing_api_Route_string__801b (p0 : FV) (c0 : Addr) {K : Value → PT} {w : World} (h : F_maps_Keys_map_string_shelf_thing_api_Route_string__801b p0 c0 K w) : Calls Pr n_maps_Keys_map_string_shelf_thing_api_Route_string__801b [.func p0.fn p0.fs p0.cs, .pointer (some c0)].toArray w fun e w2 => ∃ v, e = .returned v ∧ K v w2 :=
  denF_ok Tok (f := 79) (fn := Tryz.f79) (an := A_maps_Keys_map_string_shelf_thing_api_Route_string__801b) (args := [.v (.func p0.fn p0.fs p0.cs), .v (.pointer (some c0))]) (by kernel_rfl) (by kernel_rfl) ((congrFun (D_maps_Keys_map_string_shelf_thing_api_Route_string__801b p0 c0 K) w).mpr h)
theorem E_maps_Keys_map_string_shelf_thing_api_Route_string__801b : Enters Pr n_maps_Keys_map_string_shelf_thing_api_Route_string__801b := enters_of_B (by kernel_rfl)

def A_damperref1_sign : Ann := .auto
/-- damper/damperref1.sign -/
def F_damperref1_sign (p0 : Int) (K : Value → PT) : PT :=
  L.ite (decide (p0 ≥ 97)) (
    L.ite (decide (p0 ≤ 122)) (
      K (.bool true)) <|
    L.ite (decide (p0 ≥ 48)) (
      L.ite (decide (p0 ≤ 57)) (
        K (.bool true)) <|
      K (.bool (p0 == 45))) <|
    K (.bool (p0 == 45))) <|
  L.ite (decide (p0 ≥ 48)) (
    L.ite (decide (p0 ≤ 57)) (
      K (.bool true)) <|
    K (.bool (p0 == 45))) <|
  K (.bool (p0 == 45))
theorem D_damperref1_sign (p0 : Int) (K : Value → PT) : denF Pr Dt Tryz.f80 A_damperref1_sign [.v (.int .u8 p0)] K = F_damperref1_sign p0 K := by kernel_rfl
theorem C_damperref1_sign (p0 : Int) {K : Value → PT} {w : World} (h : F_damperref1_sign p0 K w) : Calls Pr n_damperref1_sign [.int .u8 p0].toArray w fun e w2 => ∃ v, e = .returned v ∧ K v w2 :=
  denF_ok Tok (f := 80) (fn := Tryz.f80) (an := A_damperref1_sign) (args := [.v (.int .u8 p0)]) (by kernel_rfl) (by kernel_rfl) ((congrFun (D_damperref1_sign p0 K) w).mpr h)
theorem E_damperref1_sign : Enters Pr n_damperref1_sign := enters_of_B (by kernel_rfl)

def A_damperref1_Split : Ann := (.seq .auto (.seq .auto (.seq .auto (.seq (.one [(5, (.one (.int .i64))), (6, (.one (.int .i64))), (7, (.one (.int .i64)))] (.seq (.seq .auto (.cond .auto .auto) none) .auto none)) .auto (some [(5, (.one (.int .i64))), (6, (.one (.int .i64)))])) none) none) none)
/-- damper/damperref1.Split -/
def F_damperref1_Split (p0 : ByteArray) (K : Value → PT) : PT :=
  L.join (Y := Int × Int × Unit) (fun k1 =>
    L.loop (Y := Int × Int × Int × Unit) ((p0.size : Int), 0, 1, ()) fun y3 again4 =>
    L.ite (decide (y3.1 > 0)) (
      L.guard ((0 : Int) ≤ (IntKind.wrap .i64 (y3.1 - 1)) ∧ (IntKind.wrap .i64 (y3.1 - 1)) < p0.size) <|
      L.ite (decide ((byteAt p0 (IntKind.wrap .i64 (y3.1 - 1))) ≥ 48)) (
        L.guard ((0 : Int) ≤ (IntKind.wrap .i64 (y3.1 - 1)) ∧ (IntKind.wrap .i64 (y3.1 - 1)) < p0.size) <|
        L.ite (decide ((byteAt p0 (IntKind.wrap .i64 (y3.1 - 1))) ≤ 57)) (
          L.ite (decide (y3.2.2.1 ≤ 999999)) (
            L.guard ((0 : Int) ≤ (IntKind.wrap .i64 (y3.1 - 1)) ∧ (IntKind.wrap .i64 (y3.1 - 1)) < p0.size) <|
            again4 (IntKind.wrap .i64 (y3.1 - 1), IntKind.wrap .i64 (y3.2.1 + (IntKind.wrap .i64 (y3.2.2.1 * (IntKind.wrap .i64 (IntKind.wrap .u8 ((byteAt p0 (IntKind.wrap .i64 (y3.1 - 1))) - 48)))))), IntKind.wrap .i64 (y3.2.2.1 * 10), ())) <|
          k1 (y3.1, y3.2.1, ())) <|
        k1 (y3.1, y3.2.1, ())) <|
      k1 (y3.1, y3.2.1, ())) <|
    k1 (y3.1, y3.2.1, ())) fun z2 =>
  L.ite (decide (z2.1 < 1)) (
    K (.tuple #[.string s_, .int .i64 0, .bool false])) <|
  L.ite (z2.1 == (p0.size : Int)) (
    K (.tuple #[.string s_, .int .i64 0, .bool false])) <|
  L.guard ((0 : Int) ≤ (IntKind.wrap .i64 (z2.1 - 1)) ∧ (IntKind.wrap .i64 (z2.1 - 1)) < p0.size) <|
  L.ite ((byteAt p0 (IntKind.wrap .i64 (z2.1 - 1))) != 45) (
    K (.tuple #[.string s_, .int .i64 0, .bool false])) <|
  L.guard ((0 : Int) ≤ z2.1 ∧ z2.1 < p0.size) <|
  L.ite ((byteAt p0 z2.1) == 48) (
    K (.tuple #[.string s_, .int .i64 0, .bool false])) <|
  L.guard ((0 : Int) ≤ 0 ∧ 0 ≤ (IntKind.wrap .i64 (z2.1 - 1)) ∧ (IntKind.wrap .i64 (z2.1 - 1)) ≤ p0.size) <|
  L.call Pr n_damperref1_Name [.string (p0.extract (Int.toNat 0) (Int.toNat (IntKind.wrap .i64 (z2.1 - 1))))] (.one (.one (.bool))) fun (x5 : Bool) =>
  L.ite (!x5) (
    K (.tuple #[.string s_, .int .i64 0, .bool false])) <|
  L.guard ((0 : Int) ≤ 0 ∧ 0 ≤ (IntKind.wrap .i64 (z2.1 - 1)) ∧ (IntKind.wrap .i64 (z2.1 - 1)) ≤ p0.size) <|
  K (.tuple #[.string (p0.extract (Int.toNat 0) (Int.toNat (IntKind.wrap .i64 (z2.1 - 1)))), .int .i64 z2.2.1, .bool true])
theorem D_damperref1_Split (p0 : ByteArray) (K : Value → PT) : denF Pr Dt Tryz.f81 A_damperref1_Split [.v (.string p0)] K = F_damperref1_Split p0 K := by kernel_rfl
theorem C_damperref1_Split (p0 : ByteArray) {K : Value → PT} {w : World} (h : F_damperref1_Split p0 K w) : Calls Pr n_damperref1_Split [.string p0].toArray w fun e w2 => ∃ v, e = .returned v ∧ K v w2 :=
  denF_ok Tok (f := 81) (fn := Tryz.f81) (an := A_damperref1_Split) (args := [.v (.string p0)]) (by kernel_rfl) (by kernel_rfl) ((congrFun (D_damperref1_Split p0 K) w).mpr h)
theorem E_damperref1_Split : Enters Pr n_damperref1_Split := enters_of_B (by kernel_rfl)

def A_label_sign : Ann := .auto
/-- damper/label.sign -/
def F_label_sign (p0 : Int) (K : Value → PT) : PT :=
  L.call Pr n_label_letter [.int .i32 p0] (.one (.one (.bool))) fun (x1 : Bool) =>
  L.ite x1 (
    K (.bool true)) <|
  L.ite (decide (p0 ≥ 48)) (
    L.ite (decide (p0 ≤ 57)) (
      K (.bool true)) <|
    K (.bool (p0 == 45))) <|
  K (.bool (p0 == 45))
theorem D_label_sign (p0 : Int) (K : Value → PT) : denF Pr Dt Tryz.f82 A_label_sign [.v (.int .i32 p0)] K = F_label_sign p0 K := by kernel_rfl
theorem C_label_sign (p0 : Int) {K : Value → PT} {w : World} (h : F_label_sign p0 K w) : Calls Pr n_label_sign [.int .i32 p0].toArray w fun e w2 => ∃ v, e = .returned v ∧ K v w2 :=
  denF_ok Tok (f := 82) (fn := Tryz.f82) (an := A_label_sign) (args := [.v (.int .i32 p0)]) (by kernel_rfl) (by kernel_rfl) ((congrFun (D_label_sign p0 K) w).mpr h)
theorem E_label_sign : Enters Pr n_label_sign := enters_of_B (by kernel_rfl)

def A_label_letter : Ann := .auto
/-- damper/label.letter -/
def F_label_letter (p0 : Int) (K : Value → PT) : PT :=
  L.ite (decide (p0 ≥ 97)) (
    K (.bool (decide (p0 ≤ 122)))) <|
  K (.bool false)
theorem D_label_letter (p0 : Int) (K : Value → PT) : denF Pr Dt Tryz.f83 A_label_letter [.v (.int .i32 p0)] K = F_label_letter p0 K := by kernel_rfl
theorem C_label_letter (p0 : Int) {K : Value → PT} {w : World} (h : F_label_letter p0 K w) : Calls Pr n_label_letter [.int .i32 p0].toArray w fun e w2 => ∃ v, e = .returned v ∧ K v w2 :=
  denF_ok Tok (f := 83) (fn := Tryz.f83) (an := A_label_letter) (args := [.v (.int .i32 p0)]) (by kernel_rfl) (by kernel_rfl) ((congrFun (D_label_letter p0 K) w).mpr h)
theorem E_label_letter : Enters Pr n_label_letter := enters_of_B (by kernel_rfl)

def A_label_Rev : Ann := .auto
/-- damper/label.Rev -/
def F_label_Rev (p0 : ByteArray) (p1 : Int) (K : Value → PT) : PT :=
  L.call Pr n_label_Name [.string p0] (.one (.one (.bool))) fun (x1 : Bool) =>
  L.ite (!x1) (
    K (.string s_)) <|
  L.ite (decide (p1 < 1)) (
    K (.string s_)) <|
  L.ite (decide (p1 > 999999)) (
    K (.string s_)) <|
  L.guard (((p0.size + s__.size : Nat) : Int) ≤ maxI64) <|
  L.call Pr n_strconv_Itoa [.int .i64 p1] (.one (.one (.str))) fun (x2 : ByteArray) =>
  L.guard ((((p0 ++ s__).size + x2.size : Nat) : Int) ≤ maxI64) <|
  K (.string ((p0 ++ s__) ++ x2))
theorem D_label_Rev (p0 : ByteArray) (p1 : Int) (K : Value → PT) : denF Pr Dt Tryz.f86 A_label_Rev [.v (.string p0), .v (.int .i64 p1)] K = F_label_Rev p0 p1 K := by kernel_rfl
theorem C_label_Rev (p0 : ByteArray) (p1 : Int) {K : Value → PT} {w : World} (h : F_label_Rev p0 p1 K w) : Calls Pr n_label_Rev [.string p0, .int .i64 p1].toArray w fun e w2 => ∃ v, e = .returned v ∧ K v w2 :=
  denF_ok Tok (f := 86) (fn := Tryz.f86) (an := A_label_Rev) (args := [.v (.string p0), .v (.int .i64 p1)]) (by kernel_rfl) (by kernel_rfl) ((congrFun (D_label_Rev p0 p1 K) w).mpr h)
theorem E_label_Rev : Enters Pr n_label_Rev := enters_of_B (by kernel_rfl)

def A_slices_IndexFunc_api_Target_api_Target : Ann := (.seq .auto (.seq (.seq .auto (.one [(8, (.one (.int .i64)))] .auto) none) .auto none) none)
/-- slices.IndexFunc[[]damper/api.Target,damper/api.Target] -/
def F_slices_IndexFunc_api_Target_api_Target (p0 : Sl) (p1 : FV) (K : Value → PT) : PT :=
  L.loop (Y := Int × Unit) (0, ()) fun y1 again2 =>
  L.ite (decide (y1.1 < ((p0.len : Nat) : Int))) (
    L.idx p0.a y1.1 p0.len 3 fun a3 =>
    L.load (.agg [.str, .str, .int .i64]) a3 fun (x4 : ByteArray × ByteArray × Int × Unit) =>
    L.callV Pr (.func p1.fn p1.fs p1.cs) [.agg #[.string x4.1, .string x4.2.1, .int .i64 x4.2.2.1]] (.one (.one (.bool))) fun (x5 : Bool) =>
    L.ite x5 (
      K (.int .i64 y1.1)) <|
    again2 (IntKind.wrap .i64 (y1.1 + 1), ())) <|
  K (.int .i64 (-1))
theorem D_slices_IndexFunc_api_Target_api_Target (p0 : Sl) (p1 : FV) (K : Value → PT) : denF Pr Dt Tryz.f87 A_slices_IndexFunc_api_Target_api_Target [.v (.slice p0.a p0.len p0.cap), .v (.func p1.fn p1.fs p1.cs)] K = F_slices_IndexFunc_api_Target_api_Target p0 p1 K := by kernel_rfl
theorem C_slices_IndexFunc_api_Target_api_Target (p0 : Sl) (p1 : FV) {K : Value → PT} {w : World} (h : F_slices_IndexFunc_api_Target_api_Target p0 p1 K w) : Calls Pr n_slices_IndexFunc_api_Target_api_Target [.slice p0.a p0.len p0.cap, .func p1.fn p1.fs p1.cs].toArray w fun e w2 => ∃ v, e = .returned v ∧ K v w2 :=
  denF_ok Tok (f := 87) (fn := Tryz.f87) (an := A_slices_IndexFunc_api_Target_api_Target) (args := [.v (.slice p0.a p0.len p0.cap), .v (.func p1.fn p1.fs p1.cs)]) (by kernel_rfl) (by kernel_rfl) ((congrFun (D_slices_IndexFunc_api_Target_api_Target p0 p1 K) w).mpr h)
theorem E_slices_IndexFunc_api_Target_api_Target : Enters Pr n_slices_IndexFunc_api_Target_api_Target := enters_of_B (by kernel_rfl)

def A_slices_AppendSeq_string_string : Ann := (.seq .auto (.seq (.seq .auto (.seq .auto .auto (some [(7, (.one (.str)))])) none) .auto none) none)
/-- slices.AppendSeq[[]string,string] -/
def F_slices_AppendSeq_string_string (p0 : Sl) (p1 : FV) (K : Value → PT) : PT :=
  L.new [.slice p0.a p0.len p0.cap] T_s_string fun b1 =>
  L.range Pr none (.func p1.fn p1.fs p1.cs) [(.one (.str))] (fun l2 (y3 : ByteArray × Unit) R4 =>
    L.begin Pr l2 <|
    L.load (.one (.slice)) (⟨b1, 0, none⟩) fun (x7 : Sl) =>
    L.new [.string y3.1] T_string fun b8 =>
    L.sem Pr (.one (.one .slice)) (Builtin.append_ #[T_s_string, T_s_string] T_s_string #[.slice x7.a x7.len x7.cap, .slice (some ⟨b8, 0, none⟩) 1 1]) fun (s9 : Sl) =>
    L.store (⟨b1, 0, none⟩) [.slice s9.a s9.len s9.cap] <|
    L.endRound Pr l2 none R4) fun d5 j6 =>
  L.jump j6 (
    L.load (.one (.slice)) (⟨b1, 0, none⟩) fun (x10 : Sl) =>
    L.unmark Pr (d5 ++ []) <|
    K (.slice x10.a x10.len x10.cap)) (
    L.unmark Pr (d5 ++ []) <|
    K (.slice none 0 0)) []
theorem D_slices_AppendSeq_string_string (p0 : Sl) (p1 : FV) (K : Value → PT) : denF Pr Dt Tryz.f88 A_slices_AppendSeq_string_string [.v (.slice p0.a p0.len p0.cap), .v (.func p1.fn p1.fs p1.cs)] K = F_slices_AppendSeq_string_string p0 p1 K := by kernel_rfl
theorem C_slices_AppendSeq_string_string (p0 : Sl) (p1 : FV) {K : Value → PT} {w : World} (h : F_slices_AppendSeq_string_string p0 p1 K w) : Calls Pr n_slices_AppendSeq_string_string [.slice p0.a p0.len p0.cap, .func p1.fn p1.fs p1.cs].toArray w fun e w2 => ∃ v, e = .returned v ∧ K v w2 :=
  denF_ok Tok (f := 88) (fn := Tryz.f88) (an := A_slices_AppendSeq_string_string) (args := [.v (.slice p0.a p0.len p0.cap), .v (.func p1.fn p1.fs p1.cs)]) (by kernel_rfl) (by kernel_rfl) ((congrFun (D_slices_AppendSeq_string_string p0 p1 K) w).mpr h)
theorem E_slices_AppendSeq_string_string : Enters Pr n_slices_AppendSeq_string_string := enters_of_B (by kernel_rfl)

def A_errors_New : Ann := .auto
/-- errors.New -/
def F_errors_New (p0 : ByteArray) (K : Value → PT) : PT :=
  L.new [.string p0] T_errors_errorString fun b1 =>
  K (.iface T_p_errors_errorString (.pointer (some (⟨b1, 0, none⟩))))
theorem D_errors_New (p0 : ByteArray) (K : Value → PT) : denF Pr Dt Tryz.f122 A_errors_New [.v (.string p0)] K = F_errors_New p0 K := by kernel_rfl
theorem C_errors_New (p0 : ByteArray) {K : Value → PT} {w : World} (h : F_errors_New p0 K w) : Calls Pr n_errors_New [.string p0].toArray w fun e w2 => ∃ v, e = .returned v ∧ K v w2 :=
  denF_ok Tok (f := 122) (fn := Tryz.f122) (an := A_errors_New) (args := [.v (.string p0)]) (by kernel_rfl) (by kernel_rfl) ((congrFun (D_errors_New p0 K) w).mpr h)
theorem E_errors_New : Enters Pr n_errors_New := enters_of_B (by kernel_rfl)

end Go.Proofs.YtpnbgpolbjbhpaaGreatDoor
