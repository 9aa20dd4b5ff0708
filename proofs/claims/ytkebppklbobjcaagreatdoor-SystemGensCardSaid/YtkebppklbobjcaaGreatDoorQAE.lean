/- What is proved on the way to a statement of the seat, pressed (text AE). No conditions beyond those its theorems state. -/
import Derived.Test.YtkebppklbobjcaaGreatDoorQAD
set_option linter.all false
namespace Go.Proofs.YtkebppklbobjcaaGreatDoor
set_option maxRecDepth 100000
open Go.Dm
theorem D_system_lines (p0 : Sl) (K : Value → PT) : denF Pr Dt Tryz.f135 A_system_lines [.v (.slice p0.a p0.len p0.cap)] K = F_system_lines p0 K := by kernel_rfl
theorem C_system_lines (p0 : Sl) {K : Value → PT} {w : World} (h : F_system_lines p0 K w) : Calls Pr n_system_lines [.slice p0.a p0.len p0.cap].toArray w fun e w2 => ∃ v, e = .returned v ∧ K v w2 :=
  denF_ok Tok (f := 135) (fn := Tryz.f135) (an := A_system_lines) (args := [.v (.slice p0.a p0.len p0.cap)]) (by kernel_rfl) (by kernel_rfl) ((congrFun (D_system_lines p0 K) w).mpr h)
def A_wait_Line_All : Ann := (.seq .auto (.seq .auto (.seq (.seq .auto (.seq .auto .auto (some [(12, (.one (.int .i64))), (13, (.one (.int .i64)))])) none) .auto none) none) none)
def F_wait_Line_All (p0 : Option Addr) (K : Value → PT) : PT :=
 L.call Pr n_wait_Line_Len [.pointer p0] (.one (.one (.int .i64))) fun (x1 : Int) =>
 L.sem Pr (.one (.one .slice)) (Instr.makeSlice T_s_int (.int .i64 0) (.int .i64 x1)) fun (s2 : Sl) =>
 L.new [.slice none 0 0] T_s_int fun b3 =>
 L.store (⟨b3, 0, none⟩) [.slice s2.a s2.len s2.cap] <|
 L.nonnil p0 fun a4 =>
 L.call Pr n_wait_row_int_each [.pointer (some (a4.add 0))] (.one (.one (.func))) fun (x5 : FV) =>
 L.range Pr none (.func x5.fn x5.fs x5.cs) [(.one (.int .i64)), (.one (.int .i64))] (fun l6 (y7 : Int × Int × Unit) R8 =>
  L.begin Pr l6 <|
  L.load (.one (.slice)) (⟨b3, 0, none⟩) fun (x11 : Sl) =>
  L.new [.int .i64 y7.1] T_int fun b12 =>
  L.sem Pr (.one (.one .slice)) (Builtin.append_ #[T_s_int, T_s_int] T_s_int #[.slice x11.a x11.len x11.cap, .slice (some ⟨b12, 0, none⟩) 1 1]) fun (s13 : Sl) =>
  L.store (⟨b3, 0, none⟩) [.slice s13.a s13.len s13.cap] <|
  L.endRound Pr l6 none R8) fun d9 j10 =>
 L.jump j10 (
  L.load (.one (.slice)) (⟨b3, 0, none⟩) fun (x14 : Sl) =>
  L.unmark Pr (d9 ++ []) <|
  K (.slice x14.a x14.len x14.cap)) (
  L.unmark Pr (d9 ++ []) <|
  K (.slice none 0 0)) []
theorem D_wait_Line_All (p0 : Option Addr) (K : Value → PT) : denF Pr Dt Tryz.f138 A_wait_Line_All [.v (.pointer p0)] K = F_wait_Line_All p0 K := by kernel_rfl
theorem C_wait_Line_All (p0 : Option Addr) {K : Value → PT} {w : World} (h : F_wait_Line_All p0 K w) : Calls Pr n_wait_Line_All [.pointer p0].toArray w fun e w2 => ∃ v, e = .returned v ∧ K v w2 :=
  denF_ok Tok (f := 138) (fn := Tryz.f138) (an := A_wait_Line_All) (args := [.v (.pointer p0)]) (by kernel_rfl) (by kernel_rfl) ((congrFun (D_wait_Line_All p0 K) w).mpr h)
def A_slices_Clone_gate_Fate_gate_Fate : Ann := .auto
def F_slices_Clone_gate_Fate_gate_Fate (p0 : Sl) (K : Value → PT) : PT :=
 L.ite ((p0.a).isNone) (
  K (.slice none 0 0)) <|
 L.new [] T_gate_Fate fun b1 =>
 L.sem Pr (.one (.one .slice)) (Builtin.append_ #[T_s_gate_Fate, T_s_gate_Fate] T_s_gate_Fate #[.slice (some ⟨b1, 0, none⟩) 0 0, .slice p0.a p0.len p0.cap]) fun (s2 : Sl) =>
 K (.slice s2.a s2.len s2.cap)
theorem D_slices_Clone_gate_Fate_gate_Fate (p0 : Sl) (K : Value → PT) : denF Pr Dt Tryz.f140 A_slices_Clone_gate_Fate_gate_Fate [.v (.slice p0.a p0.len p0.cap)] K = F_slices_Clone_gate_Fate_gate_Fate p0 K := by kernel_rfl
theorem C_slices_Clone_gate_Fate_gate_Fate (p0 : Sl) {K : Value → PT} {w : World} (h : F_slices_Clone_gate_Fate_gate_Fate p0 K w) : Calls Pr n_slices_Clone_gate_Fate_gate_Fate [.slice p0.a p0.len p0.cap].toArray w fun e w2 => ∃ v, e = .returned v ∧ K v w2 :=
  denF_ok Tok (f := 140) (fn := Tryz.f140) (an := A_slices_Clone_gate_Fate_gate_Fate) (args := [.v (.slice p0.a p0.len p0.cap)]) (by kernel_rfl) (by kernel_rfl) ((congrFun (D_slices_Clone_gate_Fate_gate_Fate p0 K) w).mpr h)
def A_gate_book_wait_Line_each : Ann := .auto
def F_gate_book_wait_Line_each (p0 : Option Addr) (K : Value → PT) : PT :=
 L.new [.pointer p0] T_p_gate_book_p_wait_Line fun b1 =>
 K (.func (.func n_gate_book_wait_Line_each_1) #[] #[.pointer (some (⟨b1, 0, none⟩))])
theorem D_gate_book_wait_Line_each (p0 : Option Addr) (K : Value → PT) : denF Pr Dt Tryz.f143 A_gate_book_wait_Line_each [.v (.pointer p0)] K = F_gate_book_wait_Line_each p0 K := by kernel_rfl
theorem C_gate_book_wait_Line_each (p0 : Option Addr) {K : Value → PT} {w : World} (h : F_gate_book_wait_Line_each p0 K w) : Calls Pr n_gate_book_wait_Line_each [.pointer p0].toArray w fun e w2 => ∃ v, e = .returned v ∧ K v w2 :=
  denF_ok Tok (f := 143) (fn := Tryz.f143) (an := A_gate_book_wait_Line_each) (args := [.v (.pointer p0)]) (by kernel_rfl) (by kernel_rfl) ((congrFun (D_gate_book_wait_Line_each p0 K) w).mpr h)
def A_wait_Line_Late : Ann := .auto
def F_wait_Line_Late (p0 : Option Addr) (p1 : Int) (K : Value → PT) : PT :=
 L.nonnil p0 fun a1 =>
 L.call Pr n_wait_row_int_part [.pointer (some (a1.add 0)), .int .i64 p1] (.one (.one (.slice))) fun (x2 : Sl) =>
 K (.slice x2.a x2.len x2.cap)
theorem D_wait_Line_Late (p0 : Option Addr) (p1 : Int) (K : Value → PT) : denF Pr Dt Tryz.f144 A_wait_Line_Late [.v (.pointer p0), .v (.int .i64 p1)] K = F_wait_Line_Late p0 p1 K := by kernel_rfl
theorem C_wait_Line_Late (p0 : Option Addr) (p1 : Int) {K : Value → PT} {w : World} (h : F_wait_Line_Late p0 p1 K w) : Calls Pr n_wait_Line_Late [.pointer p0, .int .i64 p1].toArray w fun e w2 => ∃ v, e = .returned v ∧ K v w2 :=
  denF_ok Tok (f := 144) (fn := Tryz.f144) (an := A_wait_Line_Late) (args := [.v (.pointer p0), .v (.int .i64 p1)]) (by kernel_rfl) (by kernel_rfl) ((congrFun (D_wait_Line_Late p0 p1 K) w).mpr h)
def A_gauge_ring_int_add : Ann := .auto
def F_gauge_ring_int_add (p0 : Option Addr) (p1 : Int) (K : Value → PT) : PT :=
 L.draw <|
 L.nonnil p0 fun a1 =>
 L.load (.one (.int .i64)) (a1.add 60) fun (x2 : Int) =>
 L.guard (60 ≠ (0 : Int)) <|
 L.nonnil p0 fun a3 =>
 L.idx (some (a3.add 0)) (Int.tmod x2 60) 60 1 fun a4 =>
 L.store a4 [.int .i64 p1] <|
 L.nonnil p0 fun a5 =>
 L.load (.one (.int .i64)) (a5.add 60) fun (x6 : Int) =>
 L.nonnil p0 fun a7 =>
 L.store (a7.add 60) [.int .i64 (IntKind.wrap .i64 (x6 + 1))] <|
 K (.tuple #[])
theorem D_gauge_ring_int_add (p0 : Option Addr) (p1 : Int) (K : Value → PT) : denF Pr Dt Tryz.f145 A_gauge_ring_int_add [.v (.pointer p0), .v (.int .i64 p1)] K = F_gauge_ring_int_add p0 p1 K := by kernel_rfl
theorem C_gauge_ring_int_add (p0 : Option Addr) (p1 : Int) {K : Value → PT} {w : World} (h : F_gauge_ring_int_add p0 p1 K w) : Calls Pr n_gauge_ring_int_add [.pointer p0, .int .i64 p1].toArray w fun e w2 => ∃ v, e = .returned v ∧ K v w2 :=
  denF_ok Tok (f := 145) (fn := Tryz.f145) (an := A_gauge_ring_int_add) (args := [.v (.pointer p0), .v (.int .i64 p1)]) (by kernel_rfl) (by kernel_rfl) ((congrFun (D_gauge_ring_int_add p0 p1 K) w).mpr h)
def A_gate_Gate_Inside : Ann := (.seq .auto (.seq (.seq .auto (.one [(5, (.one (.slice)))] (.seq .auto (.seq (.cond .auto .auto) .auto none) none)) none) (.seq .auto (.seq .auto .auto (some [(4, (.one (.slice)))])) none) none) none)
def F_gate_Gate_Inside (p0 : Option Addr) (p1 : ByteArray) (K : Value → PT) : PT :=
 L.nonnil p0 fun a1 =>
 L.load (.one (.map)) (a1.add 1) fun (x2 : Option Nat) =>
 L.sem Pr (.one (.one .ptr)) (Instr.range T_map_int_gate_request (.map x2)) fun (it3 : Option Addr) =>
 L.loop (Y := Sl × Unit) (⟨none, 0, 0⟩, ()) fun y4 again5 =>
 L.next Pr [(.one (.int .i64)), (.agg [.str, .int .i64])] (Instr.next (.pointer it3) false T_) (
  L.call Pr n_slices_Sort_int_int [.slice y4.1.a y4.1.len y4.1.cap] (.tup []) fun (x7 : Unit) =>
  L.join (Y := Sl × Unit) (fun k8 =>
   L.nonnil p0 fun a10 =>
   L.load (.one (.map)) ((a10.add 2).add 0) fun (x11 : Option Nat) =>
   L.semR Pr (.tup [(.one (.ptr)), .one .bool]) (Instr.lookup T_map_string_p_wait_Line (.map x11) (.string p1) true) fun (x12 : Option Addr × Bool × Unit) =>
   L.ite x12.2.1 (
    L.call Pr n_wait_Line_All [.pointer x12.1] (.one (.one (.slice))) fun (x13 : Sl) =>
    k8 (⟨x13.a, x13.len, x13.cap⟩, ())) <|
   k8 (⟨none, 0, 0⟩, ())) fun z9 =>
  L.call Pr n_slices_Clone_int_int [.slice y4.1.a y4.1.len y4.1.cap] (.one (.one (.slice))) fun (x14 : Sl) =>
  K (.tuple #[.slice z9.1.a z9.1.len z9.1.cap, .slice x14.a x14.len x14.cap])) fun (x6 : Int × (ByteArray × Int × Unit) × Unit) =>
 L.sem Pr (.tup [(.one (.int .i64)), (.agg [.str, .int .i64])]) (Instr.entry (.pointer it3)) fun (x15 : Int × (ByteArray × Int × Unit) × Unit) =>
 L.new [.string s_, .int .i64 0] T_gate_request fun b16 =>
 L.store (⟨b16, 0, none⟩) [.string x15.2.1.1, .int .i64 x15.2.1.2.1] <|
 L.load (.agg [.str, .int .i64]) (⟨b16, 0, none⟩) fun (x17 : ByteArray × Int × Unit) =>
 L.chkSem Pr (do eqGuard .eql T_gate_request (.tmp 0) (.tmp 0) (.agg #[.string x17.1, .int .i64 x17.2.1]) (.agg #[.string p1, .int .i64 1]); binOp .eql T_gate_request (.agg #[.string x17.1, .int .i64 x17.2.1]) (.agg #[.string p1, .int .i64 1])) (.bool ((x17.1 == p1) && ((x17.2.1 == 1) && true))) <|
 L.ite ((x17.1 == p1) && ((x17.2.1 == 1) && true)) (
  L.new [.int .i64 x15.1] T_int fun b18 =>
  L.sem Pr (.one (.one .slice)) (Builtin.append_ #[T_s_int, T_s_int] T_s_int #[.slice y4.1.a y4.1.len y4.1.cap, .slice (some ⟨b18, 0, none⟩) 1 1]) fun (s19 : Sl) =>
  again5 (⟨s19.a, s19.len, s19.cap⟩, ())) <|
 again5 (⟨y4.1.a, y4.1.len, y4.1.cap⟩, ())
theorem D_gate_Gate_Inside (p0 : Option Addr) (p1 : ByteArray) (K : Value → PT) : denF Pr Dt Tryz.f146 A_gate_Gate_Inside [.v (.pointer p0), .v (.string p1)] K = F_gate_Gate_Inside p0 p1 K := by kernel_rfl
theorem C_gate_Gate_Inside (p0 : Option Addr) (p1 : ByteArray) {K : Value → PT} {w : World} (h : F_gate_Gate_Inside p0 p1 K w) : Calls Pr n_gate_Gate_Inside [.pointer p0, .string p1].toArray w fun e w2 => ∃ v, e = .returned v ∧ K v w2 :=
  denF_ok Tok (f := 146) (fn := Tryz.f146) (an := A_gate_Gate_Inside) (args := [.v (.pointer p0), .v (.string p1)]) (by kernel_rfl) (by kernel_rfl) ((congrFun (D_gate_Gate_Inside p0 p1 K) w).mpr h)
def A_shelf_rack_api_Config_get : Ann := .auto
def F_shelf_rack_api_Config_get (p0 : Option Addr) (p1 : ByteArray) (K : Value → PT) : PT :=
 L.new [.string s_, .int .i64 0, .int .i64 0, .int .i64 0, .int .i64 0, .int .i64 0, .int .i64 0, .int .i64 0, .bool false] T_shelf_thing_api_Config fun b1 =>
 L.nonnil p0 fun a2 =>
 L.load (.one (.map)) (a2.add 0) fun (x3 : Option Nat) =>
 L.semR Pr (.one (.agg [.str, .int .i64, .int .i64, .int .i64, .int .i64, .int .i64, .int .i64, .int .i64, .bool])) (Instr.lookup T_map_string_shelf_thing_api_Config (.map x3) (.string p1) false) fun (x4 : ByteArray × Int × Int × Int × Int × Int × Int × Int × Bool × Unit) =>
 L.new [.string s_, .int .i64 0, .int .i64 0, .int .i64 0, .int .i64 0, .int .i64 0, .int .i64 0, .int .i64 0, .bool false] T_shelf_thing_api_Config fun b5 =>
 L.store (⟨b5, 0, none⟩) [.string x4.1, .int .i64 x4.2.1, .int .i64 x4.2.2.1, .int .i64 x4.2.2.2.1, .int .i64 x4.2.2.2.2.1, .int .i64 x4.2.2.2.2.2.1, .int .i64 x4.2.2.2.2.2.2.1, .int .i64 x4.2.2.2.2.2.2.2.1, .bool x4.2.2.2.2.2.2.2.2.1] <|
 L.draw <|
 L.load (.agg [.str, .int .i64, .int .i64, .int .i64, .int .i64, .int .i64, .int .i64, .int .i64, .bool]) (⟨b5, 0, none⟩) fun (x6 : ByteArray × Int × Int × Int × Int × Int × Int × Int × Bool × Unit) =>
 L.load (.one (.bool)) ((⟨b5, 0, none⟩ : Addr).add 8) fun (x7 : Bool) =>
 L.store (⟨b1, 0, none⟩) [.string x6.1, .int .i64 x6.2.1, .int .i64 x6.2.2.1, .int .i64 x6.2.2.2.1, .int .i64 x6.2.2.2.2.1, .int .i64 x6.2.2.2.2.2.1, .int .i64 x6.2.2.2.2.2.2.1, .int .i64 x6.2.2.2.2.2.2.2.1, .bool x6.2.2.2.2.2.2.2.2.1] <|
 L.chk ((⟨b5, 0, none⟩ : Addr).add 8) [.bool x7] <|
 L.load (.agg [.str, .int .i64, .int .i64, .int .i64, .int .i64, .int .i64, .int .i64, .int .i64, .bool]) (⟨b1, 0, none⟩) fun (x8 : ByteArray × Int × Int × Int × Int × Int × Int × Int × Bool × Unit) =>
 K (.tuple #[.agg #[.string x8.1, .int .i64 x8.2.1, .int .i64 x8.2.2.1, .int .i64 x8.2.2.2.1, .int .i64 x8.2.2.2.2.1, .int .i64 x8.2.2.2.2.2.1, .int .i64 x8.2.2.2.2.2.2.1, .int .i64 x8.2.2.2.2.2.2.2.1, .bool x8.2.2.2.2.2.2.2.2.1], .bool x7])
theorem D_shelf_rack_api_Config_get (p0 : Option Addr) (p1 : ByteArray) (K : Value → PT) : denF Pr Dt Tryz.f147 A_shelf_rack_api_Config_get [.v (.pointer p0), .v (.string p1)] K = F_shelf_rack_api_Config_get p0 p1 K := by kernel_rfl
theorem C_shelf_rack_api_Config_get (p0 : Option Addr) (p1 : ByteArray) {K : Value → PT} {w : World} (h : F_shelf_rack_api_Config_get p0 p1 K w) : Calls Pr n_shelf_rack_api_Config_get [.pointer p0, .string p1].toArray w fun e w2 => ∃ v, e = .returned v ∧ K v w2 :=
  denF_ok Tok (f := 147) (fn := Tryz.f147) (an := A_shelf_rack_api_Config_get) (args := [.v (.pointer p0), .v (.string p1)]) (by kernel_rfl) (by kernel_rfl) ((congrFun (D_shelf_rack_api_Config_get p0 p1 K) w).mpr h)
def A_label_Rev : Ann := .auto
def F_label_Rev (p0 : ByteArray) (p1 : Int) (K : Value → PT) : PT :=
 L.call Pr n_label_Name [.string p0] (.one (.one (.bool))) fun (x1 : Bool) =>
 L.ite (!x1) (
  K (.string s_)) <|
 L.ite (decide (p1 < 1)) (
  K (.string s_)) <|
 L.ite (decide (p1 > 999999)) (
  K (.string s_)) <|
 L.guard (((p0.size + s___b5d2.size : Nat) : Int) ≤ maxI64) <|
 L.call Pr n_strconv_Itoa [.int .i64 p1] (.one (.one (.str))) fun (x2 : ByteArray) =>
 L.guard ((((p0 ++ s___b5d2).size + x2.size : Nat) : Int) ≤ maxI64) <|
 K (.string ((p0 ++ s___b5d2) ++ x2))
theorem D_label_Rev (p0 : ByteArray) (p1 : Int) (K : Value → PT) : denF Pr Dt Tryz.f148 A_label_Rev [.v (.string p0), .v (.int .i64 p1)] K = F_label_Rev p0 p1 K := by kernel_rfl
theorem C_label_Rev (p0 : ByteArray) (p1 : Int) {K : Value → PT} {w : World} (h : F_label_Rev p0 p1 K w) : Calls Pr n_label_Rev [.string p0, .int .i64 p1].toArray w fun e w2 => ∃ v, e = .returned v ∧ K v w2 :=
  denF_ok Tok (f := 148) (fn := Tryz.f148) (an := A_label_Rev) (args := [.v (.string p0), .v (.int .i64 p1)]) (by kernel_rfl) (by kernel_rfl) ((congrFun (D_label_Rev p0 p1 K) w).mpr h)
def A_slices_Clone_int_int : Ann := .auto
def F_slices_Clone_int_int (p0 : Sl) (K : Value → PT) : PT :=
 L.ite ((p0.a).isNone) (
  K (.slice none 0 0)) <|
 L.new [] T_int fun b1 =>
 L.sem Pr (.one (.one .slice)) (Builtin.append_ #[T_s_int, T_s_int] T_s_int #[.slice (some ⟨b1, 0, none⟩) 0 0, .slice p0.a p0.len p0.cap]) fun (s2 : Sl) =>
 K (.slice s2.a s2.len s2.cap)
theorem D_slices_Clone_int_int (p0 : Sl) (K : Value → PT) : denF Pr Dt Tryz.f166 A_slices_Clone_int_int [.v (.slice p0.a p0.len p0.cap)] K = F_slices_Clone_int_int p0 K := by kernel_rfl
theorem C_slices_Clone_int_int (p0 : Sl) {K : Value → PT} {w : World} (h : F_slices_Clone_int_int p0 K w) : Calls Pr n_slices_Clone_int_int [.slice p0.a p0.len p0.cap].toArray w fun e w2 => ∃ v, e = .returned v ∧ K v w2 :=
  denF_ok Tok (f := 166) (fn := Tryz.f166) (an := A_slices_Clone_int_int) (args := [.v (.slice p0.a p0.len p0.cap)]) (by kernel_rfl) (by kernel_rfl) ((congrFun (D_slices_Clone_int_int p0 K) w).mpr h)
def A_slices_Sorted_string : Ann := .auto
def F_slices_Sorted_string (p0 : FV) (K : Value → PT) : PT :=
 L.call Pr n_slices_Collect_string [.func p0.fn p0.fs p0.cs] (.one (.one (.slice))) fun (x1 : Sl) =>
 L.call Pr n_slices_Sort_string_string [.slice x1.a x1.len x1.cap] (.tup []) fun (x2 : Unit) =>
 K (.slice x1.a x1.len x1.cap)
theorem D_slices_Sorted_string (p0 : FV) (K : Value → PT) : denF Pr Dt Tryz.f169 A_slices_Sorted_string [.v (.func p0.fn p0.fs p0.cs)] K = F_slices_Sorted_string p0 K := by kernel_rfl
theorem C_slices_Sorted_string (p0 : FV) {K : Value → PT} {w : World} (h : F_slices_Sorted_string p0 K w) : Calls Pr n_slices_Sorted_string [.func p0.fn p0.fs p0.cs].toArray w fun e w2 => ∃ v, e = .returned v ∧ K v w2 :=
  denF_ok Tok (f := 169) (fn := Tryz.f169) (an := A_slices_Sorted_string) (args := [.v (.func p0.fn p0.fs p0.cs)]) (by kernel_rfl) (by kernel_rfl) ((congrFun (D_slices_Sorted_string p0 K) w).mpr h)
def A_maps_Keys_stamp_shelf_api_Revision_string_api_Revision : Ann := .auto
def F_maps_Keys_stamp_shelf_api_Revision_string_api_Revision (p0 : Option Nat) (K : Value → PT) : PT :=
 L.new [.map p0] T_stamp_shelf_api_Revision fun b1 =>
 K (.func (.func n_maps_Keys_stamp_shelf_api_Revision_string_api_Revision_1) #[] #[.pointer (some (⟨b1, 0, none⟩))])
theorem D_maps_Keys_stamp_shelf_api_Revision_string_api_Revision (p0 : Option Nat) (K : Value → PT) : denF Pr Dt Tryz.f170 A_maps_Keys_stamp_shelf_api_Revision_string_api_Revision [.v (.map p0)] K = F_maps_Keys_stamp_shelf_api_Revision_string_api_Revision p0 K := by kernel_rfl
theorem C_maps_Keys_stamp_shelf_api_Revision_string_api_Revision (p0 : Option Nat) {K : Value → PT} {w : World} (h : F_maps_Keys_stamp_shelf_api_Revision_string_api_Revision p0 K w) : Calls Pr n_maps_Keys_stamp_shelf_api_Revision_string_api_Revision [.map p0].toArray w fun e w2 => ∃ v, e = .returned v ∧ K v w2 :=
  denF_ok Tok (f := 170) (fn := Tryz.f170) (an := A_maps_Keys_stamp_shelf_api_Revision_string_api_Revision) (args := [.v (.map p0)]) (by kernel_rfl) (by kernel_rfl) ((congrFun (D_maps_Keys_stamp_shelf_api_Revision_string_api_Revision p0 K) w).mpr h)
def A_label_sign : Ann := .auto
def F_label_sign (p0 : Int) (K : Value → PT) : PT :=
 L.call Pr n_label_letter [.int .i32 p0] (.one (.one (.bool))) fun (x1 : Bool) =>
 L.ite x1 (
  K (.bool true)) <|
 L.ite (decide (p0 ≥ 48)) (
  L.ite (decide (p0 ≤ 57)) (
   K (.bool true)) <|
  K (.bool (p0 == 45))) <|
 K (.bool (p0 == 45))
theorem D_label_sign (p0 : Int) (K : Value → PT) : denF Pr Dt Tryz.f173 A_label_sign [.v (.int .i32 p0)] K = F_label_sign p0 K := by kernel_rfl
theorem C_label_sign (p0 : Int) {K : Value → PT} {w : World} (h : F_label_sign p0 K w) : Calls Pr n_label_sign [.int .i32 p0].toArray w fun e w2 => ∃ v, e = .returned v ∧ K v w2 :=
  denF_ok Tok (f := 173) (fn := Tryz.f173) (an := A_label_sign) (args := [.v (.int .i32 p0)]) (by kernel_rfl) (by kernel_rfl) ((congrFun (D_label_sign p0 K) w).mpr h)
def A_label_letter : Ann := .auto
def F_label_letter (p0 : Int) (K : Value → PT) : PT :=
 L.ite (decide (p0 ≥ 97)) (
  K (.bool (decide (p0 ≤ 122)))) <|
 K (.bool false)
theorem D_label_letter (p0 : Int) (K : Value → PT) : denF Pr Dt Tryz.f174 A_label_letter [.v (.int .i32 p0)] K = F_label_letter p0 K := by kernel_rfl
theorem C_label_letter (p0 : Int) {K : Value → PT} {w : World} (h : F_label_letter p0 K w) : Calls Pr n_label_letter [.int .i32 p0].toArray w fun e w2 => ∃ v, e = .returned v ∧ K v w2 :=
  denF_ok Tok (f := 174) (fn := Tryz.f174) (an := A_label_letter) (args := [.v (.int .i32 p0)]) (by kernel_rfl) (by kernel_rfl) ((congrFun (D_label_letter p0 K) w).mpr h)
def A_slices_ContainsFunc_api_Target_api_Target : Ann := .auto
def F_slices_ContainsFunc_api_Target_api_Target (p0 : Sl) (p1 : FV) (K : Value → PT) : PT :=
 L.call Pr n_slices_IndexFunc_api_Target_api_Target [.slice p0.a p0.len p0.cap, .func p1.fn p1.fs p1.cs] (.one (.one (.int .i64))) fun (x1 : Int) =>
 K (.bool (decide (x1 ≥ 0)))
theorem D_slices_ContainsFunc_api_Target_api_Target (p0 : Sl) (p1 : FV) (K : Value → PT) : denF Pr Dt Tryz.f175 A_slices_ContainsFunc_api_Target_api_Target [.v (.slice p0.a p0.len p0.cap), .v (.func p1.fn p1.fs p1.cs)] K = F_slices_ContainsFunc_api_Target_api_Target p0 p1 K := by kernel_rfl
theorem C_slices_ContainsFunc_api_Target_api_Target (p0 : Sl) (p1 : FV) {K : Value → PT} {w : World} (h : F_slices_ContainsFunc_api_Target_api_Target p0 p1 K w) : Calls Pr n_slices_ContainsFunc_api_Target_api_Target [.slice p0.a p0.len p0.cap, .func p1.fn p1.fs p1.cs].toArray w fun e w2 => ∃ v, e = .returned v ∧ K v w2 :=
  denF_ok Tok (f := 175) (fn := Tryz.f175) (an := A_slices_ContainsFunc_api_Target_api_Target) (args := [.v (.slice p0.a p0.len p0.cap), .v (.func p1.fn p1.fs p1.cs)]) (by kernel_rfl) (by kernel_rfl) ((congrFun (D_slices_ContainsFunc_api_Target_api_Target p0 p1 K) w).mpr h)
def A_spec_all_1 : Ann := .auto
def F_spec_all_1 (p0 : HT [.str, .str, .int .i64]) (c0 : Addr) (K : Value → PT) : PT :=
 L.new [.string p0.1, .string p0.2.1, .int .i64 p0.2.2.1] T_api_Target fun b1 =>
 L.load (.one (.str)) ((⟨b1, 0, none⟩ : Addr).add 1) fun (x2 : ByteArray) =>
 L.load (.one (.str)) (c0.add 1) fun (x3 : ByteArray) =>
 K (.bool (x2.toList == x3.toList))
theorem D_spec_all_1 (p0 : HT [.str, .str, .int .i64]) (c0 : Addr) (K : Value → PT) : denF Pr Dt Tryz.f176 A_spec_all_1 [.ag [.string p0.1, .string p0.2.1, .int .i64 p0.2.2.1], .v (.pointer (some c0))] K = F_spec_all_1 p0 c0 K := by kernel_rfl
theorem C_spec_all_1 (p0 : HT [.str, .str, .int .i64]) (c0 : Addr) {K : Value → PT} {w : World} (h : F_spec_all_1 p0 c0 K w) : Calls Pr n_spec_all_1 [(.ag [.string p0.1, .string p0.2.1, .int .i64 p0.2.2.1] : SV).toV, .pointer (some c0)].toArray w fun e w2 => ∃ v, e = .returned v ∧ K v w2 :=
  denF_ok Tok (f := 176) (fn := Tryz.f176) (an := A_spec_all_1) (args := [.ag [.string p0.1, .string p0.2.1, .int .i64 p0.2.2.1], .v (.pointer (some c0))]) (by kernel_rfl) (by kernel_rfl) ((congrFun (D_spec_all_1 p0 c0 K) w).mpr h)
theorem E_spec_all_1 : Enters Pr n_spec_all_1 := enters_of_B (by kernel_rfl)
def A_system_lines_1 : Ann := (.seq .auto (.one [(7, (.one (.int .i64)))] .auto) none)
def F_system_lines_1 (p0 : FV) (c0 : Addr) (K : Value → PT) : PT :=
 L.load (.one (.slice)) c0 fun (x1 : Sl) =>
 L.loop (Y := Int × Unit) (0, ()) fun y2 again3 =>
 L.ite (decide (y2.1 < ((x1.len : Nat) : Int))) (
  L.idx x1.a y2.1 x1.len 4 fun a4 =>
  L.load (.agg [.int .i64, .int .i64, .int .i64, .str]) a4 fun (x5 : Int × Int × Int × ByteArray × Unit) =>
  L.new [.int .i64 0, .int .i64 0, .int .i64 0, .string s_] T_gate_Fate fun b6 =>
  L.store (⟨b6, 0, none⟩) [.int .i64 x5.1, .int .i64 x5.2.1, .int .i64 x5.2.2.1, .string x5.2.2.2.1] <|
  L.load (.agg [.int .i64, .int .i64, .int .i64, .str]) (⟨b6, 0, none⟩) fun (x7 : Int × Int × Int × ByteArray × Unit) =>
  L.call Pr n_system_fate [.agg #[.int .i64 x7.1, .int .i64 x7.2.1, .int .i64 x7.2.2.1, .string x7.2.2.2.1]] (.one (.one (.str))) fun (x8 : ByteArray) =>
  L.callV Pr (.func p0.fn p0.fs p0.cs) [.string x8] (.one (.one (.bool))) fun (x9 : Bool) =>
  L.ite (!x9) (
   K (.tuple #[])) <|
  again3 (IntKind.wrap .i64 (y2.1 + 1), ())) <|
 K (.tuple #[])
theorem D_system_lines_1 (p0 : FV) (c0 : Addr) (K : Value → PT) : denF Pr Dt Tryz.f185 A_system_lines_1 [.v (.func p0.fn p0.fs p0.cs), .v (.pointer (some c0))] K = F_system_lines_1 p0 c0 K := by kernel_rfl
theorem C_system_lines_1 (p0 : FV) (c0 : Addr) {K : Value → PT} {w : World} (h : F_system_lines_1 p0 c0 K w) : Calls Pr n_system_lines_1 [.func p0.fn p0.fs p0.cs, .pointer (some c0)].toArray w fun e w2 => ∃ v, e = .returned v ∧ K v w2 :=
  denF_ok Tok (f := 185) (fn := Tryz.f185) (an := A_system_lines_1) (args := [.v (.func p0.fn p0.fs p0.cs), .v (.pointer (some c0))]) (by kernel_rfl) (by kernel_rfl) ((congrFun (D_system_lines_1 p0 c0 K) w).mpr h)
theorem E_system_lines_1 : Enters Pr n_system_lines_1 := enters_of_B (by kernel_rfl)
def A_system_fate : Ann := (.seq .auto (.seq .auto (.seq (.one [(2, (.one (.str)))] .auto) .auto none) none) none)
def F_system_fate (p0 : HT [.int .i64, .int .i64, .int .i64, .str]) (K : Value → PT) : PT :=
 L.new [.int .i64 p0.1, .int .i64 p0.2.1, .int .i64 p0.2.2.1, .string p0.2.2.2.1] T_gate_Fate fun b1 =>
 L.load (.one (.int .i64)) ((⟨b1, 0, none⟩ : Addr).add 1) fun (x2 : Int) =>
 L.ite (x2 == 1) (
  L.load (.one (.int .i64)) ((⟨b1, 0, none⟩ : Addr).add 0) fun (x3 : Int) =>
  L.load (.one (.int .i64)) ((⟨b1, 0, none⟩ : Addr).add 2) fun (x4 : Int) =>
  L.new [.int .i64 x3, .int .i64 x4] T_int fun b5 =>
  L.call Pr n_system_line_int [.string s_sent, .slice (some ⟨b5, 0, none⟩) 2 2] (.one (.one (.str))) fun (x6 : ByteArray) =>
  K (.string x6)) <|
 L.ite (x2 == 2) (
  L.load (.one (.int .i64)) ((⟨b1, 0, none⟩ : Addr).add 0) fun (x7 : Int) =>
  L.new [.int .i64 x7] T_int fun b8 =>
  L.call Pr n_system_line_int [.string s_waits, .slice (some ⟨b8, 0, none⟩) 1 1] (.one (.one (.str))) fun (x9 : ByteArray) =>
  K (.string x9)) <|
 L.ite (x2 == 3) (
  L.load (.one (.int .i64)) ((⟨b1, 0, none⟩ : Addr).add 0) fun (x10 : Int) =>
  L.new [.int .i64 x10] T_int fun b11 =>
  L.call Pr n_system_line_int [.string s_done, .slice (some ⟨b11, 0, none⟩) 1 1] (.one (.one (.str))) fun (x12 : ByteArray) =>
  K (.string x12)) <|
 L.join (Y := ByteArray × Unit) (fun k13 =>
  L.draw <|
  L.load (.one (.int .i64)) ((⟨b1, 0, none⟩ : Addr).add 0) fun (x15 : Int) =>
  L.load (.one (.str)) ((⟨b1, 0, none⟩ : Addr).add 3) fun (x16 : ByteArray) =>
  L.alts [(
    L.new [.int .i64 x15] T_int fun b17 =>
    L.chk ((⟨b1, 0, none⟩ : Addr).add 3) [.string x16] <|
    L.alts [(
      L.call Pr n_system_line_int [.string s_refused, .slice (some ⟨b17, 0, none⟩) 1 1] (.one (.one (.str))) fun (x18 : ByteArray) =>
      L.chk ((⟨b1, 0, none⟩ : Addr).add 3) [.string x16] <|
      L.new [.string x16] T_string fun b19 =>
      L.chk ((⟨b1, 0, none⟩ : Addr).add 0) [.int .i64 x15] <|
      L.call Pr n_system_line_string [.string x18, .slice (some ⟨b19, 0, none⟩) 1 1] (.one (.one (.str))) fun (x20 : ByteArray) =>
      k13 (x20, ())),(
      L.new [.string x16] T_string fun b21 =>
      L.chk ((⟨b1, 0, none⟩ : Addr).add 0) [.int .i64 x15] <|
      L.call Pr n_system_line_int [.string s_refused, .slice (some ⟨b17, 0, none⟩) 1 1] (.one (.one (.str))) fun (x22 : ByteArray) =>
      L.chk ((⟨b1, 0, none⟩ : Addr).add 3) [.string x16] <|
      L.call Pr n_system_line_string [.string x22, .slice (some ⟨b21, 0, none⟩) 1 1] (.one (.one (.str))) fun (x23 : ByteArray) =>
      k13 (x23, ()))]),(
    L.new [.string x16] T_string fun b24 =>
    L.chk ((⟨b1, 0, none⟩ : Addr).add 0) [.int .i64 x15] <|
    L.new [.int .i64 x15] T_int fun b25 =>
    L.chk ((⟨b1, 0, none⟩ : Addr).add 3) [.string x16] <|
    L.call Pr n_system_line_int [.string s_refused, .slice (some ⟨b25, 0, none⟩) 1 1] (.one (.one (.str))) fun (x26 : ByteArray) =>
    L.chk ((⟨b1, 0, none⟩ : Addr).add 3) [.string x16] <|
    L.call Pr n_system_line_string [.string x26, .slice (some ⟨b24, 0, none⟩) 1 1] (.one (.one (.str))) fun (x27 : ByteArray) =>
    k13 (x27, ()))]) fun z14 =>
 K (.string z14.1)
theorem D_system_fate (p0 : HT [.int .i64, .int .i64, .int .i64, .str]) (K : Value → PT) : denF Pr Dt Tryz.f186 A_system_fate [.ag [.int .i64 p0.1, .int .i64 p0.2.1, .int .i64 p0.2.2.1, .string p0.2.2.2.1]] K = F_system_fate p0 K := by kernel_rfl
theorem C_system_fate (p0 : HT [.int .i64, .int .i64, .int .i64, .str]) {K : Value → PT} {w : World} (h : F_system_fate p0 K w) : Calls Pr n_system_fate [(.ag [.int .i64 p0.1, .int .i64 p0.2.1, .int .i64 p0.2.2.1, .string p0.2.2.2.1] : SV).toV].toArray w fun e w2 => ∃ v, e = .returned v ∧ K v w2 :=
  denF_ok Tok (f := 186) (fn := Tryz.f186) (an := A_system_fate) (args := [.ag [.int .i64 p0.1, .int .i64 p0.2.1, .int .i64 p0.2.2.1, .string p0.2.2.2.1]]) (by kernel_rfl) (by kernel_rfl) ((congrFun (D_system_fate p0 K) w).mpr h)
def A_wait_row_int_each : Ann := .auto
def F_wait_row_int_each (p0 : Option Addr) (K : Value → PT) : PT :=
 L.new [.pointer p0] T_p_wait_row_int fun b1 =>
 K (.func (.func n_wait_row_int_each_1) #[] #[.pointer (some (⟨b1, 0, none⟩))])
theorem D_wait_row_int_each (p0 : Option Addr) (K : Value → PT) : denF Pr Dt Tryz.f188 A_wait_row_int_each [.v (.pointer p0)] K = F_wait_row_int_each p0 K := by kernel_rfl
theorem C_wait_row_int_each (p0 : Option Addr) {K : Value → PT} {w : World} (h : F_wait_row_int_each p0 K w) : Calls Pr n_wait_row_int_each [.pointer p0].toArray w fun e w2 => ∃ v, e = .returned v ∧ K v w2 :=
  denF_ok Tok (f := 188) (fn := Tryz.f188) (an := A_wait_row_int_each) (args := [.v (.pointer p0)]) (by kernel_rfl) (by kernel_rfl) ((congrFun (D_wait_row_int_each p0 K) w).mpr h)
def A_gate_book_wait_Line_each_1 : Ann := (.seq .auto (.one [(12, (.one (.int .i64)))] .auto) none)
def F_gate_book_wait_Line_each_1 (p0 : FV) (c0 : Addr) (K : Value → PT) : PT :=
 L.load (.one (.ptr)) c0 fun (x1 : Option Addr) =>
 L.nonnil x1 fun a2 =>
 L.load (.one (.map)) (a2.add 0) fun (x3 : Option Nat) =>
 L.call Pr n_maps_Keys_map_string_wait_Line_string_wait_Line [.map x3] (.one (.one (.func))) fun (x4 : FV) =>
 L.call Pr n_slices_Sorted_string [.func x4.fn x4.fs x4.cs] (.one (.one (.slice))) fun (x5 : Sl) =>
 L.loop (Y := Int × Unit) (0, ()) fun y6 again7 =>
 L.ite (decide (y6.1 < ((x5.len : Nat) : Int))) (
  L.idx x5.a y6.1 x5.len 1 fun a8 =>
  L.load (.one (.str)) a8 fun (x9 : ByteArray) =>
  L.load (.one (.ptr)) c0 fun (x10 : Option Addr) =>
  L.nonnil x10 fun a11 =>
  L.load (.one (.map)) (a11.add 0) fun (x12 : Option Nat) =>
  L.semR Pr (.one (.one (.ptr))) (Instr.lookup T_map_string_p_wait_Line (.map x12) (.string x9) false) fun (x13 : Option Addr) =>
  L.callV Pr (.func p0.fn p0.fs p0.cs) [.string x9, .pointer x13] (.one (.one (.bool))) fun (x14 : Bool) =>
  L.ite (!x14) (
   K (.tuple #[])) <|
  again7 (IntKind.wrap .i64 (y6.1 + 1), ())) <|
 K (.tuple #[])
theorem D_gate_book_wait_Line_each_1 (p0 : FV) (c0 : Addr) (K : Value → PT) : denF Pr Dt Tryz.f193 A_gate_book_wait_Line_each_1 [.v (.func p0.fn p0.fs p0.cs), .v (.pointer (some c0))] K = F_gate_book_wait_Line_each_1 p0 c0 K := by kernel_rfl
theorem C_gate_book_wait_Line_each_1 (p0 : FV) (c0 : Addr) {K : Value → PT} {w : World} (h : F_gate_book_wait_Line_each_1 p0 c0 K w) : Calls Pr n_gate_book_wait_Line_each_1 [.func p0.fn p0.fs p0.cs, .pointer (some c0)].toArray w fun e w2 => ∃ v, e = .returned v ∧ K v w2 :=
  denF_ok Tok (f := 193) (fn := Tryz.f193) (an := A_gate_book_wait_Line_each_1) (args := [.v (.func p0.fn p0.fs p0.cs), .v (.pointer (some c0))]) (by kernel_rfl) (by kernel_rfl) ((congrFun (D_gate_book_wait_Line_each_1 p0 c0 K) w).mpr h)
theorem E_gate_book_wait_Line_each_1 : Enters Pr n_gate_book_wait_Line_each_1 := enters_of_B (by kernel_rfl)
def A_maps_Keys_map_string_wait_Line_string_wait_Line : Ann := .auto
def F_maps_Keys_map_string_wait_Line_string_wait_Line (p0 : Option Nat) (K : Value → PT) : PT :=
 L.new [.map p0] T_map_string_p_wait_Line fun b1 =>
 K (.func (.func n_maps_Keys_map_string_wait_Line_string_wait_Line_1) #[] #[.pointer (some (⟨b1, 0, none⟩))])
theorem D_maps_Keys_map_string_wait_Line_string_wait_Line (p0 : Option Nat) (K : Value → PT) : denF Pr Dt Tryz.f194 A_maps_Keys_map_string_wait_Line_string_wait_Line [.v (.map p0)] K = F_maps_Keys_map_string_wait_Line_string_wait_Line p0 K := by kernel_rfl
theorem C_maps_Keys_map_string_wait_Line_string_wait_Line (p0 : Option Nat) {K : Value → PT} {w : World} (h : F_maps_Keys_map_string_wait_Line_string_wait_Line p0 K w) : Calls Pr n_maps_Keys_map_string_wait_Line_string_wait_Line [.map p0].toArray w fun e w2 => ∃ v, e = .returned v ∧ K v w2 :=
  denF_ok Tok (f := 194) (fn := Tryz.f194) (an := A_maps_Keys_map_string_wait_Line_string_wait_Line) (args := [.v (.map p0)]) (by kernel_rfl) (by kernel_rfl) ((congrFun (D_maps_Keys_map_string_wait_Line_string_wait_Line p0 K) w).mpr h)
def A_wait_row_int_part : Ann := (.seq .auto (.seq .auto (.seq .auto (.seq (.seq .auto (.seq .auto .auto (some [(11, (.one (.int .i64))), (12, (.one (.int .i64)))])) none) .auto none) none) none) none)
def F_wait_row_int_part (p0 : Option Addr) (p1 : Int) (K : Value → PT) : PT :=
 L.new [.int .i64 p1] T_int fun b1 =>
 L.new [.slice none 0 0] T_s_int fun b2 =>
 L.new [.slice none 0 0] T_s_wait_held_int fun b3 =>
 L.call Pr n_wait_row_int_each [.pointer p0] (.one (.one (.func))) fun (x4 : FV) =>
 L.range Pr none (.func x4.fn x4.fs x4.cs) [(.one (.int .i64)), (.one (.int .i64))] (fun l5 (y6 : Int × Int × Unit) R7 =>
  L.begin Pr l5 <|
  L.load (.one (.int .i64)) (⟨b1, 0, none⟩) fun (x10 : Int) =>
  L.ite (decide (y6.2.1 ≤ x10)) (
   L.load (.one (.slice)) (⟨b2, 0, none⟩) fun (x11 : Sl) =>
   L.new [.int .i64 y6.1] T_int fun b12 =>
   L.sem Pr (.one (.one .slice)) (Builtin.append_ #[T_s_int, T_s_int] T_s_int #[.slice x11.a x11.len x11.cap, .slice (some ⟨b12, 0, none⟩) 1 1]) fun (s13 : Sl) =>
   L.store (⟨b2, 0, none⟩) [.slice s13.a s13.len s13.cap] <|
   L.endRound Pr l5 none R7) <|
  L.load (.one (.slice)) (⟨b3, 0, none⟩) fun (x14 : Sl) =>
  L.new [.int .i64 y6.1, .int .i64 y6.2.1] T_wait_held_int fun b15 =>
  L.sem Pr (.one (.one .slice)) (Builtin.append_ #[T_s_wait_held_int, T_s_wait_held_int] T_s_wait_held_int #[.slice x14.a x14.len x14.cap, .slice (some ⟨b15, 0, none⟩) 1 1]) fun (s16 : Sl) =>
  L.store (⟨b3, 0, none⟩) [.slice s16.a s16.len s16.cap] <|
  L.endRound Pr l5 none R7) fun d8 j9 =>
 L.jump j9 (
  L.load (.one (.slice)) (⟨b3, 0, none⟩) fun (x17 : Sl) =>
  L.nonnil p0 fun a18 =>
  L.store (a18.add 0) [.slice x17.a x17.len x17.cap] <|
  L.load (.one (.slice)) (⟨b2, 0, none⟩) fun (x19 : Sl) =>
  L.call Pr n_slices_Clone_int_int [.slice x19.a x19.len x19.cap] (.one (.one (.slice))) fun (x20 : Sl) =>
  L.unmark Pr (d8 ++ []) <|
  K (.slice x20.a x20.len x20.cap)) (
  L.unmark Pr (d8 ++ []) <|
  K (.slice none 0 0)) []
theorem D_wait_row_int_part (p0 : Option Addr) (p1 : Int) (K : Value → PT) : denF Pr Dt Tryz.f195 A_wait_row_int_part [.v (.pointer p0), .v (.int .i64 p1)] K = F_wait_row_int_part p0 p1 K := by kernel_rfl
theorem C_wait_row_int_part (p0 : Option Addr) (p1 : Int) {K : Value → PT} {w : World} (h : F_wait_row_int_part p0 p1 K w) : Calls Pr n_wait_row_int_part [.pointer p0, .int .i64 p1].toArray w fun e w2 => ∃ v, e = .returned v ∧ K v w2 :=
  denF_ok Tok (f := 195) (fn := Tryz.f195) (an := A_wait_row_int_part) (args := [.v (.pointer p0), .v (.int .i64 p1)]) (by kernel_rfl) (by kernel_rfl) ((congrFun (D_wait_row_int_part p0 p1 K) w).mpr h)
def A_slices_Collect_string : Ann := .auto
def F_slices_Collect_string (p0 : FV) (K : Value → PT) : PT :=
 L.call Pr n_slices_AppendSeq_string_string [.slice none 0 0, .func p0.fn p0.fs p0.cs] (.one (.one (.slice))) fun (x1 : Sl) =>
 K (.slice x1.a x1.len x1.cap)
theorem D_slices_Collect_string (p0 : FV) (K : Value → PT) : denF Pr Dt Tryz.f210 A_slices_Collect_string [.v (.func p0.fn p0.fs p0.cs)] K = F_slices_Collect_string p0 K := by kernel_rfl
theorem C_slices_Collect_string (p0 : FV) {K : Value → PT} {w : World} (h : F_slices_Collect_string p0 K w) : Calls Pr n_slices_Collect_string [.func p0.fn p0.fs p0.cs].toArray w fun e w2 => ∃ v, e = .returned v ∧ K v w2 :=
  denF_ok Tok (f := 210) (fn := Tryz.f210) (an := A_slices_Collect_string) (args := [.v (.func p0.fn p0.fs p0.cs)]) (by kernel_rfl) (by kernel_rfl) ((congrFun (D_slices_Collect_string p0 K) w).mpr h)
def A_maps_Keys_stamp_shelf_api_Revision_string_api_Revision_1 : Ann := (.seq .auto (.one [] (.seq .auto (.seq (.cond .auto .auto) .auto none) none)) none)
def F_maps_Keys_stamp_shelf_api_Revision_string_api_Revision_1 (p0 : FV) (c0 : Addr) (K : Value → PT) : PT :=
 L.load (.one (.map)) c0 fun (x1 : Option Nat) =>
 L.sem Pr (.one (.one .ptr)) (Instr.range T_stamp_shelf_api_Revision (.map x1)) fun (it2 : Option Addr) =>
 L.loop (Y := Unit) (()) fun y3 again4 =>
 L.next Pr [(.one (.str)), (.agg [.str, .int .i64, .str, .int .i64, .int .i64, .int .i64, .int .i64, .int .i64])] (Instr.next (.pointer it2) false T_) (
  K (.tuple #[])) fun (x5 : ByteArray × (ByteArray × Int × ByteArray × Int × Int × Int × Int × Int × Unit) × Unit) =>
 L.sem Pr (.tup [(.one (.str)), (.agg [.str, .int .i64, .str, .int .i64, .int .i64, .int .i64, .int .i64, .int .i64])]) (Instr.entry (.pointer it2)) fun (x6 : ByteArray × (ByteArray × Int × ByteArray × Int × Int × Int × Int × Int × Unit) × Unit) =>
 L.callV Pr (.func p0.fn p0.fs p0.cs) [.string x6.1] (.one (.one (.bool))) fun (x7 : Bool) =>
 L.ite (!x7) (
  K (.tuple #[])) <|
 again4 (())
theorem D_maps_Keys_stamp_shelf_api_Revision_string_api_Revision_1 (p0 : FV) (c0 : Addr) (K : Value → PT) : denF Pr Dt Tryz.f212 A_maps_Keys_stamp_shelf_api_Revision_string_api_Revision_1 [.v (.func p0.fn p0.fs p0.cs), .v (.pointer (some c0))] K = F_maps_Keys_stamp_shelf_api_Revision_string_api_Revision_1 p0 c0 K := by kernel_rfl
theorem C_maps_Keys_stamp_shelf_api_Revision_string_api_Revision_1 (p0 : FV) (c0 : Addr) {K : Value → PT} {w : World} (h : F_maps_Keys_stamp_shelf_api_Revision_string_api_Revision_1 p0 c0 K w) : Calls Pr n_maps_Keys_stamp_shelf_api_Revision_string_api_Revision_1 [.func p0.fn p0.fs p0.cs, .pointer (some c0)].toArray w fun e w2 => ∃ v, e = .returned v ∧ K v w2 :=
  denF_ok Tok (f := 212) (fn := Tryz.f212) (an := A_maps_Keys_stamp_shelf_api_Revision_string_api_Revision_1) (args := [.v (.func p0.fn p0.fs p0.cs), .v (.pointer (some c0))]) (by kernel_rfl) (by kernel_rfl) ((congrFun (D_maps_Keys_stamp_shelf_api_Revision_string_api_Revision_1 p0 c0 K) w).mpr h)
theorem E_maps_Keys_stamp_shelf_api_Revision_string_api_Revision_1 : Enters Pr n_maps_Keys_stamp_shelf_api_Revision_string_api_Revision_1 := enters_of_B (by kernel_rfl)
def A_slices_IndexFunc_api_Target_api_Target : Ann := (.seq .auto (.seq (.seq .auto (.one [(8, (.one (.int .i64)))] .auto) none) .auto none) none)
def F_slices_IndexFunc_api_Target_api_Target (p0 : Sl) (p1 : FV) (K : Value → PT) : PT :=
 L.loop (Y := Int × Unit) (0, ()) fun y1 again2 =>
 L.ite (decide (y1.1 < ((p0.len : Nat) : Int))) (
  L.idx p0.a y1.1 p0.len 3 fun a3 =>
  L.load (.agg [.str, .str, .int .i64]) a3 fun (x4 : ByteArray × ByteArray × Int × Unit) =>
  L.callV Pr (.func p1.fn p1.fs p1.cs) [.agg #[.string x4.1, .string x4.2.1, .int .i64 x4.2.2.1]] (.one (.one (.bool))) fun (x5 : Bool) =>
  L.ite x5 (
   K (.int .i64 y1.1)) <|
  again2 (IntKind.wrap .i64 (y1.1 + 1), ())) <|
 K (.int .i64 (-1))
theorem D_slices_IndexFunc_api_Target_api_Target (p0 : Sl) (p1 : FV) (K : Value → PT) : denF Pr Dt Tryz.f217 A_slices_IndexFunc_api_Target_api_Target [.v (.slice p0.a p0.len p0.cap), .v (.func p1.fn p1.fs p1.cs)] K = F_slices_IndexFunc_api_Target_api_Target p0 p1 K := by kernel_rfl
theorem C_slices_IndexFunc_api_Target_api_Target (p0 : Sl) (p1 : FV) {K : Value → PT} {w : World} (h : F_slices_IndexFunc_api_Target_api_Target p0 p1 K w) : Calls Pr n_slices_IndexFunc_api_Target_api_Target [.slice p0.a p0.len p0.cap, .func p1.fn p1.fs p1.cs].toArray w fun e w2 => ∃ v, e = .returned v ∧ K v w2 :=
  denF_ok Tok (f := 217) (fn := Tryz.f217) (an := A_slices_IndexFunc_api_Target_api_Target) (args := [.v (.slice p0.a p0.len p0.cap), .v (.func p1.fn p1.fs p1.cs)]) (by kernel_rfl) (by kernel_rfl) ((congrFun (D_slices_IndexFunc_api_Target_api_Target p0 p1 K) w).mpr h)
def A_wait_row_int_each_1 : Ann := (.seq .auto (.one [(10, (.one (.int .i64)))] .auto) none)
def F_wait_row_int_each_1 (p0 : FV) (c0 : Addr) (K : Value → PT) : PT :=
 L.load (.one (.ptr)) c0 fun (x1 : Option Addr) =>
 L.nonnil x1 fun a2 =>
 L.load (.one (.slice)) (a2.add 0) fun (x3 : Sl) =>
 L.loop (Y := Int × Unit) (0, ()) fun y4 again5 =>
 L.ite (decide (y4.1 < ((x3.len : Nat) : Int))) (
  L.idx x3.a y4.1 x3.len 2 fun a6 =>
  L.load (.agg [.int .i64, .int .i64]) a6 fun (x7 : Int × Int × Unit) =>
  L.new [.int .i64 0, .int .i64 0] T_wait_held_int fun b8 =>
  L.store (⟨b8, 0, none⟩) [.int .i64 x7.1, .int .i64 x7.2.1] <|
  L.load (.one (.int .i64)) ((⟨b8, 0, none⟩ : Addr).add 0) fun (x9 : Int) =>
  L.load (.one (.int .i64)) ((⟨b8, 0, none⟩ : Addr).add 1) fun (x10 : Int) =>
  L.callV Pr (.func p0.fn p0.fs p0.cs) [.int .i64 x9, .int .i64 x10] (.one (.one (.bool))) fun (x11 : Bool) =>
  L.ite (!x11) (
   K (.tuple #[])) <|
  again5 (IntKind.wrap .i64 (y4.1 + 1), ())) <|
 K (.tuple #[])
theorem D_wait_row_int_each_1 (p0 : FV) (c0 : Addr) (K : Value → PT) : denF Pr Dt Tryz.f227 A_wait_row_int_each_1 [.v (.func p0.fn p0.fs p0.cs), .v (.pointer (some c0))] K = F_wait_row_int_each_1 p0 c0 K := by kernel_rfl
theorem C_wait_row_int_each_1 (p0 : FV) (c0 : Addr) {K : Value → PT} {w : World} (h : F_wait_row_int_each_1 p0 c0 K w) : Calls Pr n_wait_row_int_each_1 [.func p0.fn p0.fs p0.cs, .pointer (some c0)].toArray w fun e w2 => ∃ v, e = .returned v ∧ K v w2 :=
  denF_ok Tok (f := 227) (fn := Tryz.f227) (an := A_wait_row_int_each_1) (args := [.v (.func p0.fn p0.fs p0.cs), .v (.pointer (some c0))]) (by kernel_rfl) (by kernel_rfl) ((congrFun (D_wait_row_int_each_1 p0 c0 K) w).mpr h)
theorem E_wait_row_int_each_1 : Enters Pr n_wait_row_int_each_1 := enters_of_B (by kernel_rfl)
def A_maps_Keys_map_string_wait_Line_string_wait_Line_1 : Ann := (.seq .auto (.one [] (.seq .auto (.seq (.cond .auto .auto) .auto none) none)) none)
def F_maps_Keys_map_string_wait_Line_string_wait_Line_1 (p0 : FV) (c0 : Addr) (K : Value → PT) : PT :=
 L.load (.one (.map)) c0 fun (x1 : Option Nat) =>
 L.sem Pr (.one (.one .ptr)) (Instr.range T_map_string_p_wait_Line (.map x1)) fun (it2 : Option Addr) =>
 L.loop (Y := Unit) (()) fun y3 again4 =>
 L.next Pr [(.one (.str)), (.one (.ptr))] (Instr.next (.pointer it2) false T_) (
  K (.tuple #[])) fun (x5 : ByteArray × Option Addr × Unit) =>
 L.sem Pr (.tup [(.one (.str)), (.one (.ptr))]) (Instr.entry (.pointer it2)) fun (x6 : ByteArray × Option Addr × Unit) =>
 L.callV Pr (.func p0.fn p0.fs p0.cs) [.string x6.1] (.one (.one (.bool))) fun (x7 : Bool) =>
 L.ite (!x7) (
  K (.tuple #[])) <|
 again4 (())
theorem D_maps_Keys_map_string_wait_Line_string_wait_Line_1 (p0 : FV) (c0 : Addr) (K : Value → PT) : denF Pr Dt Tryz.f230 A_maps_Keys_map_string_wait_Line_string_wait_Line_1 [.v (.func p0.fn p0.fs p0.cs), .v (.pointer (some c0))] K = F_maps_Keys_map_string_wait_Line_string_wait_Line_1 p0 c0 K := by kernel_rfl
theorem C_maps_Keys_map_string_wait_Line_string_wait_Line_1 (p0 : FV) (c0 : Addr) {K : Value → PT} {w : World} (h : F_maps_Keys_map_string_wait_Line_string_wait_Line_1 p0 c0 K w) : Calls Pr n_maps_Keys_map_string_wait_Line_string_wait_Line_1 [.func p0.fn p0.fs p0.cs, .pointer (some c0)].toArray w fun e w2 => ∃ v, e = .returned v ∧ K v w2 :=
  denF_ok Tok (f := 230) (fn := Tryz.f230) (an := A_maps_Keys_map_string_wait_Line_string_wait_Line_1) (args := [.v (.func p0.fn p0.fs p0.cs), .v (.pointer (some c0))]) (by kernel_rfl) (by kernel_rfl) ((congrFun (D_maps_Keys_map_string_wait_Line_string_wait_Line_1 p0 c0 K) w).mpr h)
theorem E_maps_Keys_map_string_wait_Line_string_wait_Line_1 : Enters Pr n_maps_Keys_map_string_wait_Line_string_wait_Line_1 := enters_of_B (by kernel_rfl)
def A_slices_AppendSeq_string_string : Ann := (.seq .auto (.seq (.seq .auto (.seq .auto .auto (some [(7, (.one (.str)))])) none) .auto none) none)
def F_slices_AppendSeq_string_string (p0 : Sl) (p1 : FV) (K : Value → PT) : PT :=
 L.new [.slice p0.a p0.len p0.cap] T_s_string fun b1 =>
 L.range Pr none (.func p1.fn p1.fs p1.cs) [(.one (.str))] (fun l2 (y3 : ByteArray × Unit) R4 =>
  L.begin Pr l2 <|
  L.load (.one (.slice)) (⟨b1, 0, none⟩) fun (x7 : Sl) =>
  L.new [.string y3.1] T_string fun b8 =>
  L.sem Pr (.one (.one .slice)) (Builtin.append_ #[T_s_string, T_s_string] T_s_string #[.slice x7.a x7.len x7.cap, .slice (some ⟨b8, 0, none⟩) 1 1]) fun (s9 : Sl) =>
  L.store (⟨b1, 0, none⟩) [.slice s9.a s9.len s9.cap] <|
  L.endRound Pr l2 none R4) fun d5 j6 =>
 L.jump j6 (
  L.load (.one (.slice)) (⟨b1, 0, none⟩) fun (x10 : Sl) =>
  L.unmark Pr (d5 ++ []) <|
  K (.slice x10.a x10.len x10.cap)) (
  L.unmark Pr (d5 ++ []) <|
  K (.slice none 0 0)) []
theorem D_slices_AppendSeq_string_string (p0 : Sl) (p1 : FV) (K : Value → PT) : denF Pr Dt Tryz.f243 A_slices_AppendSeq_string_string [.v (.slice p0.a p0.len p0.cap), .v (.func p1.fn p1.fs p1.cs)] K = F_slices_AppendSeq_string_string p0 p1 K := by kernel_rfl
theorem C_slices_AppendSeq_string_string (p0 : Sl) (p1 : FV) {K : Value → PT} {w : World} (h : F_slices_AppendSeq_string_string p0 p1 K w) : Calls Pr n_slices_AppendSeq_string_string [.slice p0.a p0.len p0.cap, .func p1.fn p1.fs p1.cs].toArray w fun e w2 => ∃ v, e = .returned v ∧ K v w2 :=
  denF_ok Tok (f := 243) (fn := Tryz.f243) (an := A_slices_AppendSeq_string_string) (args := [.v (.slice p0.a p0.len p0.cap), .v (.func p1.fn p1.fs p1.cs)]) (by kernel_rfl) (by kernel_rfl) ((congrFun (D_slices_AppendSeq_string_string p0 p1 K) w).mpr h)
end Go.Proofs.YtkebppklbobjcaaGreatDoor
