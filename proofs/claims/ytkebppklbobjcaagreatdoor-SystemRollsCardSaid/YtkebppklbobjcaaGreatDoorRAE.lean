/- What is proved on the way to a statement of the seat, pressed (text AE). No conditions beyond those its theorems state. -/
import Derived.Test.YtkebppklbobjcaaGreatDoorRAD
set_option linter.all false
namespace Go.Proofs.YtkebppklbobjcaaGreatDoor
set_option maxRecDepth 100000
open Go.Dm
theorem C_wait_Line_Late (p0 : Option Addr) (p1 : Int) {K : Value → PT} {w : World} (h : F_wait_Line_Late p0 p1 K w) : CT Pr n_wait_Line_Late [.pointer p0, .int .i64 p1] K w :=
 C_of (fn := Tryz.f144) (an := .auto) (args := [.v (.pointer p0), .v (.int .i64 p1)]) (by kernel_rfl) (by kernel_rfl) (by kernel_rfl) h
def F_gauge_ring_int_add (p0 : Option Addr) (p1 : Int) (K : Value → PT) : PT :=
 L.draw <|
 L.nonnil p0 fun a1 =>
 L.load eI6 (a1.add 60) fun (x2 : Int) =>
 L.guard (60 ≠ (0 : Int)) <|
 L.nonnil p0 fun a3 =>
 L.idx (some (a3.add 0)) (Int.tmod x2 60) 60 1 fun a4 =>
 L.store a4 [.int .i64 p1] <|
 L.nonnil p0 fun a5 =>
 L.load eI6 (a5.add 60) fun (x6 : Int) =>
 L.nonnil p0 fun a7 =>
 L.store (a7.add 60) [.int .i64 (IntKind.wrap .i64 (x6 + 1))] <|
 K (.tuple #[])
theorem C_gauge_ring_int_add (p0 : Option Addr) (p1 : Int) {K : Value → PT} {w : World} (h : F_gauge_ring_int_add p0 p1 K w) : CT Pr n_gauge_ring_int_add [.pointer p0, .int .i64 p1] K w :=
 C_of (fn := Tryz.f145) (an := .auto) (args := [.v (.pointer p0), .v (.int .i64 p1)]) (by kernel_rfl) (by kernel_rfl) (by kernel_rfl) h
def A_gate_Gate_Inside : Ann := (.seq .auto (.seq (.seq .auto (.one [(5, (.one (.slice)))] (.seq .auto (.seq (.cond .auto .auto) .auto none) none)) none) (.seq .auto (.seq .auto .auto (some [(4, (.one (.slice)))])) none) none) none)
def F_gate_Gate_Inside (p0 : Option Addr) (p1 : ByteArray) (K : Value → PT) : PT :=
 L.nonnil p0 fun a1 =>
 L.load (.one (.map)) (a1.add 1) fun (x2 : Option Nat) =>
 L.sem Pr (.one (.one .ptr)) (Instr.range T_map_int_gate_request (.map x2)) fun (it3 : Option Addr) =>
 L.loop (Y := Sl × Unit) (⟨none, 0, 0⟩, ()) fun y4 again5 =>
 L.next Pr [eI6, (.agg [.str, .int .i64])] (Instr.next (.pointer it3) false T_) (
  L.call Pr n_slices_Sort_int_int [.slice y4.1.a y4.1.len y4.1.cap] (.tup []) fun (x7 : Unit) =>
  L.join (Y := Sl × Unit) (fun k8 =>
   L.nonnil p0 fun a10 =>
   L.load (.one (.map)) ((a10.add 2).add 0) fun (x11 : Option Nat) =>
   L.semR Pr (.tup [eP6, .one .bool]) (Instr.lookup T_map_string_p_wait_Line (.map x11) (.string p1) true) fun (x12 : Option Addr × Bool × Unit) =>
   L.ite x12.2.1 (
    L.call Pr n_wait_Line_All [.pointer x12.1] rL fun (x13 : Sl) =>
    k8 (⟨x13.a, x13.len, x13.cap⟩, ())) <|
   k8 (⟨none, 0, 0⟩, ())) fun z9 =>
  L.call Pr n_slices_Clone_int_int [.slice y4.1.a y4.1.len y4.1.cap] rL fun (x14 : Sl) =>
  K (.tuple #[.slice z9.1.a z9.1.len z9.1.cap, .slice x14.a x14.len x14.cap])) fun (x6 : pt21) =>
 L.sem Pr (.tup [eI6, (.agg [.str, .int .i64])]) (Instr.entry (.pointer it3)) fun (x15 : pt21) =>
 L.new [.string s_, .int .i64 0] T_gate_request fun b16 =>
 L.store (⟨b16, 0, none⟩) [.string x15.2.1.1, .int .i64 x15.2.1.2.1] <|
 L.load (.agg [.str, .int .i64]) (⟨b16, 0, none⟩) fun (x17 : ByteArray × Int × Unit) =>
 L.chkSem Pr (do eqGuard .eql T_gate_request (.tmp 0) (.tmp 0) (.agg #[.string x17.1, .int .i64 x17.2.1]) (.agg #[.string p1, .int .i64 1]); binOp .eql T_gate_request (.agg #[.string x17.1, .int .i64 x17.2.1]) (.agg #[.string p1, .int .i64 1])) (.bool ((x17.1 == p1) && ((x17.2.1 == 1) && true))) <|
 L.ite ((x17.1 == p1) && ((x17.2.1 == 1) && true)) (
  L.new [.int .i64 x15.1] T_int fun b18 =>
  L.sem Pr (.one (.one .slice)) (Builtin.append_ #[T_s_int, T_s_int] T_s_int #[.slice y4.1.a y4.1.len y4.1.cap, .slice (some ⟨b18, 0, none⟩) 1 1]) fun (s19 : Sl) =>
  again5 (⟨s19.a, s19.len, s19.cap⟩, ())) <|
 again5 (⟨y4.1.a, y4.1.len, y4.1.cap⟩, ())
theorem C_gate_Gate_Inside (p0 : Option Addr) (p1 : ByteArray) {K : Value → PT} {w : World} (h : F_gate_Gate_Inside p0 p1 K w) : CT Pr n_gate_Gate_Inside [.pointer p0, .string p1] K w :=
 C_of (fn := Tryz.f146) (an := A_gate_Gate_Inside) (args := [.v (.pointer p0), .v (.string p1)]) (by kernel_rfl) (by kernel_rfl) (by kernel_rfl) h
def F_shelf_rack_api_Config_get (p0 : Option Addr) (p1 : ByteArray) (K : Value → PT) : PT :=
 L.new [.string s_, .int .i64 0, .int .i64 0, .int .i64 0, .int .i64 0, .int .i64 0, .int .i64 0, .int .i64 0, .bool false] T_shelf_thing_api_Config fun b1 =>
 L.nonnil p0 fun a2 =>
 L.load (.one (.map)) (a2.add 0) fun (x3 : Option Nat) =>
 L.semR Pr (.one (.agg lf10)) (Instr.lookup T_map_string_shelf_thing_api_Config (.map x3) (.string p1) false) fun (x4 : pt18) =>
 L.new [.string s_, .int .i64 0, .int .i64 0, .int .i64 0, .int .i64 0, .int .i64 0, .int .i64 0, .int .i64 0, .bool false] T_shelf_thing_api_Config fun b5 =>
 L.store (⟨b5, 0, none⟩) [.string x4.1, .int .i64 x4.2.1, .int .i64 x4.2.2.1, .int .i64 x4.2.2.2.1, .int .i64 x4.2.2.2.2.1, .int .i64 x4.2.2.2.2.2.1, .int .i64 x4.2.2.2.2.2.2.1, .int .i64 x4.2.2.2.2.2.2.2.1, .bool x4.2.2.2.2.2.2.2.2.1] <|
 L.draw <|
 L.load (.agg lf10) (⟨b5, 0, none⟩) fun (x6 : pt18) =>
 L.load eB6 ((⟨b5, 0, none⟩ : Addr).add 8) fun (x7 : Bool) =>
 L.store (⟨b1, 0, none⟩) [.string x6.1, .int .i64 x6.2.1, .int .i64 x6.2.2.1, .int .i64 x6.2.2.2.1, .int .i64 x6.2.2.2.2.1, .int .i64 x6.2.2.2.2.2.1, .int .i64 x6.2.2.2.2.2.2.1, .int .i64 x6.2.2.2.2.2.2.2.1, .bool x6.2.2.2.2.2.2.2.2.1] <|
 L.chk ((⟨b5, 0, none⟩ : Addr).add 8) [.bool x7] <|
 L.load (.agg lf10) (⟨b1, 0, none⟩) fun (x8 : pt18) =>
 K (.tuple #[(qa5 x8), .bool x7])
theorem C_shelf_rack_api_Config_get (p0 : Option Addr) (p1 : ByteArray) {K : Value → PT} {w : World} (h : F_shelf_rack_api_Config_get p0 p1 K w) : CT Pr n_shelf_rack_api_Config_get [.pointer p0, .string p1] K w :=
 C_of (fn := Tryz.f147) (an := .auto) (args := [.v (.pointer p0), .v (.string p1)]) (by kernel_rfl) (by kernel_rfl) (by kernel_rfl) h
def F_label_Rev (p0 : ByteArray) (p1 : Int) (K : Value → PT) : PT :=
 L.call Pr n_label_Name [.string p0] rB fun (x1 : Bool) =>
 L.ite (!x1) (
  K (.string s_)) <|
 L.ite (decide (p1 < 1)) (
  K (.string s_)) <|
 L.ite (decide (p1 > 999999)) (
  K (.string s_)) <|
 L.guard (((p0.size + s___b5d2.size : Nat) : Int) ≤ maxI64) <|
 L.call Pr n_strconv_Itoa [.int .i64 p1] rS fun (x2 : ByteArray) =>
 L.guard ((((p0 ++ s___b5d2).size + x2.size : Nat) : Int) ≤ maxI64) <|
 K (.string ((p0 ++ s___b5d2) ++ x2))
theorem C_label_Rev (p0 : ByteArray) (p1 : Int) {K : Value → PT} {w : World} (h : F_label_Rev p0 p1 K w) : CT Pr n_label_Rev [.string p0, .int .i64 p1] K w :=
 C_of (fn := Tryz.f148) (an := .auto) (args := [.v (.string p0), .v (.int .i64 p1)]) (by kernel_rfl) (by kernel_rfl) (by kernel_rfl) h
def F_shelf_rack_api_Route_get (p0 : Option Addr) (p1 : ByteArray) (K : Value → PT) : PT :=
 L.new [.string s_, .string s_, .slice none 0 0, .int .i64 0, .int .i64 0, .int .i64 0, .bool false] T_shelf_thing_api_Route fun b1 =>
 L.nonnil p0 fun a2 =>
 L.load (.one (.map)) (a2.add 0) fun (x3 : Option Nat) =>
 L.semR Pr (.one (.agg lf11)) (Instr.lookup T_map_string_shelf_thing_api_Route (.map x3) (.string p1) false) fun (x4 : pt19) =>
 L.new [.string s_, .string s_, .slice none 0 0, .int .i64 0, .int .i64 0, .int .i64 0, .bool false] T_shelf_thing_api_Route fun b5 =>
 L.store (⟨b5, 0, none⟩) [.string x4.1, .string x4.2.1, .slice x4.2.2.1.a x4.2.2.1.len x4.2.2.1.cap, .int .i64 x4.2.2.2.1, .int .i64 x4.2.2.2.2.1, .int .i64 x4.2.2.2.2.2.1, .bool x4.2.2.2.2.2.2.1] <|
 L.draw <|
 L.load (.agg lf11) (⟨b5, 0, none⟩) fun (x6 : pt19) =>
 L.load eB6 ((⟨b5, 0, none⟩ : Addr).add 6) fun (x7 : Bool) =>
 L.store (⟨b1, 0, none⟩) [.string x6.1, .string x6.2.1, .slice x6.2.2.1.a x6.2.2.1.len x6.2.2.1.cap, .int .i64 x6.2.2.2.1, .int .i64 x6.2.2.2.2.1, .int .i64 x6.2.2.2.2.2.1, .bool x6.2.2.2.2.2.2.1] <|
 L.chk ((⟨b5, 0, none⟩ : Addr).add 6) [.bool x7] <|
 L.load (.agg lf11) (⟨b1, 0, none⟩) fun (x8 : pt19) =>
 K (.tuple #[(qa6 x8), .bool x7])
theorem C_shelf_rack_api_Route_get (p0 : Option Addr) (p1 : ByteArray) {K : Value → PT} {w : World} (h : F_shelf_rack_api_Route_get p0 p1 K w) : CT Pr n_shelf_rack_api_Route_get [.pointer p0, .string p1] K w :=
 C_of (fn := Tryz.f149) (an := .auto) (args := [.v (.pointer p0), .v (.string p1)]) (by kernel_rfl) (by kernel_rfl) (by kernel_rfl) h
def F_lead_target (p0 : HT [.str, .str, .int .i64]) (p1 : ht2) (p2 : Option Addr) (K : Value → PT) : PT :=
 L.new [.string p0.1, .string p0.2.1, .int .i64 p0.2.2.1] T_api_Target fun b1 =>
 L.new [.string p1.1, .string p1.2.1, .slice p1.2.2.1.a p1.2.2.1.len p1.2.2.1.cap, .int .i64 p1.2.2.2.1] T_api_Route fun b2 =>
 L.load eS6 ((⟨b1, 0, none⟩ : Addr).add 0) fun (x3 : ByteArray) =>
 L.ite (x3.toList == s_.toList) (
  L.load eS6 ((⟨b2, 0, none⟩ : Addr).add 1) fun (x4 : ByteArray) =>
  L.call Pr n_stamp_Book_Latest [.pointer p2, .string x4] (.tup [eS6, eS6]) fun (x5 : ByteArray × ByteArray × Unit) =>
  L.ite (x5.2.1.toList == s_.toList) (
   K (.tuple #[.string s_, .int .i64 9])) <|
  K (.tuple #[.string x5.2.1, .int .i64 0])) <|
 L.load eS6 ((⟨b1, 0, none⟩ : Addr).add 0) fun (x6 : ByteArray) =>
 L.call Pr n_stamp_Book_Get [.pointer p2, .string x6] (.tup [(.agg lf5), eB6]) fun (x7 : pt6) =>
 L.new [.string s_, .int .i64 0, .string s_, .int .i64 0, .int .i64 0, .int .i64 0, .int .i64 0, .int .i64 0] T_api_Revision fun b8 =>
 L.store (⟨b8, 0, none⟩) [.string x7.1.1, .int .i64 x7.1.2.1, .string x7.1.2.2.1, .int .i64 x7.1.2.2.2.1, .int .i64 x7.1.2.2.2.2.1, .int .i64 x7.1.2.2.2.2.2.1, .int .i64 x7.1.2.2.2.2.2.2.1, .int .i64 x7.1.2.2.2.2.2.2.2.1] <|
 L.ite (!x7.2.1) (
  K (.tuple #[.string s_, .int .i64 6])) <|
 L.load eS6 ((⟨b1, 0, none⟩ : Addr).add 0) fun (x9 : ByteArray) =>
 L.call Pr n_stamp_Book_Proved [.pointer p2, .string x9] rB fun (x10 : Bool) =>
 L.ite (!x10) (
  K (.tuple #[.string s_, .int .i64 9])) <|
 L.load eS6 ((⟨b1, 0, none⟩ : Addr).add 0) fun (x11 : ByteArray) =>
 K (.tuple #[.string x11, .int .i64 0])
theorem C_lead_target (p0 : HT [.str, .str, .int .i64]) (p1 : ht2) (p2 : Option Addr) {K : Value → PT} {w : World} (h : F_lead_target p0 p1 p2 K w) : CT Pr n_lead_target [(.ag [.string p0.1, .string p0.2.1, .int .i64 p0.2.2.1] : SV).toV, (.ag (qc2 p1) : SV).toV, .pointer p2] K w :=
 C_of (fn := Tryz.f150) (an := .auto) (args := [.ag [.string p0.1, .string p0.2.1, .int .i64 p0.2.2.1], .ag (qc2 p1), .v (.pointer p2)]) (by kernel_rfl) (by kernel_rfl) (by kernel_rfl) h
def F_lead_inOrder_string_int (p0 : Option Nat) (K : Value → PT) : PT :=
 L.new [.map p0] T_map_string_int fun b1 =>
 K (.func (.func n_lead_inOrder_string_int_1) #[] #[.pointer (some (⟨b1, 0, none⟩))])
theorem C_lead_inOrder_string_int (p0 : Option Nat) {K : Value → PT} {w : World} (h : F_lead_inOrder_string_int p0 K w) : CT Pr n_lead_inOrder_string_int [.map p0] K w :=
 C_of (fn := Tryz.f151) (an := .auto) (args := [.v (.map p0)]) (by kernel_rfl) (by kernel_rfl) (by kernel_rfl) h
def F_lead_inOrder_string_string (p0 : Option Nat) (K : Value → PT) : PT :=
 L.new [.map p0] T_map_string_string fun b1 =>
 K (.func (.func n_lead_inOrder_string_string_1) #[] #[.pointer (some (⟨b1, 0, none⟩))])
theorem C_lead_inOrder_string_string (p0 : Option Nat) {K : Value → PT} {w : World} (h : F_lead_inOrder_string_string p0 K w) : CT Pr n_lead_inOrder_string_string [.map p0] K w :=
 C_of (fn := Tryz.f152) (an := .auto) (args := [.v (.map p0)]) (by kernel_rfl) (by kernel_rfl) (by kernel_rfl) h
def A_table_texts : Ann := (.seq .auto (.seq (.seq .auto (.one [(2, (.one (.slice))), (11, (.one (.int .i64)))] .auto) none) (.seq (.seq .auto (.one [(3, (.one (.slice))), (28, (.one (.int .i64)))] .auto) none) .auto none) none) none)
def F_table_texts (p0 : HT [.slice, .slice]) (K : Value → PT) : PT :=
 L.new [.slice p0.1.a p0.1.len p0.1.cap, .slice p0.2.1.a p0.2.1.len p0.2.1.cap] T_api_Table fun b1 =>
 L.load eL6 ((⟨b1, 0, none⟩ : Addr).add 0) fun (x2 : Sl) =>
 L.loop (Y := Sl × Int × Unit) (⟨none, 0, 0⟩, 0, ()) fun y3 again4 =>
 L.ite (decide (y3.2.1 < ((x2.len : Nat) : Int))) (
  L.idx x2.a y3.2.1 x2.len 2 fun a5 =>
  L.load (.agg [.str, .int .i64]) a5 fun (x6 : ByteArray × Int × Unit) =>
  L.new [.string s_, .int .i64 0] T_api_Share fun b7 =>
  L.store (⟨b7, 0, none⟩) [.string x6.1, .int .i64 x6.2.1] <|
  L.draw <|
  L.load eS6 ((⟨b7, 0, none⟩ : Addr).add 0) fun (x8 : ByteArray) =>
  L.load eI6 ((⟨b7, 0, none⟩ : Addr).add 1) fun (x9 : Int) =>
  L.call Pr n_strconv_Itoa [.int .i64 x9] rS fun (x10 : ByteArray) =>
  L.chk ((⟨b7, 0, none⟩ : Addr).add 0) [.string x8] <|
  L.new [.string x8, .string x10] T_table_pair fun b11 =>
  L.sem Pr (.one (.one .slice)) (Builtin.append_ #[T_s_table_pair, T_s_table_pair] T_s_table_pair #[.slice y3.1.a y3.1.len y3.1.cap, .slice (some ⟨b11, 0, none⟩) 1 1]) fun (s12 : Sl) =>
  again4 (⟨s12.a, s12.len, s12.cap⟩, IntKind.wrap .i64 (y3.2.1 + 1), ())) <|
 L.load eL6 ((⟨b1, 0, none⟩ : Addr).add 1) fun (x13 : Sl) =>
 L.loop (Y := Sl × Int × Unit) (⟨none, 0, 0⟩, 0, ()) fun y14 again15 =>
 L.ite (decide (y14.2.1 < ((x13.len : Nat) : Int))) (
  L.idx x13.a y14.2.1 x13.len 2 fun a16 =>
  L.load (.agg [.str, .str]) a16 fun (x17 : ByteArray × ByteArray × Unit) =>
  L.new [.string s_, .string s_] T_api_TagTo fun b18 =>
  L.store (⟨b18, 0, none⟩) [.string x17.1, .string x17.2.1] <|
  L.load eS6 ((⟨b18, 0, none⟩ : Addr).add 0) fun (x19 : ByteArray) =>
  L.load eS6 ((⟨b18, 0, none⟩ : Addr).add 1) fun (x20 : ByteArray) =>
  L.new [.string x19, .string x20] T_table_pair fun b21 =>
  L.sem Pr (.one (.one .slice)) (Builtin.append_ #[T_s_table_pair, T_s_table_pair] T_s_table_pair #[.slice y14.1.a y14.1.len y14.1.cap, .slice (some ⟨b21, 0, none⟩) 1 1]) fun (s22 : Sl) =>
  again15 (⟨s22.a, s22.len, s22.cap⟩, IntKind.wrap .i64 (y14.2.1 + 1), ())) <|
 K (.tuple #[.slice y3.1.a y3.1.len y3.1.cap, .slice y14.1.a y14.1.len y14.1.cap])
theorem C_table_texts (p0 : HT [.slice, .slice]) {K : Value → PT} {w : World} (h : F_table_texts p0 K w) : CT Pr n_table_texts [(.ag [.slice p0.1.a p0.1.len p0.1.cap, .slice p0.2.1.a p0.2.1.len p0.2.1.cap] : SV).toV] K w :=
 C_of (fn := Tryz.f153) (an := A_table_texts) (args := [.ag [.slice p0.1.a p0.1.len p0.1.cap, .slice p0.2.1.a p0.2.1.len p0.2.1.cap]]) (by kernel_rfl) (by kernel_rfl) (by kernel_rfl) h
def A_slices_Equal_api_Share_api_Share : Ann := (.seq .auto (.seq .auto (.seq (.seq .auto (.one [(13, (.one (.int .i64)))] .auto) none) .auto none) none) none)
def F_slices_Equal_api_Share_api_Share (p0 : Sl) (p1 : Sl) (K : Value → PT) : PT :=
 L.ite (((p0.len : Nat) : Int) != ((p1.len : Nat) : Int)) (
  K (.bool false)) <|
 L.loop (Y := Int × Unit) (0, ()) fun y1 again2 =>
 L.ite (decide (y1.1 < ((p0.len : Nat) : Int))) (
  L.draw <|
  L.idx p0.a y1.1 p0.len 2 fun a3 =>
  L.load (.agg [.str, .int .i64]) a3 fun (x4 : ByteArray × Int × Unit) =>
  L.idx p1.a y1.1 p1.len 2 fun a5 =>
  L.load (.agg [.str, .int .i64]) a5 fun (x6 : ByteArray × Int × Unit) =>
  L.chkSem Pr (do eqGuard .neq T_api_Share (.tmp 0) (.tmp 0) (.agg #[.string x4.1, .int .i64 x4.2.1]) (.agg #[.string x6.1, .int .i64 x6.2.1]); binOp .neq T_api_Share (.agg #[.string x4.1, .int .i64 x4.2.1]) (.agg #[.string x6.1, .int .i64 x6.2.1])) (.bool (!((x4.1 == x6.1) && ((x4.2.1 == x6.2.1) && true)))) <|
  L.ite (!((x4.1 == x6.1) && ((x4.2.1 == x6.2.1) && true))) (
   K (.bool false)) <|
  again2 (IntKind.wrap .i64 (y1.1 + 1), ())) <|
 K (.bool true)
theorem C_slices_Equal_api_Share_api_Share (p0 : Sl) (p1 : Sl) {K : Value → PT} {w : World} (h : F_slices_Equal_api_Share_api_Share p0 p1 K w) : CT Pr n_slices_Equal_api_Share_api_Share [.slice p0.a p0.len p0.cap, .slice p1.a p1.len p1.cap] K w :=
 C_of (fn := Tryz.f154) (an := A_slices_Equal_api_Share_api_Share) (args := [.v (.slice p0.a p0.len p0.cap), .v (.slice p1.a p1.len p1.cap)]) (by kernel_rfl) (by kernel_rfl) (by kernel_rfl) h
def A_roll_Shares : Ann := (.seq .auto (.seq (.seq .auto .auto (some [(18, (.one (.bool)))])) (.seq .auto (.seq .auto (.seq .auto (.seq (.seq .auto (.one [(11, (.one (.int .i64))), (42, (.one (.int .i64)))] (.seq .auto (.seq .auto (.seq .auto .auto (some [(11, (.one (.int .i64)))])) none) none)) none) (.seq .auto (.seq (.seq .auto (.one [(11, (.one (.int .i64))), (14, (.one (.slice))), (77, (.one (.int .i64)))] (.seq .auto (.seq .auto (.seq (.seq .auto (.seq .auto (.seq .auto .auto (some [(11, (.one (.int .i64)))])) none) none) .auto (some [(11, (.one (.int .i64))), (14, (.one (.slice)))])) none) none)) none) .auto none) none) none) none) none) none) none) none)
def F_roll_Shares (p0 : Sl) (p1 : Sl) (p2 : Int) (p3 : Int) (K : Value → PT) : PT :=
 L.join (Y := Bool × Unit) (fun k1 =>
  L.ite (decide (p3 ≤ 0)) (
   k1 (true, ())) <|
  k1 (decide (p2 ≥ p3), ())) fun z2 =>
 L.ite z2.1 (
  L.call Pr n_slices_Clone_api_Share_api_Share [.slice p1.a p1.len p1.cap] rL fun (x3 : Sl) =>
  K (.slice x3.a x3.len x3.cap)) <|
 L.ite (decide (p2 ≤ 0)) (
  L.call Pr n_slices_Clone_api_Share_api_Share [.slice p0.a p0.len p0.cap] rL fun (x4 : Sl) =>
  K (.slice x4.a x4.len x4.cap)) <|
 L.new [.slice p0.a p0.len p0.cap, .slice p1.a p1.len p1.cap] T_s_api_Share fun b5 =>
 L.call Pr n_roll_sorted_api_Share_string [.func (.func n_roll_rev) #[] #[], .slice (some ⟨b5, 0, none⟩) 2 2] rL fun (x6 : Sl) =>
 L.sem Pr (.one (.one .slice)) (Instr.makeSlice T_s_int (.int .i64 ((x6.len : Nat) : Int)) (.int .i64 ((x6.len : Nat) : Int))) fun (s7 : Sl) =>
 L.loop (Y := Int × Int × Unit) (0, 0, ()) fun y8 again9 =>
 L.ite (decide (y8.2.1 < ((x6.len : Nat) : Int))) (
  L.join (Y := Int × Unit) (fun k10 =>
   L.draw <|
   L.idx x6.a y8.2.1 x6.len 1 fun a12 =>
   L.load eS6 a12 fun (x13 : ByteArray) =>
   L.idx x6.a y8.2.1 x6.len 1 fun a14 =>
   L.load eS6 a14 fun (x15 : ByteArray) =>
   L.call Pr n_roll_Weight [.slice p1.a p1.len p1.cap, .string x13] rI fun (x16 : Int) =>
   L.chk a14 [.string x15] <|
   L.call Pr n_roll_Weight [.slice p0.a p0.len p0.cap, .string x15] rI fun (x17 : Int) =>
   L.ite (decide ((IntKind.wrap .i64 (x16 - x17)) > 0)) (
    L.guard (p3 ≠ (0 : Int)) <|
    L.idx s7.a y8.2.1 s7.len 1 fun a18 =>
    L.store a18 [.int .i64 (IntKind.wrap .i64 (Int.tdiv (IntKind.wrap .i64 ((IntKind.wrap .i64 (x16 - x17)) * p2)) p3))] <|
    L.idx s7.a y8.2.1 s7.len 1 fun a19 =>
    L.load eI6 a19 fun (x20 : Int) =>
    k10 (IntKind.wrap .i64 (y8.1 + x20), ())) <|
   k10 (y8.1, ())) fun z11 =>
  again9 (z11.1, IntKind.wrap .i64 (y8.2.1 + 1), ())) <|
 L.loop (Y := Int × Sl × Int × Unit) (y8.1, ⟨none, 0, 0⟩, 0, ()) fun y21 again22 =>
 L.ite (decide (y21.2.2.1 < ((x6.len : Nat) : Int))) (
  L.join (Y := Int × Sl × Unit) (fun k23 =>
   L.idx x6.a y21.2.2.1 x6.len 1 fun a25 =>
   L.load eS6 a25 fun (x26 : ByteArray) =>
   L.call Pr n_roll_Weight [.slice p0.a p0.len p0.cap, .string x26] rI fun (x27 : Int) =>
   L.join (Y := Int × Unit) (fun k28 =>
    L.idx x6.a y21.2.2.1 x6.len 1 fun a30 =>
    L.load eS6 a30 fun (x31 : ByteArray) =>
    L.call Pr n_roll_Weight [.slice p1.a p1.len p1.cap, .string x31] rI fun (x32 : Int) =>
    L.ite (decide ((IntKind.wrap .i64 (x27 - x32)) > 0)) (
     L.idx s7.a y21.2.2.1 s7.len 1 fun a33 =>
     L.store a33 [.int .i64 (IntKind.wrap .i64 (0 - (if y21.1 < (IntKind.wrap .i64 (x27 - x32)) then y21.1 else (IntKind.wrap .i64 (x27 - x32)))))] <|
     L.idx s7.a y21.2.2.1 s7.len 1 fun a34 =>
     L.load eI6 a34 fun (x35 : Int) =>
     k28 (IntKind.wrap .i64 (y21.1 + x35), ())) <|
    k28 (y21.1, ())) fun z29 =>
   L.idx s7.a y21.2.2.1 s7.len 1 fun a36 =>
   L.load eI6 a36 fun (x37 : Int) =>
   L.ite (decide ((IntKind.wrap .i64 (x27 + x37)) > 0)) (
    L.idx x6.a y21.2.2.1 x6.len 1 fun a38 =>
    L.load eS6 a38 fun (x39 : ByteArray) =>
    L.new [.string x39, .int .i64 (IntKind.wrap .i64 (x27 + x37))] T_api_Share fun b40 =>
    L.sem Pr (.one (.one .slice)) (Builtin.append_ #[T_s_api_Share, T_s_api_Share] T_s_api_Share #[.slice y21.2.1.a y21.2.1.len y21.2.1.cap, .slice (some ⟨b40, 0, none⟩) 1 1]) fun (s41 : Sl) =>
    k23 (z29.1, ⟨s41.a, s41.len, s41.cap⟩, ())) <|
   k23 (z29.1, ⟨y21.2.1.a, y21.2.1.len, y21.2.1.cap⟩, ())) fun z24 =>
  again22 (z24.1, ⟨z24.2.1.a, z24.2.1.len, z24.2.1.cap⟩, IntKind.wrap .i64 (y21.2.2.1 + 1), ())) <|
 L.call Pr n_slices_Clone_api_Share_api_Share [.slice y21.2.1.a y21.2.1.len y21.2.1.cap] rL fun (x42 : Sl) =>
 K (.slice x42.a x42.len x42.cap)
theorem C_roll_Shares (p0 : Sl) (p1 : Sl) (p2 : Int) (p3 : Int) {K : Value → PT} {w : World} (h : F_roll_Shares p0 p1 p2 p3 K w) : CT Pr n_roll_Shares [.slice p0.a p0.len p0.cap, .slice p1.a p1.len p1.cap, .int .i64 p2, .int .i64 p3] K w :=
 C_of (fn := Tryz.f155) (an := A_roll_Shares) (args := [.v (.slice p0.a p0.len p0.cap), .v (.slice p1.a p1.len p1.cap), .v (.int .i64 p2), .v (.int .i64 p3)]) (by kernel_rfl) (by kernel_rfl) (by kernel_rfl) h
def F_system_System_Pods (p0 : Option Addr) (p1 : ByteArray) (K : Value → PT) : PT :=
 L.nonnil p0 fun a1 =>
 L.load eP6 (a1.add 3) fun (x2 : Option Addr) =>
 L.call Pr n_fleet_Fleet_Pods [.pointer x2, .string p1] rL fun (x3 : Sl) =>
 K (.slice x3.a x3.len x3.cap)
theorem C_system_System_Pods (p0 : Option Addr) (p1 : ByteArray) {K : Value → PT} {w : World} (h : F_system_System_Pods p0 p1 K w) : CT Pr n_system_System_Pods [.pointer p0, .string p1] K w :=
 C_of (fn := Tryz.f156) (an := .auto) (args := [.v (.pointer p0), .v (.string p1)]) (by kernel_rfl) (by kernel_rfl) (by kernel_rfl) h
def A_fleet_Fleet_up : Ann := (.seq .auto (.seq .auto (.seq (.seq .auto (.seq .auto .auto (some [(11, (.one (.int .i64))), (12, (.one (.ptr)))])) none) .auto none) none) none)
def F_fleet_Fleet_up (p0 : Option Addr) (p1 : ByteArray) (K : Value → PT) : PT :=
 L.new [.int .i64 0] T_int fun b1 =>
 L.store (⟨b1, 0, none⟩) [.int .i64 0] <|
 L.call Pr n_fleet_Fleet_of [.pointer p0, .string p1] (.one (.one (.func))) fun (x2 : FV) =>
 L.range Pr none (.func x2.fn x2.fs x2.cs) [eI6, eP6] (fun l3 (y4 : Int × Option Addr × Unit) R5 =>
  L.begin Pr l3 <|
  L.call Pr n_pod_Pod_State [.pointer y4.2.1] rI fun (x8 : Int) =>
  L.ite (x8 != 3) (
   L.load eI6 (⟨b1, 0, none⟩) fun (x9 : Int) =>
   L.store (⟨b1, 0, none⟩) [.int .i64 (IntKind.wrap .i64 (x9 + 1))] <|
   L.endRound Pr l3 none R5) <|
  L.endRound Pr l3 none R5) fun d6 j7 =>
 L.jump j7 (
  L.load eI6 (⟨b1, 0, none⟩) fun (x10 : Int) =>
  L.unmark Pr (d6 ++ []) <|
  K (.int .i64 x10)) (
  L.unmark Pr (d6 ++ []) <|
  K (.int .i64 0)) []
theorem C_fleet_Fleet_up (p0 : Option Addr) (p1 : ByteArray) {K : Value → PT} {w : World} (h : F_fleet_Fleet_up p0 p1 K w) : CT Pr n_fleet_Fleet_up [.pointer p0, .string p1] K w :=
 C_of (fn := Tryz.f162) (an := A_fleet_Fleet_up) (args := [.v (.pointer p0), .v (.string p1)]) (by kernel_rfl) (by kernel_rfl) (by kernel_rfl) h
def F_pod_New (p0 : Int) (K : Value → PT) : PT :=
 L.sem Pr (.one (.one .map)) (Instr.makeMap T_map_int_bool none) fun (m1 : Option Nat) =>
 L.new [.int .i64 1, .map m1, .int .i64 p0] T_pod_Pod fun b2 =>
 K (.pointer (some (⟨b2, 0, none⟩)))
theorem C_pod_New (p0 : Int) {K : Value → PT} {w : World} (h : F_pod_New p0 K w) : CT Pr n_pod_New [.int .i64 p0] K w :=
 C_of (fn := Tryz.f163) (an := .auto) (args := [.v (.int .i64 p0)]) (by kernel_rfl) (by kernel_rfl) (by kernel_rfl) h
def A_fleet_Fleet_spare : Ann := (.seq .auto (.seq .auto (.seq (.seq .auto (.seq .auto (.seq .auto (.seq .auto (.cond .auto .auto) none) none) (some [(13, (.one (.int .i64))), (14, (.one (.ptr)))])) none) .auto none) none) none)
def F_fleet_Fleet_spare (p0 : Option Addr) (p1 : ByteArray) (K : Value → PT) : PT :=
 L.new [.int .i64 0] T_int fun b1 =>
 L.new [.int .i64 0] T_int fun b2 =>
 L.new [.int .i64 0] T_int fun b3 =>
 L.store (⟨b1, 0, none⟩) [.int .i64 0] <|
 L.store (⟨b2, 0, none⟩) [.int .i64 3] <|
 L.store (⟨b3, 0, none⟩) [.int .i64 0] <|
 L.call Pr n_fleet_Fleet_of [.pointer p0, .string p1] (.one (.one (.func))) fun (x4 : FV) =>
 L.range Pr none (.func x4.fn x4.fs x4.cs) [eI6, eP6] (fun l5 (y6 : Int × Option Addr × Unit) R7 =>
  L.begin Pr l5 <|
  L.call Pr n_pod_Pod_State [.pointer y6.2.1] rI fun (x10 : Int) =>
  L.ite (x10 == 3) (
   L.endRound Pr l5 none R7) <|
  L.draw <|
  L.load eI6 (⟨b2, 0, none⟩) fun (x11 : Int) =>
  L.call Pr n_pod_Pod_State [.pointer y6.2.1] rI fun (x12 : Int) =>
  L.chk (⟨b2, 0, none⟩) [.int .i64 x11] <|
  L.ite (decide (x12 < x11)) (
   L.call Pr n_pod_Pod_State [.pointer y6.2.1] rI fun (x13 : Int) =>
   L.call Pr n_pod_Pod_Load [.pointer y6.2.1] rI fun (x14 : Int) =>
   L.store (⟨b1, 0, none⟩) [.int .i64 y6.1] <|
   L.store (⟨b2, 0, none⟩) [.int .i64 x13] <|
   L.store (⟨b3, 0, none⟩) [.int .i64 x14] <|
   L.endRound Pr l5 none R7) <|
  L.load eI6 (⟨b2, 0, none⟩) fun (x15 : Int) =>
  L.call Pr n_pod_Pod_State [.pointer y6.2.1] rI fun (x16 : Int) =>
  L.chk (⟨b2, 0, none⟩) [.int .i64 x15] <|
  L.ite (x16 == x15) (
   L.load eI6 (⟨b3, 0, none⟩) fun (x17 : Int) =>
   L.call Pr n_pod_Pod_Load [.pointer y6.2.1] rI fun (x18 : Int) =>
   L.chk (⟨b3, 0, none⟩) [.int .i64 x17] <|
   L.ite (decide (x18 ≤ x17)) (
    L.call Pr n_pod_Pod_State [.pointer y6.2.1] rI fun (x19 : Int) =>
    L.call Pr n_pod_Pod_Load [.pointer y6.2.1] rI fun (x20 : Int) =>
    L.store (⟨b1, 0, none⟩) [.int .i64 y6.1] <|
    L.store (⟨b2, 0, none⟩) [.int .i64 x19] <|
    L.store (⟨b3, 0, none⟩) [.int .i64 x20] <|
    L.endRound Pr l5 none R7) <|
   L.endRound Pr l5 none R7) <|
  L.endRound Pr l5 none R7) fun d8 j9 =>
 L.jump j9 (
  L.load eI6 (⟨b1, 0, none⟩) fun (x21 : Int) =>
  L.unmark Pr (d8 ++ []) <|
  K (.int .i64 x21)) (
  L.unmark Pr (d8 ++ []) <|
  K (.int .i64 0)) []
theorem C_fleet_Fleet_spare (p0 : Option Addr) (p1 : ByteArray) {K : Value → PT} {w : World} (h : F_fleet_Fleet_spare p0 p1 K w) : CT Pr n_fleet_Fleet_spare [.pointer p0, .string p1] K w :=
 C_of (fn := Tryz.f164) (an := A_fleet_Fleet_spare) (args := [.v (.pointer p0), .v (.string p1)]) (by kernel_rfl) (by kernel_rfl) (by kernel_rfl) h
def A_pod_Pod_Drain : Ann := (.seq .auto (.seq (.seq .auto (.cond .auto .auto) none) .auto (some [])) none)
def F_pod_Pod_Drain (p0 : Option Addr) (K : Value → PT) : PT :=
 L.join (Y := Unit) (fun k1 =>
  L.nonnil p0 fun a3 =>
  L.load eI6 (a3.add 0) fun (x4 : Int) =>
  L.ite (x4 != 1) (
   L.nonnil p0 fun a5 =>
   L.load eI6 (a5.add 0) fun (x6 : Int) =>
   L.ite (x6 != 2) (
    K (.int .i64 9)) <|
   k1 (())) <|
  k1 (())) fun z2 =>
 L.nonnil p0 fun a7 =>
 L.store (a7.add 0) [.int .i64 3] <|
 L.call Pr n_pod_Pod_end [.pointer p0] (.tup []) fun (x8 : Unit) =>
 K (.int .i64 0)
theorem C_pod_Pod_Drain (p0 : Option Addr) {K : Value → PT} {w : World} (h : F_pod_Pod_Drain p0 K w) : CT Pr n_pod_Pod_Drain [.pointer p0] K w :=
 C_of (fn := Tryz.f165) (an := A_pod_Pod_Drain) (args := [.v (.pointer p0)]) (by kernel_rfl) (by kernel_rfl) (by kernel_rfl) h
def F_slices_Clone_int_int (p0 : Sl) (K : Value → PT) : PT :=
 L.ite ((p0.a).isNone) (
  K (.slice none 0 0)) <|
 L.new [] T_int fun b1 =>
 L.sem Pr (.one (.one .slice)) (Builtin.append_ #[T_s_int, T_s_int] T_s_int #[.slice (some ⟨b1, 0, none⟩) 0 0, .slice p0.a p0.len p0.cap]) fun (s2 : Sl) =>
 K (.slice s2.a s2.len s2.cap)
theorem C_slices_Clone_int_int (p0 : Sl) {K : Value → PT} {w : World} (h : F_slices_Clone_int_int p0 K w) : CT Pr n_slices_Clone_int_int [.slice p0.a p0.len p0.cap] K w :=
 C_of (fn := Tryz.f166) (an := .auto) (args := [.v (.slice p0.a p0.len p0.cap)]) (by kernel_rfl) (by kernel_rfl) (by kernel_rfl) h
def F_slices_Clone_api_Share_api_Share (p0 : Sl) (K : Value → PT) : PT :=
 L.ite ((p0.a).isNone) (
  K (.slice none 0 0)) <|
 L.new [] T_api_Share fun b1 =>
 L.sem Pr (.one (.one .slice)) (Builtin.append_ #[T_s_api_Share, T_s_api_Share] T_s_api_Share #[.slice (some ⟨b1, 0, none⟩) 0 0, .slice p0.a p0.len p0.cap]) fun (s2 : Sl) =>
 K (.slice s2.a s2.len s2.cap)
theorem C_slices_Clone_api_Share_api_Share (p0 : Sl) {K : Value → PT} {w : World} (h : F_slices_Clone_api_Share_api_Share p0 K w) : CT Pr n_slices_Clone_api_Share_api_Share [.slice p0.a p0.len p0.cap] K w :=
 C_of (fn := Tryz.f167) (an := .auto) (args := [.v (.slice p0.a p0.len p0.cap)]) (by kernel_rfl) (by kernel_rfl) (by kernel_rfl) h
def F_slices_Clone_api_TagTo_api_TagTo (p0 : Sl) (K : Value → PT) : PT :=
 L.ite ((p0.a).isNone) (
  K (.slice none 0 0)) <|
 L.new [] T_api_TagTo fun b1 =>
 L.sem Pr (.one (.one .slice)) (Builtin.append_ #[T_s_api_TagTo, T_s_api_TagTo] T_s_api_TagTo #[.slice (some ⟨b1, 0, none⟩) 0 0, .slice p0.a p0.len p0.cap]) fun (s2 : Sl) =>
 K (.slice s2.a s2.len s2.cap)
theorem C_slices_Clone_api_TagTo_api_TagTo (p0 : Sl) {K : Value → PT} {w : World} (h : F_slices_Clone_api_TagTo_api_TagTo p0 K w) : CT Pr n_slices_Clone_api_TagTo_api_TagTo [.slice p0.a p0.len p0.cap] K w :=
 C_of (fn := Tryz.f168) (an := .auto) (args := [.v (.slice p0.a p0.len p0.cap)]) (by kernel_rfl) (by kernel_rfl) (by kernel_rfl) h
def F_slices_Sorted_string (p0 : FV) (K : Value → PT) : PT :=
 L.call Pr n_slices_Collect_string [.func p0.fn p0.fs p0.cs] rL fun (x1 : Sl) =>
 L.call Pr n_slices_Sort_string_string [.slice x1.a x1.len x1.cap] (.tup []) fun (x2 : Unit) =>
 K (.slice x1.a x1.len x1.cap)
theorem C_slices_Sorted_string (p0 : FV) {K : Value → PT} {w : World} (h : F_slices_Sorted_string p0 K w) : CT Pr n_slices_Sorted_string [.func p0.fn p0.fs p0.cs] K w :=
 C_of (fn := Tryz.f169) (an := .auto) (args := [.v (.func p0.fn p0.fs p0.cs)]) (by kernel_rfl) (by kernel_rfl) (by kernel_rfl) h
def F_maps_Keys_stamp_shelf_api_Revision_string_api_Revision (p0 : Option Nat) (K : Value → PT) : PT :=
 L.new [.map p0] T_stamp_shelf_api_Revision fun b1 =>
 K (.func (.func n_maps_Keys_stamp_shelf_api_Revision_string_api_Revision_1) #[] #[.pointer (some (⟨b1, 0, none⟩))])
theorem C_maps_Keys_stamp_shelf_api_Revision_string_api_Revision (p0 : Option Nat) {K : Value → PT} {w : World} (h : F_maps_Keys_stamp_shelf_api_Revision_string_api_Revision p0 K w) : CT Pr n_maps_Keys_stamp_shelf_api_Revision_string_api_Revision [.map p0] K w :=
 C_of (fn := Tryz.f170) (an := .auto) (args := [.v (.map p0)]) (by kernel_rfl) (by kernel_rfl) (by kernel_rfl) h
def F_label_sign (p0 : Int) (K : Value → PT) : PT :=
 L.call Pr n_label_letter [.int .i32 p0] rB fun (x1 : Bool) =>
 L.ite x1 (
  K (.bool true)) <|
 L.ite (decide (p0 ≥ 48)) (
  L.ite (decide (p0 ≤ 57)) (
   K (.bool true)) <|
  K (.bool (p0 == 45))) <|
 K (.bool (p0 == 45))
theorem C_label_sign (p0 : Int) {K : Value → PT} {w : World} (h : F_label_sign p0 K w) : CT Pr n_label_sign [.int .i32 p0] K w :=
 C_of (fn := Tryz.f173) (an := .auto) (args := [.v (.int .i32 p0)]) (by kernel_rfl) (by kernel_rfl) (by kernel_rfl) h
def F_label_letter (p0 : Int) (K : Value → PT) : PT :=
 L.ite (decide (p0 ≥ 97)) (
  K (.bool (decide (p0 ≤ 122)))) <|
 K (.bool false)
theorem C_label_letter (p0 : Int) {K : Value → PT} {w : World} (h : F_label_letter p0 K w) : CT Pr n_label_letter [.int .i32 p0] K w :=
 C_of (fn := Tryz.f174) (an := .auto) (args := [.v (.int .i32 p0)]) (by kernel_rfl) (by kernel_rfl) (by kernel_rfl) h
def F_slices_ContainsFunc_api_Target_api_Target (p0 : Sl) (p1 : FV) (K : Value → PT) : PT :=
 L.call Pr n_slices_IndexFunc_api_Target_api_Target [.slice p0.a p0.len p0.cap, .func p1.fn p1.fs p1.cs] rI fun (x1 : Int) =>
 K (.bool (decide (x1 ≥ 0)))
theorem C_slices_ContainsFunc_api_Target_api_Target (p0 : Sl) (p1 : FV) {K : Value → PT} {w : World} (h : F_slices_ContainsFunc_api_Target_api_Target p0 p1 K w) : CT Pr n_slices_ContainsFunc_api_Target_api_Target [.slice p0.a p0.len p0.cap, .func p1.fn p1.fs p1.cs] K w :=
 C_of (fn := Tryz.f175) (an := .auto) (args := [.v (.slice p0.a p0.len p0.cap), .v (.func p1.fn p1.fs p1.cs)]) (by kernel_rfl) (by kernel_rfl) (by kernel_rfl) h
def F_spec_all_1 (p0 : HT [.str, .str, .int .i64]) (c0 : Addr) (K : Value → PT) : PT :=
 L.new [.string p0.1, .string p0.2.1, .int .i64 p0.2.2.1] T_api_Target fun b1 =>
 L.load eS6 ((⟨b1, 0, none⟩ : Addr).add 1) fun (x2 : ByteArray) =>
 L.load eS6 (c0.add 1) fun (x3 : ByteArray) =>
 K (.bool (x2.toList == x3.toList))
theorem C_spec_all_1 (p0 : HT [.str, .str, .int .i64]) (c0 : Addr) {K : Value → PT} {w : World} (h : F_spec_all_1 p0 c0 K w) : CT Pr n_spec_all_1 [(.ag [.string p0.1, .string p0.2.1, .int .i64 p0.2.2.1] : SV).toV, .pointer (some c0)] K w :=
 C_of (fn := Tryz.f176) (an := .auto) (args := [.ag [.string p0.1, .string p0.2.1, .int .i64 p0.2.2.1], .v (.pointer (some c0))]) (by kernel_rfl) (by kernel_rfl) (by kernel_rfl) h
theorem E_spec_all_1 : Enters Pr n_spec_all_1 := enters_of_B (by kernel_rfl)
def F_slices_Clone_api_Target_api_Target (p0 : Sl) (K : Value → PT) : PT :=
 L.ite ((p0.a).isNone) (
  K (.slice none 0 0)) <|
 L.new [] T_api_Target fun b1 =>
 L.sem Pr (.one (.one .slice)) (Builtin.append_ #[T_s_api_Target, T_s_api_Target] T_s_api_Target #[.slice (some ⟨b1, 0, none⟩) 0 0, .slice p0.a p0.len p0.cap]) fun (s2 : Sl) =>
 K (.slice s2.a s2.len s2.cap)
theorem C_slices_Clone_api_Target_api_Target (p0 : Sl) {K : Value → PT} {w : World} (h : F_slices_Clone_api_Target_api_Target p0 K w) : CT Pr n_slices_Clone_api_Target_api_Target [.slice p0.a p0.len p0.cap] K w :=
 C_of (fn := Tryz.f180) (an := .auto) (args := [.v (.slice p0.a p0.len p0.cap)]) (by kernel_rfl) (by kernel_rfl) (by kernel_rfl) h
def A_fleet_Fleet_Take : Ann := (.seq .auto (.seq .auto (.seq .auto (.seq (.seq .auto (.seq .auto .auto (some [(28, (.one (.int .i64))), (29, (.one (.ptr)))])) none) (.seq .auto (.seq (.seq .auto (.one [(41, (.one (.int .i64)))] .auto) none) .auto none) none) none) none) none) none)
def F_fleet_Fleet_Take (p0 : Option Addr) (p1 : ByteArray) (p2 : Int) (K : Value → PT) : PT :=
 L.nonnil p0 fun a1 =>
 L.load (.one (.map)) (a1.add 1) fun (x2 : Option Nat) =>
 L.semR Pr (.tup [eI6, .one .bool]) (Instr.lookup T_map_int_int (.map x2) (.int .i64 p2) true) fun (x3 : Int × Bool × Unit) =>
 L.ite x3.2.1 (
  K (.tuple #[.int .i64 0, .bool false])) <|
 L.new [.slice none 0 0] T_s_fleet_choice fun b4 =>
 L.call Pr n_fleet_Fleet_of [.pointer p0, .string p1] (.one (.one (.func))) fun (x5 : FV) =>
 L.range Pr none (.func x5.fn x5.fs x5.cs) [eI6, eP6] (fun l6 (y7 : Int × Option Addr × Unit) R8 =>
  L.begin Pr l6 <|
  L.draw <|
  L.load eL6 (⟨b4, 0, none⟩) fun (x11 : Sl) =>
  L.call Pr n_pod_Pod_Load [.pointer y7.2.1] rI fun (x12 : Int) =>
  L.chk (⟨b4, 0, none⟩) [.slice x11.a x11.len x11.cap] <|
  L.new [.int .i64 x12, .int .i64 y7.1] T_fleet_choice fun b13 =>
  L.chk (⟨b4, 0, none⟩) [.slice x11.a x11.len x11.cap] <|
  L.sem Pr (.one (.one .slice)) (Builtin.append_ #[T_s_fleet_choice, T_s_fleet_choice] T_s_fleet_choice #[.slice x11.a x11.len x11.cap, .slice (some ⟨b13, 0, none⟩) 1 1]) fun (s14 : Sl) =>
  L.store (⟨b4, 0, none⟩) [.slice s14.a s14.len s14.cap] <|
  L.endRound Pr l6 none R8) fun d9 j10 =>
 L.jump j10 (
  L.load eL6 (⟨b4, 0, none⟩) fun (x15 : Sl) =>
  L.call Pr n_slices_SortStableFunc_fleet_choice_fleet_choice [.slice x15.a x15.len x15.cap, .func (.func n_fleet_Fleet_Take_1) #[] #[]] (.tup []) fun (x16 : Unit) =>
  L.load eL6 (⟨b4, 0, none⟩) fun (x17 : Sl) =>
  L.loop (Y := Int × Unit) (0, ()) fun y18 again19 =>
  L.ite (decide (y18.1 < ((x17.len : Nat) : Int))) (
   L.idx x17.a y18.1 x17.len 2 fun a20 =>
   L.load (.agg [.int .i64, .int .i64]) a20 fun (x21 : Int × Int × Unit) =>
   L.new [.int .i64 0, .int .i64 0] T_fleet_choice fun b22 =>
   L.store (⟨b22, 0, none⟩) [.int .i64 x21.1, .int .i64 x21.2.1] <|
   L.draw <|
   L.nonnil p0 fun a23 =>
   L.load (.one (.map)) (a23.add 0) fun (x24 : Option Nat) =>
   L.load eI6 ((⟨b22, 0, none⟩ : Addr).add 1) fun (x25 : Int) =>
   L.semR Pr (.one (.agg [.str, .ptr])) (Instr.lookup T_map_int_fleet_one (.map x24) (.int .i64 x25) false) fun (x26 : ByteArray × Option Addr × Unit) =>
   L.call Pr n_pod_Pod_Take [.pointer x26.2.1, .int .i64 p2] rI fun (x27 : Int) =>
   L.ite (x27 == 0) (
    L.draw <|
    L.nonnil p0 fun a28 =>
    L.load (.one (.map)) (a28.add 1) fun (x29 : Option Nat) =>
    L.load eI6 ((⟨b22, 0, none⟩ : Addr).add 1) fun (x30 : Int) =>
    L.semU Pr (Instr.mapUpdate T_map_int_int (.map x29) (.int .i64 p2) (.int .i64 x30)) <|
    L.load eI6 ((⟨b22, 0, none⟩ : Addr).add 1) fun (x31 : Int) =>
    L.unmark Pr (d9 ++ []) <|
    K (.tuple #[.int .i64 x31, .bool true])) <|
   again19 (IntKind.wrap .i64 (y18.1 + 1), ())) <|
  L.unmark Pr (d9 ++ []) <|
  K (.tuple #[.int .i64 0, .bool false])) (
  L.unmark Pr (d9 ++ []) <|
  K (.tuple #[.int .i64 0, .bool false])) []
theorem C_fleet_Fleet_Take (p0 : Option Addr) (p1 : ByteArray) (p2 : Int) {K : Value → PT} {w : World} (h : F_fleet_Fleet_Take p0 p1 p2 K w) : CT Pr n_fleet_Fleet_Take [.pointer p0, .string p1, .int .i64 p2] K w :=
 C_of (fn := Tryz.f183) (an := A_fleet_Fleet_Take) (args := [.v (.pointer p0), .v (.string p1), .v (.int .i64 p2)]) (by kernel_rfl) (by kernel_rfl) (by kernel_rfl) h
def A_system_lines_1 : Ann := (.seq .auto (.one [(7, (.one (.int .i64)))] .auto) none)
def F_system_lines_1 (p0 : FV) (c0 : Addr) (K : Value → PT) : PT :=
 L.load eL6 c0 fun (x1 : Sl) =>
 L.loop (Y := Int × Unit) (0, ()) fun y2 again3 =>
 L.ite (decide (y2.1 < ((x1.len : Nat) : Int))) (
  L.idx x1.a y2.1 x1.len 4 fun a4 =>
  L.load (.agg [.int .i64, .int .i64, .int .i64, .str]) a4 fun (x5 : pt10) =>
  L.new [.int .i64 0, .int .i64 0, .int .i64 0, .string s_] T_gate_Fate fun b6 =>
  L.store (⟨b6, 0, none⟩) [.int .i64 x5.1, .int .i64 x5.2.1, .int .i64 x5.2.2.1, .string x5.2.2.2.1] <|
  L.load (.agg [.int .i64, .int .i64, .int .i64, .str]) (⟨b6, 0, none⟩) fun (x7 : pt10) =>
  L.call Pr n_system_fate [.agg #[.int .i64 x7.1, .int .i64 x7.2.1, .int .i64 x7.2.2.1, .string x7.2.2.2.1]] rS fun (x8 : ByteArray) =>
  L.callV Pr (.func p0.fn p0.fs p0.cs) [.string x8] rB fun (x9 : Bool) =>
  L.ite (!x9) (
   K (.tuple #[])) <|
  again3 (IntKind.wrap .i64 (y2.1 + 1), ())) <|
 K (.tuple #[])
theorem C_system_lines_1 (p0 : FV) (c0 : Addr) {K : Value → PT} {w : World} (h : F_system_lines_1 p0 c0 K w) : CT Pr n_system_lines_1 [.func p0.fn p0.fs p0.cs, .pointer (some c0)] K w :=
 C_of (fn := Tryz.f185) (an := A_system_lines_1) (args := [.v (.func p0.fn p0.fs p0.cs), .v (.pointer (some c0))]) (by kernel_rfl) (by kernel_rfl) (by kernel_rfl) h
theorem E_system_lines_1 : Enters Pr n_system_lines_1 := enters_of_B (by kernel_rfl)
def A_system_fate : Ann := (.seq .auto (.seq .auto (.seq (.one [(2, (.one (.str)))] .auto) .auto none) none) none)
def F_system_fate (p0 : ht3) (K : Value → PT) : PT :=
 L.new [.int .i64 p0.1, .int .i64 p0.2.1, .int .i64 p0.2.2.1, .string p0.2.2.2.1] T_gate_Fate fun b1 =>
 L.load eI6 ((⟨b1, 0, none⟩ : Addr).add 1) fun (x2 : Int) =>
 L.ite (x2 == 1) (
  L.load eI6 ((⟨b1, 0, none⟩ : Addr).add 0) fun (x3 : Int) =>
  L.load eI6 ((⟨b1, 0, none⟩ : Addr).add 2) fun (x4 : Int) =>
  L.new [.int .i64 x3, .int .i64 x4] T_int fun b5 =>
  L.call Pr n_system_line_int [.string s_sent, .slice (some ⟨b5, 0, none⟩) 2 2] rS fun (x6 : ByteArray) =>
  K (.string x6)) <|
 L.ite (x2 == 2) (
  L.load eI6 ((⟨b1, 0, none⟩ : Addr).add 0) fun (x7 : Int) =>
  L.new [.int .i64 x7] T_int fun b8 =>
  L.call Pr n_system_line_int [.string s_waits, .slice (some ⟨b8, 0, none⟩) 1 1] rS fun (x9 : ByteArray) =>
  K (.string x9)) <|
 L.ite (x2 == 3) (
  L.load eI6 ((⟨b1, 0, none⟩ : Addr).add 0) fun (x10 : Int) =>
  L.new [.int .i64 x10] T_int fun b11 =>
  L.call Pr n_system_line_int [.string s_done, .slice (some ⟨b11, 0, none⟩) 1 1] rS fun (x12 : ByteArray) =>
  K (.string x12)) <|
 L.join (Y := ByteArray × Unit) (fun k13 =>
  L.draw <|
  L.load eI6 ((⟨b1, 0, none⟩ : Addr).add 0) fun (x15 : Int) =>
  L.load eS6 ((⟨b1, 0, none⟩ : Addr).add 3) fun (x16 : ByteArray) =>
  L.alts [(
    L.new [.int .i64 x15] T_int fun b17 =>
    L.chk ((⟨b1, 0, none⟩ : Addr).add 3) [.string x16] <|
    L.alts [(
      L.call Pr n_system_line_int [.string s_refused, .slice (some ⟨b17, 0, none⟩) 1 1] rS fun (x18 : ByteArray) =>
      L.chk ((⟨b1, 0, none⟩ : Addr).add 3) [.string x16] <|
      L.new [.string x16] T_string fun b19 =>
      L.chk ((⟨b1, 0, none⟩ : Addr).add 0) [.int .i64 x15] <|
      L.call Pr n_system_line_string [.string x18, .slice (some ⟨b19, 0, none⟩) 1 1] rS fun (x20 : ByteArray) =>
      k13 (x20, ())),(
      L.new [.string x16] T_string fun b21 =>
      L.chk ((⟨b1, 0, none⟩ : Addr).add 0) [.int .i64 x15] <|
      L.call Pr n_system_line_int [.string s_refused, .slice (some ⟨b17, 0, none⟩) 1 1] rS fun (x22 : ByteArray) =>
      L.chk ((⟨b1, 0, none⟩ : Addr).add 3) [.string x16] <|
      L.call Pr n_system_line_string [.string x22, .slice (some ⟨b21, 0, none⟩) 1 1] rS fun (x23 : ByteArray) =>
      k13 (x23, ()))]),(
    L.new [.string x16] T_string fun b24 =>
    L.chk ((⟨b1, 0, none⟩ : Addr).add 0) [.int .i64 x15] <|
    L.new [.int .i64 x15] T_int fun b25 =>
    L.chk ((⟨b1, 0, none⟩ : Addr).add 3) [.string x16] <|
    L.call Pr n_system_line_int [.string s_refused, .slice (some ⟨b25, 0, none⟩) 1 1] rS fun (x26 : ByteArray) =>
    L.chk ((⟨b1, 0, none⟩ : Addr).add 3) [.string x16] <|
    L.call Pr n_system_line_string [.string x26, .slice (some ⟨b24, 0, none⟩) 1 1] rS fun (x27 : ByteArray) =>
    k13 (x27, ()))]) fun z14 =>
 K (.string z14.1)
theorem C_system_fate (p0 : ht3) {K : Value → PT} {w : World} (h : F_system_fate p0 K w) : CT Pr n_system_fate [(.ag (qc3 p0) : SV).toV] K w :=
 C_of (fn := Tryz.f186) (an := A_system_fate) (args := [.ag (qc3 p0)]) (by kernel_rfl) (by kernel_rfl) (by kernel_rfl) h
def F_wait_row_int_each (p0 : Option Addr) (K : Value → PT) : PT :=
 L.new [.pointer p0] T_p_wait_row_int fun b1 =>
 K (.func (.func n_wait_row_int_each_1) #[] #[.pointer (some (⟨b1, 0, none⟩))])
theorem C_wait_row_int_each (p0 : Option Addr) {K : Value → PT} {w : World} (h : F_wait_row_int_each p0 K w) : CT Pr n_wait_row_int_each [.pointer p0] K w :=
 C_of (fn := Tryz.f188) (an := .auto) (args := [.v (.pointer p0)]) (by kernel_rfl) (by kernel_rfl) (by kernel_rfl) h
def F_slices_Sorted_int (p0 : FV) (K : Value → PT) : PT :=
 L.call Pr n_slices_Collect_int [.func p0.fn p0.fs p0.cs] rL fun (x1 : Sl) =>
 L.call Pr n_slices_Sort_int_int [.slice x1.a x1.len x1.cap] (.tup []) fun (x2 : Unit) =>
 K (.slice x1.a x1.len x1.cap)
theorem C_slices_Sorted_int (p0 : FV) {K : Value → PT} {w : World} (h : F_slices_Sorted_int p0 K w) : CT Pr n_slices_Sorted_int [.func p0.fn p0.fs p0.cs] K w :=
 C_of (fn := Tryz.f189) (an := .auto) (args := [.v (.func p0.fn p0.fs p0.cs)]) (by kernel_rfl) (by kernel_rfl) (by kernel_rfl) h
def F_pod_Pod_State (p0 : Option Addr) (K : Value → PT) : PT :=
 L.nonnil p0 fun a1 =>
 L.load eI6 (a1.add 0) fun (x2 : Int) =>
 K (.int .i64 x2)
theorem C_pod_Pod_State (p0 : Option Addr) {K : Value → PT} {w : World} (h : F_pod_Pod_State p0 K w) : CT Pr n_pod_Pod_State [.pointer p0] K w :=
 C_of (fn := Tryz.f192) (an := .auto) (args := [.v (.pointer p0)]) (by kernel_rfl) (by kernel_rfl) (by kernel_rfl) h
def A_gate_book_wait_Line_each_1 : Ann := (.seq .auto (.one [(12, (.one (.int .i64)))] .auto) none)
def F_gate_book_wait_Line_each_1 (p0 : FV) (c0 : Addr) (K : Value → PT) : PT :=
 L.load eP6 c0 fun (x1 : Option Addr) =>
 L.nonnil x1 fun a2 =>
 L.load (.one (.map)) (a2.add 0) fun (x3 : Option Nat) =>
 L.call Pr n_maps_Keys_map_string_wait_Line_string_wait_Line [.map x3] (.one (.one (.func))) fun (x4 : FV) =>
 L.call Pr n_slices_Sorted_string [.func x4.fn x4.fs x4.cs] rL fun (x5 : Sl) =>
 L.loop (Y := Int × Unit) (0, ()) fun y6 again7 =>
 L.ite (decide (y6.1 < ((x5.len : Nat) : Int))) (
  L.idx x5.a y6.1 x5.len 1 fun a8 =>
  L.load eS6 a8 fun (x9 : ByteArray) =>
  L.load eP6 c0 fun (x10 : Option Addr) =>
  L.nonnil x10 fun a11 =>
  L.load (.one (.map)) (a11.add 0) fun (x12 : Option Nat) =>
  L.semR Pr rP (Instr.lookup T_map_string_p_wait_Line (.map x12) (.string x9) false) fun (x13 : Option Addr) =>
  L.callV Pr (.func p0.fn p0.fs p0.cs) [.string x9, .pointer x13] rB fun (x14 : Bool) =>
  L.ite (!x14) (
   K (.tuple #[])) <|
  again7 (IntKind.wrap .i64 (y6.1 + 1), ())) <|
 K (.tuple #[])
theorem C_gate_book_wait_Line_each_1 (p0 : FV) (c0 : Addr) {K : Value → PT} {w : World} (h : F_gate_book_wait_Line_each_1 p0 c0 K w) : CT Pr n_gate_book_wait_Line_each_1 [.func p0.fn p0.fs p0.cs, .pointer (some c0)] K w :=
 C_of (fn := Tryz.f193) (an := A_gate_book_wait_Line_each_1) (args := [.v (.func p0.fn p0.fs p0.cs), .v (.pointer (some c0))]) (by kernel_rfl) (by kernel_rfl) (by kernel_rfl) h
theorem E_gate_book_wait_Line_each_1 : Enters Pr n_gate_book_wait_Line_each_1 := enters_of_B (by kernel_rfl)
def F_maps_Keys_map_string_wait_Line_string_wait_Line (p0 : Option Nat) (K : Value → PT) : PT :=
 L.new [.map p0] T_map_string_p_wait_Line fun b1 =>
 K (.func (.func n_maps_Keys_map_string_wait_Line_string_wait_Line_1) #[] #[.pointer (some (⟨b1, 0, none⟩))])
theorem C_maps_Keys_map_string_wait_Line_string_wait_Line (p0 : Option Nat) {K : Value → PT} {w : World} (h : F_maps_Keys_map_string_wait_Line_string_wait_Line p0 K w) : CT Pr n_maps_Keys_map_string_wait_Line_string_wait_Line [.map p0] K w :=
 C_of (fn := Tryz.f194) (an := .auto) (args := [.v (.map p0)]) (by kernel_rfl) (by kernel_rfl) (by kernel_rfl) h
def A_wait_row_int_part : Ann := (.seq .auto (.seq .auto (.seq .auto (.seq (.seq .auto (.seq .auto .auto (some [(11, (.one (.int .i64))), (12, (.one (.int .i64)))])) none) .auto none) none) none) none)
def F_wait_row_int_part (p0 : Option Addr) (p1 : Int) (K : Value → PT) : PT :=
 L.new [.int .i64 p1] T_int fun b1 =>
 L.new [.slice none 0 0] T_s_int fun b2 =>
 L.new [.slice none 0 0] T_s_wait_held_int fun b3 =>
 L.call Pr n_wait_row_int_each [.pointer p0] (.one (.one (.func))) fun (x4 : FV) =>
 L.range Pr none (.func x4.fn x4.fs x4.cs) [eI6, eI6] (fun l5 (y6 : Int × Int × Unit) R7 =>
  L.begin Pr l5 <|
  L.load eI6 (⟨b1, 0, none⟩) fun (x10 : Int) =>
  L.ite (decide (y6.2.1 ≤ x10)) (
   L.load eL6 (⟨b2, 0, none⟩) fun (x11 : Sl) =>
   L.new [.int .i64 y6.1] T_int fun b12 =>
   L.sem Pr (.one (.one .slice)) (Builtin.append_ #[T_s_int, T_s_int] T_s_int #[.slice x11.a x11.len x11.cap, .slice (some ⟨b12, 0, none⟩) 1 1]) fun (s13 : Sl) =>
   L.store (⟨b2, 0, none⟩) [.slice s13.a s13.len s13.cap] <|
   L.endRound Pr l5 none R7) <|
  L.load eL6 (⟨b3, 0, none⟩) fun (x14 : Sl) =>
  L.new [.int .i64 y6.1, .int .i64 y6.2.1] T_wait_held_int fun b15 =>
  L.sem Pr (.one (.one .slice)) (Builtin.append_ #[T_s_wait_held_int, T_s_wait_held_int] T_s_wait_held_int #[.slice x14.a x14.len x14.cap, .slice (some ⟨b15, 0, none⟩) 1 1]) fun (s16 : Sl) =>
  L.store (⟨b3, 0, none⟩) [.slice s16.a s16.len s16.cap] <|
  L.endRound Pr l5 none R7) fun d8 j9 =>
 L.jump j9 (
  L.load eL6 (⟨b3, 0, none⟩) fun (x17 : Sl) =>
  L.nonnil p0 fun a18 =>
  L.store (a18.add 0) [.slice x17.a x17.len x17.cap] <|
  L.load eL6 (⟨b2, 0, none⟩) fun (x19 : Sl) =>
  L.call Pr n_slices_Clone_int_int [.slice x19.a x19.len x19.cap] rL fun (x20 : Sl) =>
  L.unmark Pr (d8 ++ []) <|
  K (.slice x20.a x20.len x20.cap)) (
  L.unmark Pr (d8 ++ []) <|
  K (.slice none 0 0)) []
theorem C_wait_row_int_part (p0 : Option Addr) (p1 : Int) {K : Value → PT} {w : World} (h : F_wait_row_int_part p0 p1 K w) : CT Pr n_wait_row_int_part [.pointer p0, .int .i64 p1] K w :=
 C_of (fn := Tryz.f195) (an := A_wait_row_int_part) (args := [.v (.pointer p0), .v (.int .i64 p1)]) (by kernel_rfl) (by kernel_rfl) (by kernel_rfl) h
def F_stamp_Book_Latest (p0 : Option Addr) (p1 : ByteArray) (K : Value → PT) : PT :=
 L.call Pr n_stamp_Book_latest [.pointer p0, .string p1, .func (.func n_stamp_Book_Latest_1) #[] #[]] rS fun (x1 : ByteArray) =>
 L.call Pr n_stamp_Book_latest [.pointer p0, .string p1, .func (.func n_stamp_Book_Proved) #[.pointer p0] #[]] rS fun (x2 : ByteArray) =>
 K (.tuple #[.string x1, .string x2])
theorem C_stamp_Book_Latest (p0 : Option Addr) (p1 : ByteArray) {K : Value → PT} {w : World} (h : F_stamp_Book_Latest p0 p1 K w) : CT Pr n_stamp_Book_Latest [.pointer p0, .string p1] K w :=
 C_of (fn := Tryz.f197) (an := .auto) (args := [.v (.pointer p0), .v (.string p1)]) (by kernel_rfl) (by kernel_rfl) (by kernel_rfl) h
def A_lead_inOrder_string_int_1 : Ann := (.seq .auto (.one [(9, (.one (.int .i64)))] .auto) none)
def F_lead_inOrder_string_int_1 (p0 : FV) (c0 : Addr) (K : Value → PT) : PT :=
 L.load (.one (.map)) c0 fun (x1 : Option Nat) =>
 L.call Pr n_maps_Keys_map_string_int_string_int [.map x1] (.one (.one (.func))) fun (x2 : FV) =>
 L.call Pr n_slices_Sorted_string [.func x2.fn x2.fs x2.cs] rL fun (x3 : Sl) =>
 L.loop (Y := Int × Unit) (0, ()) fun y4 again5 =>
 L.ite (decide (y4.1 < ((x3.len : Nat) : Int))) (
  L.idx x3.a y4.1 x3.len 1 fun a6 =>
  L.load eS6 a6 fun (x7 : ByteArray) =>
  L.load (.one (.map)) c0 fun (x8 : Option Nat) =>
  L.semR Pr rI (Instr.lookup T_map_string_int (.map x8) (.string x7) false) fun (x9 : Int) =>
  L.callV Pr (.func p0.fn p0.fs p0.cs) [.string x7, .int .i64 x9] rB fun (x10 : Bool) =>
  L.ite (!x10) (
   K (.tuple #[])) <|
  again5 (IntKind.wrap .i64 (y4.1 + 1), ())) <|
 K (.tuple #[])
theorem C_lead_inOrder_string_int_1 (p0 : FV) (c0 : Addr) {K : Value → PT} {w : World} (h : F_lead_inOrder_string_int_1 p0 c0 K w) : CT Pr n_lead_inOrder_string_int_1 [.func p0.fn p0.fs p0.cs, .pointer (some c0)] K w :=
 C_of (fn := Tryz.f198) (an := A_lead_inOrder_string_int_1) (args := [.v (.func p0.fn p0.fs p0.cs), .v (.pointer (some c0))]) (by kernel_rfl) (by kernel_rfl) (by kernel_rfl) h
theorem E_lead_inOrder_string_int_1 : Enters Pr n_lead_inOrder_string_int_1 := enters_of_B (by kernel_rfl)
def F_maps_Keys_map_string_int_string_int (p0 : Option Nat) (K : Value → PT) : PT :=
 L.new [.map p0] T_map_string_int fun b1 =>
 K (.func (.func n_maps_Keys_map_string_int_string_int_1) #[] #[.pointer (some (⟨b1, 0, none⟩))])
theorem C_maps_Keys_map_string_int_string_int (p0 : Option Nat) {K : Value → PT} {w : World} (h : F_maps_Keys_map_string_int_string_int p0 K w) : CT Pr n_maps_Keys_map_string_int_string_int [.map p0] K w :=
 C_of (fn := Tryz.f199) (an := .auto) (args := [.v (.map p0)]) (by kernel_rfl) (by kernel_rfl) (by kernel_rfl) h
def A_lead_inOrder_string_string_1 : Ann := (.seq .auto (.one [(9, (.one (.int .i64)))] .auto) none)
def F_lead_inOrder_string_string_1 (p0 : FV) (c0 : Addr) (K : Value → PT) : PT :=
 L.load (.one (.map)) c0 fun (x1 : Option Nat) =>
 L.call Pr n_maps_Keys_map_string_string_string_string [.map x1] (.one (.one (.func))) fun (x2 : FV) =>
 L.call Pr n_slices_Sorted_string [.func x2.fn x2.fs x2.cs] rL fun (x3 : Sl) =>
 L.loop (Y := Int × Unit) (0, ()) fun y4 again5 =>
 L.ite (decide (y4.1 < ((x3.len : Nat) : Int))) (
  L.idx x3.a y4.1 x3.len 1 fun a6 =>
  L.load eS6 a6 fun (x7 : ByteArray) =>
  L.load (.one (.map)) c0 fun (x8 : Option Nat) =>
  L.semR Pr rS (Instr.lookup T_map_string_string (.map x8) (.string x7) false) fun (x9 : ByteArray) =>
  L.callV Pr (.func p0.fn p0.fs p0.cs) [.string x7, .string x9] rB fun (x10 : Bool) =>
  L.ite (!x10) (
   K (.tuple #[])) <|
  again5 (IntKind.wrap .i64 (y4.1 + 1), ())) <|
 K (.tuple #[])
theorem C_lead_inOrder_string_string_1 (p0 : FV) (c0 : Addr) {K : Value → PT} {w : World} (h : F_lead_inOrder_string_string_1 p0 c0 K w) : CT Pr n_lead_inOrder_string_string_1 [.func p0.fn p0.fs p0.cs, .pointer (some c0)] K w :=
 C_of (fn := Tryz.f200) (an := A_lead_inOrder_string_string_1) (args := [.v (.func p0.fn p0.fs p0.cs), .v (.pointer (some c0))]) (by kernel_rfl) (by kernel_rfl) (by kernel_rfl) h
theorem E_lead_inOrder_string_string_1 : Enters Pr n_lead_inOrder_string_string_1 := enters_of_B (by kernel_rfl)
def F_maps_Keys_map_string_string_string_string (p0 : Option Nat) (K : Value → PT) : PT :=
 L.new [.map p0] T_map_string_string fun b1 =>
 K (.func (.func n_maps_Keys_map_string_string_string_string_1) #[] #[.pointer (some (⟨b1, 0, none⟩))])
theorem C_maps_Keys_map_string_string_string_string (p0 : Option Nat) {K : Value → PT} {w : World} (h : F_maps_Keys_map_string_string_string_string p0 K w) : CT Pr n_maps_Keys_map_string_string_string_string [.map p0] K w :=
 C_of (fn := Tryz.f201) (an := .auto) (args := [.v (.map p0)]) (by kernel_rfl) (by kernel_rfl) (by kernel_rfl) h
def A_roll_sorted_api_Share_string : Ann := (.seq .auto (.seq .auto (.seq (.seq .auto (.one [(5, (.one (.slice))), (12, (.one (.int .i64)))] (.seq .auto (.seq .auto (.seq (.seq .auto (.seq .auto (.one [(5, (.one (.slice))), (18, (.one (.int .i64)))] .auto) none) none) .auto none) none) none)) none) .auto none) none) none)
def F_roll_sorted_api_Share_string (p0 : FV) (p1 : Sl) (K : Value → PT) : PT :=
 L.loop (Y := Sl × Int × Unit) (⟨none, 0, 0⟩, 0, ()) fun y1 again2 =>
 L.ite (decide (y1.2.1 < ((p1.len : Nat) : Int))) (
  L.idx p1.a y1.2.1 p1.len 1 fun a3 =>
  L.load eL6 a3 fun (x4 : Sl) =>
  L.loop (Y := Sl × Int × Unit) (⟨y1.1.a, y1.1.len, y1.1.cap⟩, 0, ()) fun y5 again6 =>
  L.ite (decide (y5.2.1 < ((x4.len : Nat) : Int))) (
   L.idx x4.a y5.2.1 x4.len 2 fun a7 =>
   L.load (.agg [.str, .int .i64]) a7 fun (x8 : ByteArray × Int × Unit) =>
   L.new [.string s_, .int .i64 0] T_api_Share fun b9 =>
   L.store (⟨b9, 0, none⟩) [.string x8.1, .int .i64 x8.2.1] <|
   L.load (.agg [.str, .int .i64]) (⟨b9, 0, none⟩) fun (x10 : ByteArray × Int × Unit) =>
   L.callV Pr (.func p0.fn p0.fs p0.cs) [.agg #[.string x10.1, .int .i64 x10.2.1]] rS fun (x11 : ByteArray) =>
   L.new [.string x11] T_string fun b12 =>
   L.sem Pr (.one (.one .slice)) (Builtin.append_ #[T_s_string, T_s_string] T_s_string #[.slice y5.1.a y5.1.len y5.1.cap, .slice (some ⟨b12, 0, none⟩) 1 1]) fun (s13 : Sl) =>
   again6 (⟨s13.a, s13.len, s13.cap⟩, IntKind.wrap .i64 (y5.2.1 + 1), ())) <|
  again2 (⟨y5.1.a, y5.1.len, y5.1.cap⟩, IntKind.wrap .i64 (y1.2.1 + 1), ())) <|
 L.call Pr n_slices_Sort_string_string [.slice y1.1.a y1.1.len y1.1.cap] (.tup []) fun (x14 : Unit) =>
 L.call Pr n_slices_Compact_string_string [.slice y1.1.a y1.1.len y1.1.cap] rL fun (x15 : Sl) =>
 K (.slice x15.a x15.len x15.cap)
theorem C_roll_sorted_api_Share_string (p0 : FV) (p1 : Sl) {K : Value → PT} {w : World} (h : F_roll_sorted_api_Share_string p0 p1 K w) : CT Pr n_roll_sorted_api_Share_string [.func p0.fn p0.fs p0.cs, .slice p1.a p1.len p1.cap] K w :=
 C_of (fn := Tryz.f202) (an := A_roll_sorted_api_Share_string) (args := [.v (.func p0.fn p0.fs p0.cs), .v (.slice p1.a p1.len p1.cap)]) (by kernel_rfl) (by kernel_rfl) (by kernel_rfl) h
def F_roll_rev (p0 : HT [.str, .int .i64]) (K : Value → PT) : PT :=
 L.new [.string p0.1, .int .i64 p0.2.1] T_api_Share fun b1 =>
 L.load eS6 ((⟨b1, 0, none⟩ : Addr).add 0) fun (x2 : ByteArray) =>
 K (.string x2)
theorem C_roll_rev (p0 : HT [.str, .int .i64]) {K : Value → PT} {w : World} (h : F_roll_rev p0 K w) : CT Pr n_roll_rev [(.ag [.string p0.1, .int .i64 p0.2.1] : SV).toV] K w :=
 C_of (fn := Tryz.f203) (an := .auto) (args := [.ag [.string p0.1, .int .i64 p0.2.1]]) (by kernel_rfl) (by kernel_rfl) (by kernel_rfl) h
theorem E_roll_rev : Enters Pr n_roll_rev := enters_of_B (by kernel_rfl)
def F_roll_Weight (p0 : Sl) (p1 : ByteArray) (K : Value → PT) : PT :=
 L.new [.string p1] T_string fun b1 =>
 L.call Pr n_slices_IndexFunc_api_Share_api_Share [.slice p0.a p0.len p0.cap, .func (.func n_roll_Weight_1) #[] #[.pointer (some (⟨b1, 0, none⟩))]] rI fun (x2 : Int) =>
 L.ite (decide (x2 < 0)) (
  K (.int .i64 0)) <|
 L.idx p0.a x2 p0.len 2 fun a3 =>
 L.load eI6 (a3.add 1) fun (x4 : Int) =>
 K (.int .i64 x4)
theorem C_roll_Weight (p0 : Sl) (p1 : ByteArray) {K : Value → PT} {w : World} (h : F_roll_Weight p0 p1 K w) : CT Pr n_roll_Weight [.slice p0.a p0.len p0.cap, .string p1] K w :=
 C_of (fn := Tryz.f204) (an := .auto) (args := [.v (.slice p0.a p0.len p0.cap), .v (.string p1)]) (by kernel_rfl) (by kernel_rfl) (by kernel_rfl) h
def A_fleet_Fleet_Pods : Ann := (.seq .auto (.seq .auto (.seq (.seq .auto (.seq .auto .auto (some [(11, (.one (.int .i64))), (12, (.one (.ptr)))])) none) .auto none) none) none)
def F_fleet_Fleet_Pods (p0 : Option Addr) (p1 : ByteArray) (K : Value → PT) : PT :=
 L.new [.slice none 0 0] T_s_fleet_Look fun b1 =>
 L.call Pr n_fleet_Fleet_of [.pointer p0, .string p1] (.one (.one (.func))) fun (x2 : FV) =>
 L.range Pr none (.func x2.fn x2.fs x2.cs) [eI6, eP6] (fun l3 (y4 : Int × Option Addr × Unit) R5 =>
  L.begin Pr l3 <|
  L.draw <|
  L.load eL6 (⟨b1, 0, none⟩) fun (x8 : Sl) =>
  L.call Pr n_pod_Pod_State [.pointer y4.2.1] rI fun (x9 : Int) =>
  L.chk (⟨b1, 0, none⟩) [.slice x8.a x8.len x8.cap] <|
  L.call Pr n_pod_Pod_Load [.pointer y4.2.1] rI fun (x10 : Int) =>
  L.chk (⟨b1, 0, none⟩) [.slice x8.a x8.len x8.cap] <|
  L.new [.int .i64 y4.1, .int .i64 x9, .int .i64 x10] T_fleet_Look fun b11 =>
  L.chk (⟨b1, 0, none⟩) [.slice x8.a x8.len x8.cap] <|
  L.sem Pr (.one (.one .slice)) (Builtin.append_ #[T_s_fleet_Look, T_s_fleet_Look] T_s_fleet_Look #[.slice x8.a x8.len x8.cap, .slice (some ⟨b11, 0, none⟩) 1 1]) fun (s12 : Sl) =>
  L.store (⟨b1, 0, none⟩) [.slice s12.a s12.len s12.cap] <|
  L.endRound Pr l3 none R5) fun d6 j7 =>
 L.jump j7 (
  L.load eL6 (⟨b1, 0, none⟩) fun (x13 : Sl) =>
  L.call Pr n_slices_Clone_fleet_Look_fleet_Look [.slice x13.a x13.len x13.cap] rL fun (x14 : Sl) =>
  L.unmark Pr (d6 ++ []) <|
  K (.slice x14.a x14.len x14.cap)) (
  L.unmark Pr (d6 ++ []) <|
  K (.slice none 0 0)) []
theorem C_fleet_Fleet_Pods (p0 : Option Addr) (p1 : ByteArray) {K : Value → PT} {w : World} (h : F_fleet_Fleet_Pods p0 p1 K w) : CT Pr n_fleet_Fleet_Pods [.pointer p0, .string p1] K w :=
 C_of (fn := Tryz.f205) (an := A_fleet_Fleet_Pods) (args := [.v (.pointer p0), .v (.string p1)]) (by kernel_rfl) (by kernel_rfl) (by kernel_rfl) h
def F_fleet_Fleet_of (p0 : Option Addr) (p1 : ByteArray) (K : Value → PT) : PT :=
 L.new [.pointer p0] T_p_fleet_Fleet fun b1 =>
 L.new [.string p1] T_string fun b2 =>
 K (.func (.func n_fleet_Fleet_of_1) #[] #[.pointer (some (⟨b1, 0, none⟩)), .pointer (some (⟨b2, 0, none⟩))])
theorem C_fleet_Fleet_of (p0 : Option Addr) (p1 : ByteArray) {K : Value → PT} {w : World} (h : F_fleet_Fleet_of p0 p1 K w) : CT Pr n_fleet_Fleet_of [.pointer p0, .string p1] K w :=
 C_of (fn := Tryz.f207) (an := .auto) (args := [.v (.pointer p0), .v (.string p1)]) (by kernel_rfl) (by kernel_rfl) (by kernel_rfl) h
def F_pod_Pod_Load (p0 : Option Addr) (K : Value → PT) : PT :=
 L.nonnil p0 fun a1 =>
 L.load (.one (.map)) ((a1.add 1).add 0) fun (x2 : Option Nat) =>
 L.semR Pr rI (Builtin.len_ #[T_map_int_bool] T_int #[.map x2]) fun (x3 : Int) =>
 K (.int .i64 x3)
theorem C_pod_Pod_Load (p0 : Option Addr) {K : Value → PT} {w : World} (h : F_pod_Pod_Load p0 K w) : CT Pr n_pod_Pod_Load [.pointer p0] K w :=
 C_of (fn := Tryz.f208) (an := .auto) (args := [.v (.pointer p0)]) (by kernel_rfl) (by kernel_rfl) (by kernel_rfl) h
def A_pod_Pod_end : Ann := (.seq .auto (.cond .auto .auto) none)
def F_pod_Pod_end (p0 : Option Addr) (K : Value → PT) : PT :=
 L.nonnil p0 fun a1 =>
 L.load eI6 (a1.add 0) fun (x2 : Int) =>
 L.ite (x2 == 3) (
  L.call Pr n_pod_Pod_Load [.pointer p0] rI fun (x3 : Int) =>
  L.ite (x3 == 0) (
   L.nonnil p0 fun a4 =>
   L.store (a4.add 0) [.int .i64 4] <|
   K (.tuple #[])) <|
  K (.tuple #[])) <|
 K (.tuple #[])
theorem C_pod_Pod_end (p0 : Option Addr) {K : Value → PT} {w : World} (h : F_pod_Pod_end p0 K w) : CT Pr n_pod_Pod_end [.pointer p0] K w :=
 C_of (fn := Tryz.f209) (an := A_pod_Pod_end) (args := [.v (.pointer p0)]) (by kernel_rfl) (by kernel_rfl) (by kernel_rfl) h
def F_slices_Collect_string (p0 : FV) (K : Value → PT) : PT :=
 L.call Pr n_slices_AppendSeq_string_string [.slice none 0 0, .func p0.fn p0.fs p0.cs] rL fun (x1 : Sl) =>
 K (.slice x1.a x1.len x1.cap)
theorem C_slices_Collect_string (p0 : FV) {K : Value → PT} {w : World} (h : F_slices_Collect_string p0 K w) : CT Pr n_slices_Collect_string [.func p0.fn p0.fs p0.cs] K w :=
 C_of (fn := Tryz.f210) (an := .auto) (args := [.v (.func p0.fn p0.fs p0.cs)]) (by kernel_rfl) (by kernel_rfl) (by kernel_rfl) h
def A_maps_Keys_stamp_shelf_api_Revision_string_api_Revision_1 : Ann := (.seq .auto (.one [] (.seq .auto (.seq (.cond .auto .auto) .auto none) none)) none)
def F_maps_Keys_stamp_shelf_api_Revision_string_api_Revision_1 (p0 : FV) (c0 : Addr) (K : Value → PT) : PT :=
 L.load (.one (.map)) c0 fun (x1 : Option Nat) =>
 L.sem Pr (.one (.one .ptr)) (Instr.range T_stamp_shelf_api_Revision (.map x1)) fun (it2 : Option Addr) =>
 L.loop (Y := Unit) (()) fun y3 again4 =>
 L.next Pr [eS6, (.agg lf5)] (Instr.next (.pointer it2) false T_) (
  K (.tuple #[])) fun (x5 : pt22) =>
 L.sem Pr (.tup [eS6, (.agg lf5)]) (Instr.entry (.pointer it2)) fun (x6 : pt22) =>
 L.callV Pr (.func p0.fn p0.fs p0.cs) [.string x6.1] rB fun (x7 : Bool) =>
 L.ite (!x7) (
  K (.tuple #[])) <|
 again4 (())
theorem C_maps_Keys_stamp_shelf_api_Revision_string_api_Revision_1 (p0 : FV) (c0 : Addr) {K : Value → PT} {w : World} (h : F_maps_Keys_stamp_shelf_api_Revision_string_api_Revision_1 p0 c0 K w) : CT Pr n_maps_Keys_stamp_shelf_api_Revision_string_api_Revision_1 [.func p0.fn p0.fs p0.cs, .pointer (some c0)] K w :=
 C_of (fn := Tryz.f212) (an := A_maps_Keys_stamp_shelf_api_Revision_string_api_Revision_1) (args := [.v (.func p0.fn p0.fs p0.cs), .v (.pointer (some c0))]) (by kernel_rfl) (by kernel_rfl) (by kernel_rfl) h
theorem E_maps_Keys_stamp_shelf_api_Revision_string_api_Revision_1 : Enters Pr n_maps_Keys_stamp_shelf_api_Revision_string_api_Revision_1 := enters_of_B (by kernel_rfl)
def A_slices_IndexFunc_api_Target_api_Target : Ann := (.seq .auto (.seq (.seq .auto (.one [(8, (.one (.int .i64)))] .auto) none) .auto none) none)
def F_slices_IndexFunc_api_Target_api_Target (p0 : Sl) (p1 : FV) (K : Value → PT) : PT :=
 L.loop (Y := Int × Unit) (0, ()) fun y1 again2 =>
 L.ite (decide (y1.1 < ((p0.len : Nat) : Int))) (
  L.idx p0.a y1.1 p0.len 3 fun a3 =>
  L.load (.agg [.str, .str, .int .i64]) a3 fun (x4 : pt9) =>
  L.callV Pr (.func p1.fn p1.fs p1.cs) [.agg #[.string x4.1, .string x4.2.1, .int .i64 x4.2.2.1]] rB fun (x5 : Bool) =>
  L.ite x5 (
   K (.int .i64 y1.1)) <|
  again2 (IntKind.wrap .i64 (y1.1 + 1), ())) <|
 K (.int .i64 (-1))
theorem C_slices_IndexFunc_api_Target_api_Target (p0 : Sl) (p1 : FV) {K : Value → PT} {w : World} (h : F_slices_IndexFunc_api_Target_api_Target p0 p1 K w) : CT Pr n_slices_IndexFunc_api_Target_api_Target [.slice p0.a p0.len p0.cap, .func p1.fn p1.fs p1.cs] K w :=
 C_of (fn := Tryz.f217) (an := A_slices_IndexFunc_api_Target_api_Target) (args := [.v (.slice p0.a p0.len p0.cap), .v (.func p1.fn p1.fs p1.cs)]) (by kernel_rfl) (by kernel_rfl) (by kernel_rfl) h
def F_slices_SortStableFunc_fleet_choice_fleet_choice (p0 : Sl) (p1 : FV) (K : Value → PT) : PT :=
 L.call Pr n_slices_stableCmpFunc_fleet_choice [.slice p0.a p0.len p0.cap, .int .i64 ((p0.len : Nat) : Int), .func p1.fn p1.fs p1.cs] (.tup []) fun (x1 : Unit) =>
 K (.tuple #[])
theorem C_slices_SortStableFunc_fleet_choice_fleet_choice (p0 : Sl) (p1 : FV) {K : Value → PT} {w : World} (h : F_slices_SortStableFunc_fleet_choice_fleet_choice p0 p1 K w) : CT Pr n_slices_SortStableFunc_fleet_choice_fleet_choice [.slice p0.a p0.len p0.cap, .func p1.fn p1.fs p1.cs] K w :=
 C_of (fn := Tryz.f224) (an := .auto) (args := [.v (.slice p0.a p0.len p0.cap), .v (.func p1.fn p1.fs p1.cs)]) (by kernel_rfl) (by kernel_rfl) (by kernel_rfl) h
def F_fleet_Fleet_Take_1 (p0 : HT [.int .i64, .int .i64]) (p1 : HT [.int .i64, .int .i64]) (K : Value → PT) : PT :=
 L.new [.int .i64 p0.1, .int .i64 p0.2.1] T_fleet_choice fun b1 =>
 L.new [.int .i64 p1.1, .int .i64 p1.2.1] T_fleet_choice fun b2 =>
 L.load eI6 ((⟨b1, 0, none⟩ : Addr).add 0) fun (x3 : Int) =>
 L.load eI6 ((⟨b2, 0, none⟩ : Addr).add 0) fun (x4 : Int) =>
 K (.int .i64 (IntKind.wrap .i64 (x3 - x4)))
theorem C_fleet_Fleet_Take_1 (p0 : HT [.int .i64, .int .i64]) (p1 : HT [.int .i64, .int .i64]) {K : Value → PT} {w : World} (h : F_fleet_Fleet_Take_1 p0 p1 K w) : CT Pr n_fleet_Fleet_Take_1 [(.ag [.int .i64 p0.1, .int .i64 p0.2.1] : SV).toV, (.ag [.int .i64 p1.1, .int .i64 p1.2.1] : SV).toV] K w :=
 C_of (fn := Tryz.f225) (an := .auto) (args := [.ag [.int .i64 p0.1, .int .i64 p0.2.1], .ag [.int .i64 p1.1, .int .i64 p1.2.1]]) (by kernel_rfl) (by kernel_rfl) (by kernel_rfl) h
theorem E_fleet_Fleet_Take_1 : Enters Pr n_fleet_Fleet_Take_1 := enters_of_B (by kernel_rfl)
def F_pod_Pod_Take (p0 : Option Addr) (p1 : Int) (K : Value → PT) : PT :=
 L.nonnil p0 fun a1 =>
 L.load eI6 (a1.add 0) fun (x2 : Int) =>
 L.ite (x2 != 2) (
  K (.int .i64 9)) <|
 L.nonnil p0 fun a3 =>
 L.call Pr n_pod_bag_int_put [.pointer (some (a3.add 1)), .int .i64 p1] rI fun (x4 : Int) =>
 K (.int .i64 x4)
theorem C_pod_Pod_Take (p0 : Option Addr) (p1 : Int) {K : Value → PT} {w : World} (h : F_pod_Pod_Take p0 p1 K w) : CT Pr n_pod_Pod_Take [.pointer p0, .int .i64 p1] K w :=
 C_of (fn := Tryz.f226) (an := .auto) (args := [.v (.pointer p0), .v (.int .i64 p1)]) (by kernel_rfl) (by kernel_rfl) (by kernel_rfl) h
def A_wait_row_int_each_1 : Ann := (.seq .auto (.one [(10, (.one (.int .i64)))] .auto) none)
def F_wait_row_int_each_1 (p0 : FV) (c0 : Addr) (K : Value → PT) : PT :=
 L.load eP6 c0 fun (x1 : Option Addr) =>
 L.nonnil x1 fun a2 =>
 L.load eL6 (a2.add 0) fun (x3 : Sl) =>
 L.loop (Y := Int × Unit) (0, ()) fun y4 again5 =>
 L.ite (decide (y4.1 < ((x3.len : Nat) : Int))) (
  L.idx x3.a y4.1 x3.len 2 fun a6 =>
  L.load (.agg [.int .i64, .int .i64]) a6 fun (x7 : Int × Int × Unit) =>
  L.new [.int .i64 0, .int .i64 0] T_wait_held_int fun b8 =>
  L.store (⟨b8, 0, none⟩) [.int .i64 x7.1, .int .i64 x7.2.1] <|
  L.load eI6 ((⟨b8, 0, none⟩ : Addr).add 0) fun (x9 : Int) =>
  L.load eI6 ((⟨b8, 0, none⟩ : Addr).add 1) fun (x10 : Int) =>
  L.callV Pr (.func p0.fn p0.fs p0.cs) [.int .i64 x9, .int .i64 x10] rB fun (x11 : Bool) =>
  L.ite (!x11) (
   K (.tuple #[])) <|
  again5 (IntKind.wrap .i64 (y4.1 + 1), ())) <|
 K (.tuple #[])
theorem C_wait_row_int_each_1 (p0 : FV) (c0 : Addr) {K : Value → PT} {w : World} (h : F_wait_row_int_each_1 p0 c0 K w) : CT Pr n_wait_row_int_each_1 [.func p0.fn p0.fs p0.cs, .pointer (some c0)] K w :=
 C_of (fn := Tryz.f227) (an := A_wait_row_int_each_1) (args := [.v (.func p0.fn p0.fs p0.cs), .v (.pointer (some c0))]) (by kernel_rfl) (by kernel_rfl) (by kernel_rfl) h
theorem E_wait_row_int_each_1 : Enters Pr n_wait_row_int_each_1 := enters_of_B (by kernel_rfl)
def F_slices_Collect_int (p0 : FV) (K : Value → PT) : PT :=
 L.call Pr n_slices_AppendSeq_int_int [.slice none 0 0, .func p0.fn p0.fs p0.cs] rL fun (x1 : Sl) =>
 K (.slice x1.a x1.len x1.cap)
theorem C_slices_Collect_int (p0 : FV) {K : Value → PT} {w : World} (h : F_slices_Collect_int p0 K w) : CT Pr n_slices_Collect_int [.func p0.fn p0.fs p0.cs] K w :=
 C_of (fn := Tryz.f228) (an := .auto) (args := [.v (.func p0.fn p0.fs p0.cs)]) (by kernel_rfl) (by kernel_rfl) (by kernel_rfl) h
def A_maps_Keys_map_string_wait_Line_string_wait_Line_1 : Ann := (.seq .auto (.one [] (.seq .auto (.seq (.cond .auto .auto) .auto none) none)) none)
def F_maps_Keys_map_string_wait_Line_string_wait_Line_1 (p0 : FV) (c0 : Addr) (K : Value → PT) : PT :=
 L.load (.one (.map)) c0 fun (x1 : Option Nat) =>
 L.sem Pr (.one (.one .ptr)) (Instr.range T_map_string_p_wait_Line (.map x1)) fun (it2 : Option Addr) =>
 L.loop (Y := Unit) (()) fun y3 again4 =>
 L.next Pr [eS6, eP6] (Instr.next (.pointer it2) false T_) (
  K (.tuple #[])) fun (x5 : ByteArray × Option Addr × Unit) =>
 L.sem Pr (.tup [eS6, eP6]) (Instr.entry (.pointer it2)) fun (x6 : ByteArray × Option Addr × Unit) =>
 L.callV Pr (.func p0.fn p0.fs p0.cs) [.string x6.1] rB fun (x7 : Bool) =>
 L.ite (!x7) (
  K (.tuple #[])) <|
 again4 (())
theorem C_maps_Keys_map_string_wait_Line_string_wait_Line_1 (p0 : FV) (c0 : Addr) {K : Value → PT} {w : World} (h : F_maps_Keys_map_string_wait_Line_string_wait_Line_1 p0 c0 K w) : CT Pr n_maps_Keys_map_string_wait_Line_string_wait_Line_1 [.func p0.fn p0.fs p0.cs, .pointer (some c0)] K w :=
 C_of (fn := Tryz.f230) (an := A_maps_Keys_map_string_wait_Line_string_wait_Line_1) (args := [.v (.func p0.fn p0.fs p0.cs), .v (.pointer (some c0))]) (by kernel_rfl) (by kernel_rfl) (by kernel_rfl) h
theorem E_maps_Keys_map_string_wait_Line_string_wait_Line_1 : Enters Pr n_maps_Keys_map_string_wait_Line_string_wait_Line_1 := enters_of_B (by kernel_rfl)
def A_stamp_Book_latest : Ann := (.seq .auto (.seq .auto (.seq (.seq .auto (.one [(18, (.one (.int .i64)))] (.seq .auto (.seq .auto (.seq (.seq .auto (.seq .auto (.seq .auto (.cond .auto .auto) none) none) none) .auto (some [])) none) none)) none) .auto none) none) none)
def F_stamp_Book_latest (p0 : Option Addr) (p1 : ByteArray) (p2 : FV) (K : Value → PT) : PT :=
 L.new [.string s_, .int .i64 0, .string s_, .int .i64 0, .int .i64 0, .int .i64 0, .int .i64 0, .int .i64 0] T_api_Revision fun b1 =>
 L.store (⟨b1, 0, none⟩) [.string s_, .int .i64 0, .string s_, .int .i64 0, .int .i64 0, .int .i64 0, .int .i64 0, .int .i64 0] <|
 L.nonnil p0 fun a2 =>
 L.load (.one (.map)) (a2.add 0) fun (x3 : Option Nat) =>
 L.call Pr n_stamp_shelf_api_Revision_names [.map x3] rL fun (x4 : Sl) =>
 L.loop (Y := Int × Unit) (0, ()) fun y5 again6 =>
 L.ite (decide (y5.1 < ((x4.len : Nat) : Int))) (
  L.join (Y := Unit) (fun k7 =>
   L.idx x4.a y5.1 x4.len 1 fun a9 =>
   L.load eS6 a9 fun (x10 : ByteArray) =>
   L.nonnil p0 fun a11 =>
   L.load (.one (.map)) (a11.add 0) fun (x12 : Option Nat) =>
   L.semR Pr (.one (.agg lf5)) (Instr.lookup T_stamp_shelf_api_Revision (.map x12) (.string x10) false) fun (x13 : pt14) =>
   L.new [.string s_, .int .i64 0, .string s_, .int .i64 0, .int .i64 0, .int .i64 0, .int .i64 0, .int .i64 0] T_api_Revision fun b14 =>
   L.store (⟨b14, 0, none⟩) [.string x13.1, .int .i64 x13.2.1, .string x13.2.2.1, .int .i64 x13.2.2.2.1, .int .i64 x13.2.2.2.2.1, .int .i64 x13.2.2.2.2.2.1, .int .i64 x13.2.2.2.2.2.2.1, .int .i64 x13.2.2.2.2.2.2.2.1] <|
   L.load eS6 (((⟨b14, 0, none⟩ : Addr).add 2).add 0) fun (x15 : ByteArray) =>
   L.ite (x15.toList == p1.toList) (
    L.load eI6 ((⟨b14, 0, none⟩ : Addr).add 1) fun (x16 : Int) =>
    L.load eI6 ((⟨b1, 0, none⟩ : Addr).add 1) fun (x17 : Int) =>
    L.ite (decide (x16 > x17)) (
     L.callV Pr (.func p2.fn p2.fs p2.cs) [.string x10] rB fun (x18 : Bool) =>
     L.ite x18 (
      L.load (.agg lf5) (⟨b14, 0, none⟩) fun (x19 : pt14) =>
      L.store (⟨b1, 0, none⟩) [.string x19.1, .int .i64 x19.2.1, .string x19.2.2.1, .int .i64 x19.2.2.2.1, .int .i64 x19.2.2.2.2.1, .int .i64 x19.2.2.2.2.2.1, .int .i64 x19.2.2.2.2.2.2.1, .int .i64 x19.2.2.2.2.2.2.2.1] <|
      k7 (())) <|
     k7 (())) <|
    k7 (())) <|
   k7 (())) fun z8 =>
  again6 (IntKind.wrap .i64 (y5.1 + 1), ())) <|
 L.load eS6 ((⟨b1, 0, none⟩ : Addr).add 0) fun (x20 : ByteArray) =>
 K (.string x20)
theorem C_stamp_Book_latest (p0 : Option Addr) (p1 : ByteArray) (p2 : FV) {K : Value → PT} {w : World} (h : F_stamp_Book_latest p0 p1 p2 K w) : CT Pr n_stamp_Book_latest [.pointer p0, .string p1, .func p2.fn p2.fs p2.cs] K w :=
 C_of (fn := Tryz.f233) (an := A_stamp_Book_latest) (args := [.v (.pointer p0), .v (.string p1), .v (.func p2.fn p2.fs p2.cs)]) (by kernel_rfl) (by kernel_rfl) (by kernel_rfl) h
def F_stamp_Book_Latest_1 (p0 : ByteArray) (K : Value → PT) : PT :=
 K (.bool true)
theorem C_stamp_Book_Latest_1 (p0 : ByteArray) {K : Value → PT} {w : World} (h : F_stamp_Book_Latest_1 p0 K w) : CT Pr n_stamp_Book_Latest_1 [.string p0] K w :=
 C_of (fn := Tryz.f234) (an := .auto) (args := [.v (.string p0)]) (by kernel_rfl) (by kernel_rfl) (by kernel_rfl) h
theorem E_stamp_Book_Latest_1 : Enters Pr n_stamp_Book_Latest_1 := enters_of_B (by kernel_rfl)
def A_maps_Keys_map_string_int_string_int_1 : Ann := (.seq .auto (.one [] (.seq .auto (.seq (.cond .auto .auto) .auto none) none)) none)
def F_maps_Keys_map_string_int_string_int_1 (p0 : FV) (c0 : Addr) (K : Value → PT) : PT :=
 L.load (.one (.map)) c0 fun (x1 : Option Nat) =>
 L.sem Pr (.one (.one .ptr)) (Instr.range T_map_string_int (.map x1)) fun (it2 : Option Addr) =>
 L.loop (Y := Unit) (()) fun y3 again4 =>
 L.next Pr [eS6, eI6] (Instr.next (.pointer it2) false T_) (
  K (.tuple #[])) fun (x5 : ByteArray × Int × Unit) =>
 L.sem Pr (.tup [eS6, eI6]) (Instr.entry (.pointer it2)) fun (x6 : ByteArray × Int × Unit) =>
 L.callV Pr (.func p0.fn p0.fs p0.cs) [.string x6.1] rB fun (x7 : Bool) =>
 L.ite (!x7) (
  K (.tuple #[])) <|
 again4 (())
theorem C_maps_Keys_map_string_int_string_int_1 (p0 : FV) (c0 : Addr) {K : Value → PT} {w : World} (h : F_maps_Keys_map_string_int_string_int_1 p0 c0 K w) : CT Pr n_maps_Keys_map_string_int_string_int_1 [.func p0.fn p0.fs p0.cs, .pointer (some c0)] K w :=
 C_of (fn := Tryz.f235) (an := A_maps_Keys_map_string_int_string_int_1) (args := [.v (.func p0.fn p0.fs p0.cs), .v (.pointer (some c0))]) (by kernel_rfl) (by kernel_rfl) (by kernel_rfl) h
theorem E_maps_Keys_map_string_int_string_int_1 : Enters Pr n_maps_Keys_map_string_int_string_int_1 := enters_of_B (by kernel_rfl)
def A_maps_Keys_map_string_string_string_string_1 : Ann := (.seq .auto (.one [] (.seq .auto (.seq (.cond .auto .auto) .auto none) none)) none)
def F_maps_Keys_map_string_string_string_string_1 (p0 : FV) (c0 : Addr) (K : Value → PT) : PT :=
 L.load (.one (.map)) c0 fun (x1 : Option Nat) =>
 L.sem Pr (.one (.one .ptr)) (Instr.range T_map_string_string (.map x1)) fun (it2 : Option Addr) =>
 L.loop (Y := Unit) (()) fun y3 again4 =>
 L.next Pr [eS6, eS6] (Instr.next (.pointer it2) false T_) (
  K (.tuple #[])) fun (x5 : ByteArray × ByteArray × Unit) =>
 L.sem Pr (.tup [eS6, eS6]) (Instr.entry (.pointer it2)) fun (x6 : ByteArray × ByteArray × Unit) =>
 L.callV Pr (.func p0.fn p0.fs p0.cs) [.string x6.1] rB fun (x7 : Bool) =>
 L.ite (!x7) (
  K (.tuple #[])) <|
 again4 (())
theorem C_maps_Keys_map_string_string_string_string_1 (p0 : FV) (c0 : Addr) {K : Value → PT} {w : World} (h : F_maps_Keys_map_string_string_string_string_1 p0 c0 K w) : CT Pr n_maps_Keys_map_string_string_string_string_1 [.func p0.fn p0.fs p0.cs, .pointer (some c0)] K w :=
 C_of (fn := Tryz.f236) (an := A_maps_Keys_map_string_string_string_string_1) (args := [.v (.func p0.fn p0.fs p0.cs), .v (.pointer (some c0))]) (by kernel_rfl) (by kernel_rfl) (by kernel_rfl) h
theorem E_maps_Keys_map_string_string_string_string_1 : Enters Pr n_maps_Keys_map_string_string_string_string_1 := enters_of_B (by kernel_rfl)
def A_slices_IndexFunc_api_Share_api_Share : Ann := (.seq .auto (.seq (.seq .auto (.one [(8, (.one (.int .i64)))] .auto) none) .auto none) none)
def F_slices_IndexFunc_api_Share_api_Share (p0 : Sl) (p1 : FV) (K : Value → PT) : PT :=
 L.loop (Y := Int × Unit) (0, ()) fun y1 again2 =>
 L.ite (decide (y1.1 < ((p0.len : Nat) : Int))) (
  L.idx p0.a y1.1 p0.len 2 fun a3 =>
  L.load (.agg [.str, .int .i64]) a3 fun (x4 : ByteArray × Int × Unit) =>
  L.callV Pr (.func p1.fn p1.fs p1.cs) [.agg #[.string x4.1, .int .i64 x4.2.1]] rB fun (x5 : Bool) =>
  L.ite x5 (
   K (.int .i64 y1.1)) <|
  again2 (IntKind.wrap .i64 (y1.1 + 1), ())) <|
 K (.int .i64 (-1))
theorem C_slices_IndexFunc_api_Share_api_Share (p0 : Sl) (p1 : FV) {K : Value → PT} {w : World} (h : F_slices_IndexFunc_api_Share_api_Share p0 p1 K w) : CT Pr n_slices_IndexFunc_api_Share_api_Share [.slice p0.a p0.len p0.cap, .func p1.fn p1.fs p1.cs] K w :=
 C_of (fn := Tryz.f238) (an := A_slices_IndexFunc_api_Share_api_Share) (args := [.v (.slice p0.a p0.len p0.cap), .v (.func p1.fn p1.fs p1.cs)]) (by kernel_rfl) (by kernel_rfl) (by kernel_rfl) h
def F_roll_Weight_1 (p0 : HT [.str, .int .i64]) (c0 : Addr) (K : Value → PT) : PT :=
 L.new [.string p0.1, .int .i64 p0.2.1] T_api_Share fun b1 =>
 L.load eS6 ((⟨b1, 0, none⟩ : Addr).add 0) fun (x2 : ByteArray) =>
 L.load eS6 c0 fun (x3 : ByteArray) =>
 K (.bool (x2.toList == x3.toList))
theorem C_roll_Weight_1 (p0 : HT [.str, .int .i64]) (c0 : Addr) {K : Value → PT} {w : World} (h : F_roll_Weight_1 p0 c0 K w) : CT Pr n_roll_Weight_1 [(.ag [.string p0.1, .int .i64 p0.2.1] : SV).toV, .pointer (some c0)] K w :=
 C_of (fn := Tryz.f239) (an := .auto) (args := [.ag [.string p0.1, .int .i64 p0.2.1], .v (.pointer (some c0))]) (by kernel_rfl) (by kernel_rfl) (by kernel_rfl) h
theorem E_roll_Weight_1 : Enters Pr n_roll_Weight_1 := enters_of_B (by kernel_rfl)
def F_slices_Clone_fleet_Look_fleet_Look (p0 : Sl) (K : Value → PT) : PT :=
 L.ite ((p0.a).isNone) (
  K (.slice none 0 0)) <|
 L.new [] T_fleet_Look fun b1 =>
 L.sem Pr (.one (.one .slice)) (Builtin.append_ #[T_s_fleet_Look, T_s_fleet_Look] T_s_fleet_Look #[.slice (some ⟨b1, 0, none⟩) 0 0, .slice p0.a p0.len p0.cap]) fun (s2 : Sl) =>
 K (.slice s2.a s2.len s2.cap)
theorem C_slices_Clone_fleet_Look_fleet_Look (p0 : Sl) {K : Value → PT} {w : World} (h : F_slices_Clone_fleet_Look_fleet_Look p0 K w) : CT Pr n_slices_Clone_fleet_Look_fleet_Look [.slice p0.a p0.len p0.cap] K w :=
 C_of (fn := Tryz.f240) (an := .auto) (args := [.v (.slice p0.a p0.len p0.cap)]) (by kernel_rfl) (by kernel_rfl) (by kernel_rfl) h
def A_fleet_Fleet_of_1 : Ann := (.seq .auto (.one [(14, (.one (.int .i64)))] (.seq .auto (.seq .auto (.seq (.seq .auto (.seq .auto (.seq .auto (.cond .auto .auto) none) none) none) .auto (some [])) none) none)) none)
def F_fleet_Fleet_of_1 (p0 : FV) (c0 : Addr) (c1 : Addr) (K : Value → PT) : PT :=
 L.load eP6 c0 fun (x1 : Option Addr) =>
 L.nonnil x1 fun a2 =>
 L.load (.one (.map)) (a2.add 0) fun (x3 : Option Nat) =>
 L.call Pr n_maps_Keys_map_int_fleet_one_int_fleet_one [.map x3] (.one (.one (.func))) fun (x4 : FV) =>
 L.call Pr n_slices_Sorted_int [.func x4.fn x4.fs x4.cs] rL fun (x5 : Sl) =>
 L.loop (Y := Int × Unit) (0, ()) fun y6 again7 =>
 L.ite (decide (y6.1 < ((x5.len : Nat) : Int))) (
  L.join (Y := Unit) (fun k8 =>
   L.idx x5.a y6.1 x5.len 1 fun a10 =>
   L.load eI6 a10 fun (x11 : Int) =>
   L.load eP6 c0 fun (x12 : Option Addr) =>
   L.nonnil x12 fun a13 =>
   L.load (.one (.map)) (a13.add 0) fun (x14 : Option Nat) =>
   L.semR Pr (.one (.agg [.str, .ptr])) (Instr.lookup T_map_int_fleet_one (.map x14) (.int .i64 x11) false) fun (x15 : ByteArray × Option Addr × Unit) =>
   L.new [.string s_, .pointer none] T_fleet_one fun b16 =>
   L.store (⟨b16, 0, none⟩) [.string x15.1, .pointer x15.2.1] <|
   L.load eS6 ((⟨b16, 0, none⟩ : Addr).add 0) fun (x17 : ByteArray) =>
   L.load eS6 c1 fun (x18 : ByteArray) =>
   L.ite (x17.toList == x18.toList) (
    L.load eP6 ((⟨b16, 0, none⟩ : Addr).add 1) fun (x19 : Option Addr) =>
    L.callV Pr (.func p0.fn p0.fs p0.cs) [.int .i64 x11, .pointer x19] rB fun (x20 : Bool) =>
    L.ite (!x20) (
     K (.tuple #[])) <|
    k8 (())) <|
   k8 (())) fun z9 =>
  again7 (IntKind.wrap .i64 (y6.1 + 1), ())) <|
 K (.tuple #[])
theorem C_fleet_Fleet_of_1 (p0 : FV) (c0 : Addr) (c1 : Addr) {K : Value → PT} {w : World} (h : F_fleet_Fleet_of_1 p0 c0 c1 K w) : CT Pr n_fleet_Fleet_of_1 [.func p0.fn p0.fs p0.cs, .pointer (some c0), .pointer (some c1)] K w :=
 C_of (fn := Tryz.f241) (an := A_fleet_Fleet_of_1) (args := [.v (.func p0.fn p0.fs p0.cs), .v (.pointer (some c0)), .v (.pointer (some c1))]) (by kernel_rfl) (by kernel_rfl) (by kernel_rfl) h
theorem E_fleet_Fleet_of_1 : Enters Pr n_fleet_Fleet_of_1 := enters_of_B (by kernel_rfl)
def F_maps_Keys_map_int_fleet_one_int_fleet_one (p0 : Option Nat) (K : Value → PT) : PT :=
 L.new [.map p0] T_map_int_fleet_one fun b1 =>
 K (.func (.func n_maps_Keys_map_int_fleet_one_int_fleet_one_1) #[] #[.pointer (some (⟨b1, 0, none⟩))])
theorem C_maps_Keys_map_int_fleet_one_int_fleet_one (p0 : Option Nat) {K : Value → PT} {w : World} (h : F_maps_Keys_map_int_fleet_one_int_fleet_one p0 K w) : CT Pr n_maps_Keys_map_int_fleet_one_int_fleet_one [.map p0] K w :=
 C_of (fn := Tryz.f242) (an := .auto) (args := [.v (.map p0)]) (by kernel_rfl) (by kernel_rfl) (by kernel_rfl) h
def A_slices_AppendSeq_string_string : Ann := (.seq .auto (.seq (.seq .auto (.seq .auto .auto (some [(7, (.one (.str)))])) none) .auto none) none)
def F_slices_AppendSeq_string_string (p0 : Sl) (p1 : FV) (K : Value → PT) : PT :=
 L.new [.slice p0.a p0.len p0.cap] T_s_string fun b1 =>
 L.range Pr none (.func p1.fn p1.fs p1.cs) [eS6] (fun l2 (y3 : ByteArray × Unit) R4 =>
  L.begin Pr l2 <|
  L.load eL6 (⟨b1, 0, none⟩) fun (x7 : Sl) =>
  L.new [.string y3.1] T_string fun b8 =>
  L.sem Pr (.one (.one .slice)) (Builtin.append_ #[T_s_string, T_s_string] T_s_string #[.slice x7.a x7.len x7.cap, .slice (some ⟨b8, 0, none⟩) 1 1]) fun (s9 : Sl) =>
  L.store (⟨b1, 0, none⟩) [.slice s9.a s9.len s9.cap] <|
  L.endRound Pr l2 none R4) fun d5 j6 =>
 L.jump j6 (
  L.load eL6 (⟨b1, 0, none⟩) fun (x10 : Sl) =>
  L.unmark Pr (d5 ++ []) <|
  K (.slice x10.a x10.len x10.cap)) (
  L.unmark Pr (d5 ++ []) <|
  K (.slice none 0 0)) []
theorem C_slices_AppendSeq_string_string (p0 : Sl) (p1 : FV) {K : Value → PT} {w : World} (h : F_slices_AppendSeq_string_string p0 p1 K w) : CT Pr n_slices_AppendSeq_string_string [.slice p0.a p0.len p0.cap, .func p1.fn p1.fs p1.cs] K w :=
 C_of (fn := Tryz.f243) (an := A_slices_AppendSeq_string_string) (args := [.v (.slice p0.a p0.len p0.cap), .v (.func p1.fn p1.fs p1.cs)]) (by kernel_rfl) (by kernel_rfl) (by kernel_rfl) h
def A_slices_stableCmpFunc_fleet_choice : Ann := (.seq .auto (.seq .auto (.seq (.one [(7, (.one (.int .i64))), (8, (.one (.int .i64)))] .auto) (.seq .auto (.one [(6, (.one (.int .i64)))] (.seq .auto (.seq .auto (.seq (.one [(7, (.one (.int .i64))), (8, (.one (.int .i64)))] .auto) (.seq .auto .auto (some [])) none) none) none)) none) none) none) none)
def F_slices_stableCmpFunc_fleet_choice (p0 : Sl) (p1 : Int) (p2 : FV) (K : Value → PT) : PT :=
 L.loop (Y := Int × Int × Unit) (0, 20, ()) fun y1 again2 =>
 L.ite (decide (y1.2.1 ≤ p1)) (
  L.call Pr n_slices_insertionSortCmpFunc_fleet_choice [.slice p0.a p0.len p0.cap, .int .i64 y1.1, .int .i64 y1.2.1, .func p2.fn p2.fs p2.cs] (.tup []) fun (x3 : Unit) =>
  again2 (y1.2.1, IntKind.wrap .i64 (y1.2.1 + 20), ())) <|
 L.call Pr n_slices_insertionSortCmpFunc_fleet_choice [.slice p0.a p0.len p0.cap, .int .i64 y1.1, .int .i64 p1, .func p2.fn p2.fs p2.cs] (.tup []) fun (x4 : Unit) =>
 L.loop (Y := Int × Unit) (20, ()) fun y5 again6 =>
 L.ite (decide (y5.1 < p1)) (
  L.loop (Y := Int × Int × Unit) (0, IntKind.wrap .i64 (2 * y5.1), ()) fun y7 again8 =>
  L.ite (decide (y7.2.1 ≤ p1)) (
   L.call Pr n_slices_symMergeCmpFunc_fleet_choice [.slice p0.a p0.len p0.cap, .int .i64 y7.1, .int .i64 (IntKind.wrap .i64 (y7.1 + y5.1)), .int .i64 y7.2.1, .func p2.fn p2.fs p2.cs] (.tup []) fun (x9 : Unit) =>
   again8 (y7.2.1, IntKind.wrap .i64 (y7.2.1 + (IntKind.wrap .i64 (2 * y5.1))), ())) <|
  L.join (Y := Unit) (fun k10 =>
   L.ite (decide ((IntKind.wrap .i64 (y7.1 + y5.1)) < p1)) (
    L.call Pr n_slices_symMergeCmpFunc_fleet_choice [.slice p0.a p0.len p0.cap, .int .i64 y7.1, .int .i64 (IntKind.wrap .i64 (y7.1 + y5.1)), .int .i64 p1, .func p2.fn p2.fs p2.cs] (.tup []) fun (x12 : Unit) =>
    k10 (())) <|
   k10 (())) fun z11 =>
  again6 (IntKind.wrap .i64 (y5.1 * 2), ())) <|
 K (.tuple #[])
theorem C_slices_stableCmpFunc_fleet_choice (p0 : Sl) (p1 : Int) (p2 : FV) {K : Value → PT} {w : World} (h : F_slices_stableCmpFunc_fleet_choice p0 p1 p2 K w) : CT Pr n_slices_stableCmpFunc_fleet_choice [.slice p0.a p0.len p0.cap, .int .i64 p1, .func p2.fn p2.fs p2.cs] K w :=
 C_of (fn := Tryz.f256) (an := A_slices_stableCmpFunc_fleet_choice) (args := [.v (.slice p0.a p0.len p0.cap), .v (.int .i64 p1), .v (.func p2.fn p2.fs p2.cs)]) (by kernel_rfl) (by kernel_rfl) (by kernel_rfl) h
def F_pod_bag_int_put (p0 : Option Addr) (p1 : Int) (K : Value → PT) : PT :=
 L.nonnil p0 fun a1 =>
 L.load (.one (.map)) (a1.add 0) fun (x2 : Option Nat) =>
 L.semR Pr rB (Instr.lookup T_map_int_bool (.map x2) (.int .i64 p1) false) fun (x3 : Bool) =>
 L.ite x3 (
  K (.int .i64 5)) <|
 L.draw <|
 L.nonnil p0 fun a4 =>
 L.load (.one (.map)) (a4.add 0) fun (x5 : Option Nat) =>
 L.semR Pr rI (Builtin.len_ #[T_map_int_bool] T_int #[.map x5]) fun (x6 : Int) =>
 L.nonnil p0 fun a7 =>
 L.load eI6 (a7.add 1) fun (x8 : Int) =>
 L.ite (decide (x6 ≥ x8)) (
  K (.int .i64 8)) <|
 L.nonnil p0 fun a9 =>
 L.load (.one (.map)) (a9.add 0) fun (x10 : Option Nat) =>
 L.semU Pr (Instr.mapUpdate T_map_int_bool (.map x10) (.int .i64 p1) (.bool true)) <|
 K (.int .i64 0)
theorem C_pod_bag_int_put (p0 : Option Addr) (p1 : Int) {K : Value → PT} {w : World} (h : F_pod_bag_int_put p0 p1 K w) : CT Pr n_pod_bag_int_put [.pointer p0, .int .i64 p1] K w :=
 C_of (fn := Tryz.f257) (an := .auto) (args := [.v (.pointer p0), .v (.int .i64 p1)]) (by kernel_rfl) (by kernel_rfl) (by kernel_rfl) h
def A_slices_AppendSeq_int_int : Ann := (.seq .auto (.seq (.seq .auto (.seq .auto .auto (some [(7, (.one (.int .i64)))])) none) .auto none) none)
def F_slices_AppendSeq_int_int (p0 : Sl) (p1 : FV) (K : Value → PT) : PT :=
 L.new [.slice p0.a p0.len p0.cap] T_s_int fun b1 =>
 L.range Pr none (.func p1.fn p1.fs p1.cs) [eI6] (fun l2 (y3 : Int × Unit) R4 =>
  L.begin Pr l2 <|
  L.load eL6 (⟨b1, 0, none⟩) fun (x7 : Sl) =>
  L.new [.int .i64 y3.1] T_int fun b8 =>
  L.sem Pr (.one (.one .slice)) (Builtin.append_ #[T_s_int, T_s_int] T_s_int #[.slice x7.a x7.len x7.cap, .slice (some ⟨b8, 0, none⟩) 1 1]) fun (s9 : Sl) =>
  L.store (⟨b1, 0, none⟩) [.slice s9.a s9.len s9.cap] <|
  L.endRound Pr l2 none R4) fun d5 j6 =>
 L.jump j6 (
  L.load eL6 (⟨b1, 0, none⟩) fun (x10 : Sl) =>
  L.unmark Pr (d5 ++ []) <|
  K (.slice x10.a x10.len x10.cap)) (
  L.unmark Pr (d5 ++ []) <|
  K (.slice none 0 0)) []
theorem C_slices_AppendSeq_int_int (p0 : Sl) (p1 : FV) {K : Value → PT} {w : World} (h : F_slices_AppendSeq_int_int p0 p1 K w) : CT Pr n_slices_AppendSeq_int_int [.slice p0.a p0.len p0.cap, .func p1.fn p1.fs p1.cs] K w :=
 C_of (fn := Tryz.f258) (an := A_slices_AppendSeq_int_int) (args := [.v (.slice p0.a p0.len p0.cap), .v (.func p1.fn p1.fs p1.cs)]) (by kernel_rfl) (by kernel_rfl) (by kernel_rfl) h
def A_maps_Keys_map_int_fleet_one_int_fleet_one_1 : Ann := (.seq .auto (.one [] (.seq .auto (.seq (.cond .auto .auto) .auto none) none)) none)
def F_maps_Keys_map_int_fleet_one_int_fleet_one_1 (p0 : FV) (c0 : Addr) (K : Value → PT) : PT :=
 L.load (.one (.map)) c0 fun (x1 : Option Nat) =>
 L.sem Pr (.one (.one .ptr)) (Instr.range T_map_int_fleet_one (.map x1)) fun (it2 : Option Addr) =>
 L.loop (Y := Unit) (()) fun y3 again4 =>
 L.next Pr [eI6, (.agg [.str, .ptr])] (Instr.next (.pointer it2) false T_) (
  K (.tuple #[])) fun (x5 : pt23) =>
 L.sem Pr (.tup [eI6, (.agg [.str, .ptr])]) (Instr.entry (.pointer it2)) fun (x6 : pt23) =>
 L.callV Pr (.func p0.fn p0.fs p0.cs) [.int .i64 x6.1] rB fun (x7 : Bool) =>
 L.ite (!x7) (
  K (.tuple #[])) <|
 again4 (())
theorem C_maps_Keys_map_int_fleet_one_int_fleet_one_1 (p0 : FV) (c0 : Addr) {K : Value → PT} {w : World} (h : F_maps_Keys_map_int_fleet_one_int_fleet_one_1 p0 c0 K w) : CT Pr n_maps_Keys_map_int_fleet_one_int_fleet_one_1 [.func p0.fn p0.fs p0.cs, .pointer (some c0)] K w :=
 C_of (fn := Tryz.f269) (an := A_maps_Keys_map_int_fleet_one_int_fleet_one_1) (args := [.v (.func p0.fn p0.fs p0.cs), .v (.pointer (some c0))]) (by kernel_rfl) (by kernel_rfl) (by kernel_rfl) h
theorem E_maps_Keys_map_int_fleet_one_int_fleet_one_1 : Enters Pr n_maps_Keys_map_int_fleet_one_int_fleet_one_1 := enters_of_B (by kernel_rfl)
def A_slices_insertionSortCmpFunc_fleet_choice : Ann := (.seq .auto (.one [(8, (.one (.int .i64)))] (.seq .auto (.seq (.seq .auto (.one [(9, (.one (.int .i64)))] (.seq (.seq .auto (.cond .auto .auto) none) .auto none)) none) .auto (some [])) none)) none)
def F_slices_insertionSortCmpFunc_fleet_choice (p0 : Sl) (p1 : Int) (p2 : Int) (p3 : FV) (K : Value → PT) : PT :=
 L.loop (Y := Int × Unit) (IntKind.wrap .i64 (p1 + 1), ()) fun y1 again2 =>
 L.ite (decide (y1.1 < p2)) (
  L.join (Y := Unit) (fun k3 =>
   L.loop (Y := Int × Unit) (y1.1, ()) fun y5 again6 =>
   L.draw <|
   L.ite (decide (y5.1 > p1)) (
    L.idx p0.a y5.1 p0.len 2 fun a7 =>
    L.load (.agg [.int .i64, .int .i64]) a7 fun (x8 : Int × Int × Unit) =>
    L.idx p0.a (IntKind.wrap .i64 (y5.1 - 1)) p0.len 2 fun a9 =>
    L.load (.agg [.int .i64, .int .i64]) a9 fun (x10 : Int × Int × Unit) =>
    L.callV Pr (.func p3.fn p3.fs p3.cs) [.agg #[.int .i64 x8.1, .int .i64 x8.2.1], .agg #[.int .i64 x10.1, .int .i64 x10.2.1]] rI fun (x11 : Int) =>
    L.ite (decide (x11 < 0)) (
     L.draw <|
     L.idx p0.a (IntKind.wrap .i64 (y5.1 - 1)) p0.len 2 fun a12 =>
     L.load (.agg [.int .i64, .int .i64]) a12 fun (x13 : Int × Int × Unit) =>
     L.idx p0.a y5.1 p0.len 2 fun a14 =>
     L.load (.agg [.int .i64, .int .i64]) a14 fun (x15 : Int × Int × Unit) =>
     L.idx p0.a y5.1 p0.len 2 fun a16 =>
     L.store a16 [.int .i64 x13.1, .int .i64 x13.2.1] <|
     L.idx p0.a (IntKind.wrap .i64 (y5.1 - 1)) p0.len 2 fun a17 =>
     L.store a17 [.int .i64 x15.1, .int .i64 x15.2.1] <|
     again6 (IntKind.wrap .i64 (y5.1 - 1), ())) <|
    k3 (())) <|
   k3 (())) fun z4 =>
  again2 (IntKind.wrap .i64 (y1.1 + 1), ())) <|
 K (.tuple #[])
theorem C_slices_insertionSortCmpFunc_fleet_choice (p0 : Sl) (p1 : Int) (p2 : Int) (p3 : FV) {K : Value → PT} {w : World} (h : F_slices_insertionSortCmpFunc_fleet_choice p0 p1 p2 p3 K w) : CT Pr n_slices_insertionSortCmpFunc_fleet_choice [.slice p0.a p0.len p0.cap, .int .i64 p1, .int .i64 p2, .func p3.fn p3.fs p3.cs] K w :=
 C_of (fn := Tryz.f284) (an := A_slices_insertionSortCmpFunc_fleet_choice) (args := [.v (.slice p0.a p0.len p0.cap), .v (.int .i64 p1), .v (.int .i64 p2), .v (.func p3.fn p3.fs p3.cs)]) (by kernel_rfl) (by kernel_rfl) (by kernel_rfl) h
end Go.Proofs.YtkebppklbobjcaaGreatDoor
