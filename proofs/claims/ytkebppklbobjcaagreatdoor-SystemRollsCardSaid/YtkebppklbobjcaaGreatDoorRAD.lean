/- What is proved on the way to a statement of the seat, pressed (text AD). No conditions beyond those its theorems state. -/
import Derived.Test.YtkebppklbobjcaaGreatDoorRAC
import Derived.Test.YtkebppklbobjcaaGreatDoorProg
set_option linter.all false
namespace Go.Proofs.YtkebppklbobjcaaGreatDoor
set_option maxRecDepth 100000
open Go.Dm
abbrev ht0 := HT [.str, .int .i64, .int .i64, .int .i64, .int .i64, .int .i64]
abbrev ht1 := HT [.int .i64, .str, .str, .int .i64, .int .i64, .str, .int .i64, .int .i64, .int .i64, .int .i64, .int .i64, .str, .str, .slice, .int .i64]
abbrev ht2 := HT [.str, .str, .slice, .int .i64]
abbrev ht3 := HT [.int .i64, .int .i64, .int .i64, .str]
abbrev qc0 (p : ht0) : List Value := [.string p.1, .int .i64 p.2.1, .int .i64 p.2.2.1, .int .i64 p.2.2.2.1, .int .i64 p.2.2.2.2.1, .int .i64 p.2.2.2.2.2.1]
abbrev qc1 (p : ht1) : List Value := [.int .i64 p.1, .string p.2.1, .string p.2.2.1, .int .i64 p.2.2.2.1, .int .i64 p.2.2.2.2.1, .string p.2.2.2.2.2.1, .int .i64 p.2.2.2.2.2.2.1, .int .i64 p.2.2.2.2.2.2.2.1, .int .i64 p.2.2.2.2.2.2.2.2.1, .int .i64 p.2.2.2.2.2.2.2.2.2.1, .int .i64 p.2.2.2.2.2.2.2.2.2.2.1, .string p.2.2.2.2.2.2.2.2.2.2.2.1, .string p.2.2.2.2.2.2.2.2.2.2.2.2.1, .slice p.2.2.2.2.2.2.2.2.2.2.2.2.2.1.a p.2.2.2.2.2.2.2.2.2.2.2.2.2.1.len p.2.2.2.2.2.2.2.2.2.2.2.2.2.1.cap, .int .i64 p.2.2.2.2.2.2.2.2.2.2.2.2.2.2.1]
abbrev qc2 (p : ht2) : List Value := [.string p.1, .string p.2.1, .slice p.2.2.1.a p.2.2.1.len p.2.2.1.cap, .int .i64 p.2.2.2.1]
abbrev qc3 (p : ht3) : List Value := [.int .i64 p.1, .int .i64 p.2.1, .int .i64 p.2.2.1, .string p.2.2.2.1]
abbrev CT (P : Program) (f : FuncId) (a : List Value) (K : Value → PT) (w : World) : Prop := Calls P f a.toArray w fun e w2 => ∃ v, e = .returned v ∧ K v w2
abbrev pt0 := ByteArray × Int × Int × Int × Int × Int × Unit
abbrev pt1 := Int × ByteArray × ByteArray × Int × Int × ByteArray × Int × Int × Int × Int × Int × ByteArray × ByteArray × Sl × Int × Unit
abbrev pt2 := (Bool × Bool × Bool × Bool × Bool × Bool × Unit) × Bool × Unit
abbrev pt3 := ByteArray × ByteArray × Sl × Int × Unit
abbrev pt4 := (ByteArray × Int × Int × Int × Int × Int × Unit) × Int × Int × Bool × Unit
abbrev pt5 := (ByteArray × ByteArray × Sl × Int × Unit) × Int × Bool × Unit
abbrev pt6 := (ByteArray × Int × ByteArray × Int × Int × Int × Int × Int × Unit) × Bool × Unit
abbrev pt7 := (Sl × Sl × Int × Int × Sl × Sl × Unit) × Bool × Unit
abbrev pt8 := Bool × Bool × Bool × Bool × Bool × Bool × Unit
abbrev pt9 := ByteArray × ByteArray × Int × Unit
abbrev pt10 := Int × Int × Int × ByteArray × Unit
abbrev pt11 := (Int × Int × Int × ByteArray × Unit) × Bool × Unit
abbrev pt12 := (ByteArray × Option Addr × Unit) × Bool × Unit
abbrev pt13 := (ByteArray × Int × Int × Int × Int × Int × Int × Int × Bool × Unit) × Bool × Unit
abbrev pt14 := ByteArray × Int × ByteArray × Int × Int × Int × Int × Int × Unit
abbrev pt15 := (ByteArray × ByteArray × Sl × Int × Int × Int × Bool × Unit) × Bool × Unit
abbrev pt16 := Sl × Sl × Int × Int × Sl × Sl × Unit
abbrev pt17 := Int × Option (TypeId × Value) × Unit
abbrev pt18 := ByteArray × Int × Int × Int × Int × Int × Int × Int × Bool × Unit
abbrev pt19 := ByteArray × ByteArray × Sl × Int × Int × Int × Bool × Unit
abbrev pt21 := Int × (ByteArray × Int × Unit) × Unit
abbrev pt22 := ByteArray × (ByteArray × Int × ByteArray × Int × Int × Int × Int × Int × Unit) × Unit
abbrev pt23 := Int × (ByteArray × Option Addr × Unit) × Unit
abbrev lf0 : List Lf := [.str, .int .i64, .int .i64, .int .i64, .int .i64, .int .i64]
abbrev lf1 : List Lf := [.int .i64, .str, .str, .int .i64, .int .i64, .str, .int .i64, .int .i64, .int .i64, .int .i64, .int .i64, .str, .str, .slice, .int .i64]
abbrev lf2 : List Lf := [.ptr, .ptr, .ptr, .ptr, .ptr, .map, .int .i64]
abbrev lf3 : List Lf := [.ptr, .map, .map, .func, .int .i64, .int .i64]
abbrev lf4 : List Lf := [.bool, .bool, .bool, .bool, .bool, .bool]
abbrev lf5 : List Lf := [.str, .int .i64, .str, .int .i64, .int .i64, .int .i64, .int .i64, .int .i64]
abbrev lf6 : List Lf := [.slice, .slice, .int .i64, .int .i64, .slice, .slice]
abbrev lf7 : List Lf := [.int .i64, .int .i64, .int .i64, .int .i64, .int .i64, .int .i64, .int .i64, .int .i64, .int .i64, .int .i64, .int .i64, .int .i64, .int .i64, .int .i64, .int .i64, .int .i64, .int .i64, .int .i64, .int .i64, .int .i64, .int .i64, .int .i64, .int .i64, .int .i64, .int .i64, .int .i64, .int .i64, .int .i64, .int .i64, .int .i64, .int .i64, .int .i64, .int .i64, .int .i64, .int .i64, .int .i64, .int .i64, .int .i64, .int .i64, .int .i64, .int .i64, .int .i64, .int .i64, .int .i64, .int .i64, .int .i64, .int .i64, .int .i64, .int .i64, .int .i64, .int .i64, .int .i64, .int .i64, .int .i64, .int .i64, .int .i64, .int .i64, .int .i64, .int .i64, .int .i64]
abbrev lf8 : List Lf := [.int .i64, .int .i64, .int .i64, .int .i64, .int .i64, .int .i64, .int .i64, .int .i64, .int .i64, .int .i64, .int .i64, .int .i64, .int .i64, .int .i64, .int .i64, .int .i64, .int .i64, .int .i64, .int .i64, .int .i64, .int .i64, .int .i64, .int .i64, .int .i64, .int .i64, .int .i64, .int .i64, .int .i64, .int .i64, .int .i64, .int .i64, .int .i64, .int .i64, .int .i64, .int .i64, .int .i64, .int .i64, .int .i64, .int .i64, .int .i64, .int .i64, .int .i64, .int .i64, .int .i64, .int .i64, .int .i64, .int .i64, .int .i64, .int .i64, .int .i64, .int .i64, .int .i64, .int .i64, .int .i64, .int .i64, .int .i64, .int .i64, .int .i64, .int .i64, .int .i64, .int .i64]
abbrev lf9 : List Lf := [.int .i64, .int .i64, .int .i64, .int .i64, .int .i64, .int .i64, .int .i64, .int .i64, .int .i64, .int .i64, .int .i64, .int .i64, .int .i64, .int .i64, .int .i64, .int .i64, .int .i64, .int .i64, .int .i64, .int .i64, .int .i64, .int .i64, .int .i64, .int .i64, .int .i64, .int .i64, .int .i64, .int .i64, .int .i64, .int .i64, .int .i64, .int .i64, .int .i64, .int .i64, .int .i64, .int .i64, .int .i64, .int .i64, .int .i64, .int .i64, .int .i64, .int .i64, .int .i64, .int .i64, .int .i64, .int .i64, .int .i64, .int .i64, .int .i64, .int .i64, .int .i64, .int .i64, .int .i64, .int .i64, .int .i64, .int .i64, .int .i64, .int .i64, .int .i64, .int .i64, .int .i64, .int .i64]
abbrev lf10 : List Lf := [.str, .int .i64, .int .i64, .int .i64, .int .i64, .int .i64, .int .i64, .int .i64, .bool]
abbrev lf11 : List Lf := [.str, .str, .slice, .int .i64, .int .i64, .int .i64, .bool]
abbrev lf12 : List Lf := [.int .u8, .int .u8, .int .u8, .int .u8, .int .u8, .int .u8, .int .u8, .int .u8, .int .u8, .int .u8, .int .u8, .int .u8, .int .u8, .int .u8, .int .u8, .int .u8, .int .u8, .int .u8, .int .u8, .int .u8, .int .u8, .int .u8, .int .u8, .int .u8]
abbrev lf13 : List Lf := [.int .u64, .int .u64, .int .u64, .int .u64, .int .u64, .int .u64, .int .u64, .int .u64, .int .u64, .int .u64, .int .u64, .int .u64, .int .u64, .int .u64, .int .u64, .int .u64, .int .u64, .int .u64, .int .u64, .int .u64]
abbrev lf14 : List Lf := [.int .u8, .int .u8, .int .u8, .int .u8, .int .u8, .int .u8, .int .u8, .int .u8, .int .u8, .int .u8, .int .u8, .int .u8, .int .u8, .int .u8, .int .u8, .int .u8, .int .u8, .int .u8, .int .u8, .int .u8, .int .u8, .int .u8, .int .u8, .int .u8, .int .u8, .int .u8, .int .u8, .int .u8, .int .u8, .int .u8, .int .u8, .int .u8, .int .u8, .int .u8, .int .u8, .int .u8, .int .u8, .int .u8, .int .u8, .int .u8, .int .u8, .int .u8, .int .u8, .int .u8, .int .u8, .int .u8, .int .u8, .int .u8, .int .u8, .int .u8, .int .u8, .int .u8, .int .u8, .int .u8, .int .u8, .int .u8, .int .u8, .int .u8, .int .u8, .int .u8, .int .u8, .int .u8, .int .u8, .int .u8, .int .u8]
abbrev lf15 : List Lf := [.int .u8, .int .u8, .int .u8, .int .u8, .int .u8, .int .u8, .int .u8, .int .u8, .int .u8, .int .u8, .int .u8, .int .u8, .int .u8, .int .u8, .int .u8, .int .u8, .int .u8, .int .u8, .int .u8, .int .u8, .int .u8, .int .u8, .int .u8, .int .u8, .int .u8, .int .u8, .int .u8, .int .u8, .int .u8, .int .u8, .int .u8, .int .u8]
abbrev lf16 : List Lf := [.int .u8, .int .u8, .int .u8, .int .u8, .int .u8, .int .u8, .int .u8, .int .u8, .int .u8, .int .u8, .int .u8, .int .u8, .int .u8, .int .u8, .int .u8, .int .u8, .int .u8, .int .u8, .int .u8, .int .u8, .int .u8, .int .u8, .int .u8, .int .u8, .int .u8, .int .u8, .int .u8, .int .u8, .int .u8, .int .u8, .int .u8, .int .u8, .int .u8, .int .u8, .int .u8, .int .u8, .int .u8, .int .u8, .int .u8, .int .u8, .int .u8, .int .u8, .int .u8, .int .u8, .int .u8, .int .u8, .int .u8, .int .u8, .int .u8, .int .u8, .int .u8, .int .u8, .int .u8, .int .u8, .int .u8, .int .u8, .int .u8, .int .u8, .int .u8, .int .u8, .int .u8, .int .u8, .int .u8, .int .u8]
abbrev lf17 : List Lf := [.int .u64, .int .u64, .int .u32, .int .u8, .int .u8, .int .u8, .int .u8, .func, .ptr, .int .i32, .int .i32]
abbrev qa0 (p : pt0) : Value := .agg #[.string p.1, .int .i64 p.2.1, .int .i64 p.2.2.1, .int .i64 p.2.2.2.1, .int .i64 p.2.2.2.2.1, .int .i64 p.2.2.2.2.2.1]
abbrev qa1 (p : pt1) : Value := .agg #[.int .i64 p.1, .string p.2.1, .string p.2.2.1, .int .i64 p.2.2.2.1, .int .i64 p.2.2.2.2.1, .string p.2.2.2.2.2.1, .int .i64 p.2.2.2.2.2.2.1, .int .i64 p.2.2.2.2.2.2.2.1, .int .i64 p.2.2.2.2.2.2.2.2.1, .int .i64 p.2.2.2.2.2.2.2.2.2.1, .int .i64 p.2.2.2.2.2.2.2.2.2.2.1, .string p.2.2.2.2.2.2.2.2.2.2.2.1, .string p.2.2.2.2.2.2.2.2.2.2.2.2.1, .slice p.2.2.2.2.2.2.2.2.2.2.2.2.2.1.a p.2.2.2.2.2.2.2.2.2.2.2.2.2.1.len p.2.2.2.2.2.2.2.2.2.2.2.2.2.1.cap, .int .i64 p.2.2.2.2.2.2.2.2.2.2.2.2.2.2.1]
abbrev qa2 (p : pt8) : Value := .agg #[.bool p.1, .bool p.2.1, .bool p.2.2.1, .bool p.2.2.2.1, .bool p.2.2.2.2.1, .bool p.2.2.2.2.2.1]
abbrev qa3 (p : pt14) : Value := .agg #[.string p.1, .int .i64 p.2.1, .string p.2.2.1, .int .i64 p.2.2.2.1, .int .i64 p.2.2.2.2.1, .int .i64 p.2.2.2.2.2.1, .int .i64 p.2.2.2.2.2.2.1, .int .i64 p.2.2.2.2.2.2.2.1]
abbrev qa4 (p : pt16) : Value := .agg #[.slice p.1.a p.1.len p.1.cap, .slice p.2.1.a p.2.1.len p.2.1.cap, .int .i64 p.2.2.1, .int .i64 p.2.2.2.1, .slice p.2.2.2.2.1.a p.2.2.2.2.1.len p.2.2.2.2.1.cap, .slice p.2.2.2.2.2.1.a p.2.2.2.2.2.1.len p.2.2.2.2.2.1.cap]
abbrev qa5 (p : pt18) : Value := .agg #[.string p.1, .int .i64 p.2.1, .int .i64 p.2.2.1, .int .i64 p.2.2.2.1, .int .i64 p.2.2.2.2.1, .int .i64 p.2.2.2.2.2.1, .int .i64 p.2.2.2.2.2.2.1, .int .i64 p.2.2.2.2.2.2.2.1, .bool p.2.2.2.2.2.2.2.2.1]
abbrev qa6 (p : pt19) : Value := .agg #[.string p.1, .string p.2.1, .slice p.2.2.1.a p.2.2.1.len p.2.2.1.cap, .int .i64 p.2.2.2.1, .int .i64 p.2.2.2.2.1, .int .i64 p.2.2.2.2.2.1, .bool p.2.2.2.2.2.2.1]
abbrev eI6 : E1 := .one (.int .i64)
abbrev eS6 : E1 := .one .str
abbrev eL6 : E1 := .one .slice
abbrev eB6 : E1 := .one .bool
abbrev eP6 : E1 := .one .ptr
abbrev rI : RT := .one eI6
abbrev rS : RT := .one eS6
abbrev rL : RT := .one eL6
abbrev rB : RT := .one eB6
abbrev rP : RT := .one eP6
noncomputable abbrev Pr : Program := Tryz.prog
abbrev n_damperlaw15_SystemRolls : Nat := 5
abbrev n_damperlaw15_known : Nat := 7
abbrev n_system_New : Nat := 9
abbrev n_damperlaw15_within : Nat := 10
abbrev n_damperref1_Digits : Nat := 11
abbrev n_system_System_Do : Nat := 12
abbrev n_system_System_Now : Nat := 16
abbrev n_system_System_Revisions : Nat := 18
abbrev n_system_within_int : Nat := 20
abbrev n_fleet_New : Nat := 21
abbrev n_shelf_New : Nat := 22
abbrev n_stamp_New : Nat := 23
abbrev n_lead_New : Nat := 24
abbrev n_gate_New : Nat := 25
abbrev n_event_Check : Nat := 26
abbrev n_system_line_string : Nat := 27
abbrev n_api_Errno_Error : Nat := 28
abbrev n_system_System_config : Nat := 29
abbrev n_system_System_route : Nat := 30
abbrev n_system_System_drop : Nat := 31
abbrev n_system_System_arrive : Nat := 32
abbrev n_system_System_done : Nat := 33
abbrev n_system_System_up : Nat := 34
abbrev n_system_System_down : Nat := 35
abbrev n_system_System_tick : Nat := 36
abbrev n_system_System_stamp : Nat := 37
abbrev n_system_System_lead : Nat := 38
abbrev n_system_System_scale : Nat := 39
abbrev n_system_System_pods : Nat := 40
abbrev n_stamp_Book_All : Nat := 43
abbrev n_shelf_made_api_Config : Nat := 44
abbrev n_shelf_New_1 : Nat := 45
abbrev n_shelf_made_api_Route : Nat := 46
abbrev n_spec_SameRoute : Nat := 47
abbrev n_gate_New_1 : Nat := 48
abbrev n_wait_New : Nat := 49
abbrev n_event_shape : Nat := 50
abbrev n_event_none_int : Nat := 51
abbrev n_event_none_string : Nat := 52
abbrev n_event_none_api_Config : Nat := 53
abbrev n_event_bare : Nat := 54
abbrev n_event_number : Nat := 55
abbrev n_event_named : Nat := 56
abbrev n_label_Tag : Nat := 57
abbrev n_event_within : Nat := 58
abbrev n_spec_Config : Nat := 59
abbrev n_spec_Route : Nat := 60
abbrev n_strconv_Itoa : Nat := 61
abbrev n_strings_Join : Nat := 62
abbrev n_api_early : Nat := 63
abbrev n_api_late : Nat := 64
abbrev n_shelf_Shelf_PutConfig : Nat := 65
abbrev n_system_put : Nat := 66
abbrev n_shelf_Shelf_PutRoute : Nat := 67
abbrev n_system_refused : Nat := 69
abbrev n_system_told : Nat := 73
abbrev n_system_things_system_beside_at : Nat := 74
abbrev n_system_line_int : Nat := 75
abbrev n_fleet_Fleet_Up : Nat := 77
abbrev n_fleet_Fleet_Of : Nat := 78
abbrev n_stamp_Book_Proved : Nat := 79
abbrev n_stamp_Book_Prove : Nat := 80
abbrev n_gate_Gate_Flow : Nat := 81
abbrev n_gate_Gate_Tick : Nat := 84
abbrev n_gauge_Gauge_Add : Nat := 85
abbrev n_gate_Gate_Busy : Nat := 86
abbrev n_shelf_Shelf_Config : Nat := 87
abbrev n_stamp_Book_Stamp : Nat := 88
abbrev n_gauge_New : Nat := 89
abbrev n_shelf_Shelf_Route : Nat := 90
abbrev n_lead_Resolve : Nat := 91
abbrev n_table_Text : Nat := 92
abbrev n_lead_Roller_Turn : Nat := 93
abbrev n_stamp_Book_Get : Nat := 94
abbrev n_system_System_count : Nat := 95
abbrev n_fleet_Fleet_Scale : Nat := 100
abbrev n_system_System_Want : Nat := 101
abbrev n_system_System_pods_1 : Nat := 102
abbrev n_lead_own : Nat := 103
abbrev n_slices_Clone_string_string : Nat := 105
abbrev n_stamp_shelf_api_Revision_names : Nat := 106
abbrev n_slices_EqualFunc_api_Target_api_Target_api_Target_api_Target : Nat := 107
abbrev n_spec_same : Nat := 108
abbrev n_label_Split : Nat := 109
abbrev n_label_Name : Nat := 110
abbrev n_label_short : Nat := 111
abbrev n_spec_span_has : Nat := 112
abbrev n_spec_target : Nat := 113
abbrev n_spec_all : Nat := 114
abbrev n_shelf_rack_api_Config_may : Nat := 119
abbrev n_shelf_rack_api_Config_put : Nat := 120
abbrev n_shelf_rack_api_Route_may : Nat := 121
abbrev n_shelf_rack_api_Route_put : Nat := 122
abbrev n_shelf_own : Nat := 123
abbrev n_gate_why : Nat := 129
abbrev n_gate_Gate_set : Nat := 130
abbrev n_gate_book_wait_Line_at : Nat := 131
abbrev n_wait_Line_Len : Nat := 132
abbrev n_gate_Gate_send : Nat := 133
abbrev n_system_lines : Nat := 135
abbrev n_pod_Pod_Up : Nat := 137
abbrev n_wait_Line_All : Nat := 138
abbrev n_wait_Line_Pop : Nat := 139
abbrev n_slices_Clone_gate_Fate_gate_Fate : Nat := 140
abbrev n_fleet_Fleet_end : Nat := 142
abbrev n_gate_book_wait_Line_each : Nat := 143
abbrev n_wait_Line_Late : Nat := 144
abbrev n_gauge_ring_int_add : Nat := 145
abbrev n_gate_Gate_Inside : Nat := 146
abbrev n_shelf_rack_api_Config_get : Nat := 147
abbrev n_label_Rev : Nat := 148
abbrev n_shelf_rack_api_Route_get : Nat := 149
abbrev n_lead_target : Nat := 150
abbrev n_lead_inOrder_string_int : Nat := 151
abbrev n_lead_inOrder_string_string : Nat := 152
abbrev n_table_texts : Nat := 153
abbrev n_slices_Equal_api_Share_api_Share : Nat := 154
abbrev n_roll_Shares : Nat := 155
abbrev n_system_System_Pods : Nat := 156
abbrev n_fleet_Fleet_up : Nat := 162
abbrev n_pod_New : Nat := 163
abbrev n_fleet_Fleet_spare : Nat := 164
abbrev n_pod_Pod_Drain : Nat := 165
abbrev n_slices_Clone_int_int : Nat := 166
abbrev n_slices_Clone_api_Share_api_Share : Nat := 167
abbrev n_slices_Clone_api_TagTo_api_TagTo : Nat := 168
abbrev n_slices_Sorted_string : Nat := 169
abbrev n_maps_Keys_stamp_shelf_api_Revision_string_api_Revision : Nat := 170
abbrev n_strings_LastIndex : Nat := 171
abbrev n_strconv_Atoi : Nat := 172
abbrev n_label_sign : Nat := 173
abbrev n_label_letter : Nat := 174
abbrev n_slices_ContainsFunc_api_Target_api_Target : Nat := 175
abbrev n_spec_all_1 : Nat := 176
abbrev n_slices_Clone_api_Target_api_Target : Nat := 180
abbrev n_fleet_Fleet_Take : Nat := 183
abbrev n_system_lines_1 : Nat := 185
abbrev n_system_fate : Nat := 186
abbrev n_wait_row_int_each : Nat := 188
abbrev n_slices_Sorted_int : Nat := 189
abbrev n_pod_Pod_State : Nat := 192
abbrev n_gate_book_wait_Line_each_1 : Nat := 193
abbrev n_maps_Keys_map_string_wait_Line_string_wait_Line : Nat := 194
abbrev n_wait_row_int_part : Nat := 195
abbrev n_slices_Sort_int_int : Nat := 196
abbrev n_stamp_Book_Latest : Nat := 197
abbrev n_lead_inOrder_string_int_1 : Nat := 198
abbrev n_maps_Keys_map_string_int_string_int : Nat := 199
abbrev n_lead_inOrder_string_string_1 : Nat := 200
abbrev n_maps_Keys_map_string_string_string_string : Nat := 201
abbrev n_roll_sorted_api_Share_string : Nat := 202
abbrev n_roll_rev : Nat := 203
abbrev n_roll_Weight : Nat := 204
abbrev n_fleet_Fleet_Pods : Nat := 205
abbrev n_fleet_Fleet_of : Nat := 207
abbrev n_pod_Pod_Load : Nat := 208
abbrev n_pod_Pod_end : Nat := 209
abbrev n_slices_Collect_string : Nat := 210
abbrev n_slices_Sort_string_string : Nat := 211
abbrev n_maps_Keys_stamp_shelf_api_Revision_string_api_Revision_1 : Nat := 212
abbrev n_slices_IndexFunc_api_Target_api_Target : Nat := 217
abbrev n_slices_SortStableFunc_fleet_choice_fleet_choice : Nat := 224
abbrev n_fleet_Fleet_Take_1 : Nat := 225
abbrev n_pod_Pod_Take : Nat := 226
abbrev n_wait_row_int_each_1 : Nat := 227
abbrev n_slices_Collect_int : Nat := 228
abbrev n_maps_Keys_map_string_wait_Line_string_wait_Line_1 : Nat := 230
abbrev n_stamp_Book_latest : Nat := 233
abbrev n_stamp_Book_Latest_1 : Nat := 234
abbrev n_maps_Keys_map_string_int_string_int_1 : Nat := 235
abbrev n_maps_Keys_map_string_string_string_string_1 : Nat := 236
abbrev n_slices_Compact_string_string : Nat := 237
abbrev n_slices_IndexFunc_api_Share_api_Share : Nat := 238
abbrev n_roll_Weight_1 : Nat := 239
abbrev n_slices_Clone_fleet_Look_fleet_Look : Nat := 240
abbrev n_fleet_Fleet_of_1 : Nat := 241
abbrev n_maps_Keys_map_int_fleet_one_int_fleet_one : Nat := 242
abbrev n_slices_AppendSeq_string_string : Nat := 243
abbrev n_slices_stableCmpFunc_fleet_choice : Nat := 256
abbrev n_pod_bag_int_put : Nat := 257
abbrev n_slices_AppendSeq_int_int : Nat := 258
abbrev n_maps_Keys_map_int_fleet_one_int_fleet_one_1 : Nat := 269
abbrev n_slices_insertionSortCmpFunc_fleet_choice : Nat := 284
abbrev n_slices_symMergeCmpFunc_fleet_choice : Nat := 285
abbrev T_ : Nat := 0
abbrev T_int : Nat := 3
abbrev T_bool : Nat := 4
abbrev T_uint8 : Nat := 5
abbrev T_string : Nat := 9
abbrev T_interface : Nat := 20
abbrev T_api_Config : Nat := 23
abbrev T_s_api_Target : Nat := 32
abbrev T_api_Route : Nat := 34
abbrev T_api_Event : Nat := 36
abbrev T_api_Target : Nat := 38
abbrev T_s_string : Nat := 40
abbrev T_func_api_Event_s_string : Nat := 41
abbrev T_s_int : Nat := 43
abbrev T_s_api_Share : Nat := 47
abbrev T_s_api_TagTo : Nat := 48
abbrev T_api_Table : Nat := 50
abbrev T_p_fleet_Fleet : Nat := 61
abbrev T_p_gate_Gate : Nat := 69
abbrev T_system_things_p_system_beside : Nat := 72
abbrev T_system_System : Nat := 74
abbrev T_s_uint8 : Nat := 75
abbrev T_map_int_func_api_Event_s_string : Nat := 79
abbrev T_api_Share : Nat := 81
abbrev T_api_TagTo : Nat := 83
abbrev T_map_int_fleet_one : Nat := 85
abbrev T_map_int_int : Nat := 86
abbrev T_fleet_Fleet : Nat := 88
abbrev T_shelf_Shelf : Nat := 96
abbrev T_stamp_shelf_api_Revision : Nat := 98
abbrev T_stamp_shelf_bool : Nat := 100
abbrev T_stamp_Book : Nat := 102
abbrev T_map_string_lead_way : Nat := 103
abbrev T_lead_Roller : Nat := 105
abbrev T_map_int_gate_request : Nat := 106
abbrev T_map_string_p_wait_Line : Nat := 107
abbrev T_p_wait_Line : Nat := 108
abbrev T_gate_Gate : Nat := 114
abbrev T_event_has : Nat := 116
abbrev T_s_gate_Fate : Nat := 136
abbrev T_p_system_beside : Nat := 139
abbrev T_gate_Fate : Nat := 143
abbrev T_system_beside : Nat := 148
abbrev T_api_Revision : Nat := 172
abbrev T_lead_way : Nat := 183
abbrev T_map_string_shelf_thing_api_Config : Nat := 188
abbrev T_shelf_rack_api_Config : Nat := 190
abbrev T_map_string_shelf_thing_api_Route : Nat := 191
abbrev T_shelf_rack_api_Route : Nat := 193
abbrev T_s_wait_held_int : Nat := 196
abbrev T_wait_Line : Nat := 200
abbrev T_spec_span : Nat := 205
abbrev T_fleet_one : Nat := 236
abbrev T_gate_request : Nat := 245
abbrev T_gauge_Gauge : Nat := 254
abbrev T_shelf_thing_api_Config : Nat := 257
abbrev T_shelf_thing_api_Route : Nat := 261
abbrev T_map_string_int : Nat := 264
abbrev T_map_string_string : Nat := 265
abbrev T_s_table_pair : Nat := 273
abbrev T_table_pair : Nat := 277
abbrev T_s_fleet_Look : Nat := 280
abbrev T_fleet_Look : Nat := 283
abbrev T_p_gate_book_p_wait_Line : Nat := 308
abbrev T_wait_held_int : Nat := 312
abbrev T_map_int_bool : Nat := 314
abbrev T_pod_Pod : Nat := 318
abbrev T_s_fleet_choice : Nat := 352
abbrev T_fleet_choice : Nat := 354
abbrev T_p_wait_row_int : Nat := 357
def s_ : ByteArray := ⟨#[]⟩
def s_web : ByteArray := ⟨#[119, 101, 98]⟩
def s_front : ByteArray := ⟨#[102, 114, 111, 110, 116]⟩
def s_web_1 : ByteArray := ⟨#[119, 101, 98, 45, 49]⟩
def s_web_2 : ByteArray := ⟨#[119, 101, 98, 45, 50]⟩
def s__web_2__467c : ByteArray := ⟨#[32, 119, 101, 98, 45, 50, 58]⟩
def s___b5c5 : ByteArray := ⟨#[32]⟩
def s_table_front_web_1_ : ByteArray := ⟨#[116, 97, 98, 108, 101, 32, 102, 114, 111, 110, 116, 32, 119, 101, 98, 45, 49, 58]⟩
def s_table_front_web_1_100 : ByteArray := ⟨#[116, 97, 98, 108, 101, 32, 102, 114, 111, 110, 116, 32, 119, 101, 98, 45, 49, 58, 49, 48, 48]⟩
def s_table_front_web_2_100 : ByteArray := ⟨#[116, 97, 98, 108, 101, 32, 102, 114, 111, 110, 116, 32, 119, 101, 98, 45, 50, 58, 49, 48, 48]⟩
def s_bad_kind : ByteArray := ⟨#[98, 97, 100, 32, 107, 105, 110, 100]⟩
def s_tick_1 : ByteArray := ⟨#[116, 105, 99, 107, 32, 49]⟩
def s___b5d2 : ByteArray := ⟨#[45]⟩
def s_bad : ByteArray := ⟨#[98, 97, 100]⟩
def s___b5df : ByteArray := ⟨#[58]⟩
def s___b5e2 : ByteArray := ⟨#[61]⟩
def s_config : ByteArray := ⟨#[99, 111, 110, 102, 105, 103]⟩
def s_route : ByteArray := ⟨#[114, 111, 117, 116, 101]⟩
def s_dropped : ByteArray := ⟨#[100, 114, 111, 112, 112, 101, 100]⟩
def s_scale : ByteArray := ⟨#[115, 99, 97, 108, 101]⟩
def s_up : ByteArray := ⟨#[117, 112]⟩
def s_proved : ByteArray := ⟨#[112, 114, 111, 118, 101, 100]⟩
def s_down : ByteArray := ⟨#[100, 111, 119, 110]⟩
def s_tick : ByteArray := ⟨#[116, 105, 99, 107]⟩
def s_same : ByteArray := ⟨#[115, 97, 109, 101]⟩
def s_revision : ByteArray := ⟨#[114, 101, 118, 105, 115, 105, 111, 110]⟩
def s_table : ByteArray := ⟨#[116, 97, 98, 108, 101]⟩
def s_made : ByteArray := ⟨#[109, 97, 100, 101]⟩
def s_gone : ByteArray := ⟨#[103, 111, 110, 101]⟩
def s_fleet : ByteArray := ⟨#[102, 108, 101, 101, 116]⟩
def s_ok : ByteArray := ⟨#[111, 107]⟩
def s_name : ByteArray := ⟨#[110, 97, 109, 101]⟩
def s_arg : ByteArray := ⟨#[97, 114, 103]⟩
def s_long : ByteArray := ⟨#[108, 111, 110, 103]⟩
def s_sum : ByteArray := ⟨#[115, 117, 109]⟩
def s_twice : ByteArray := ⟨#[116, 119, 105, 99, 101]⟩
def s_none : ByteArray := ⟨#[110, 111, 110, 101]⟩
def s_error : ByteArray := ⟨#[101, 114, 114, 111, 114]⟩
def s_stale : ByteArray := ⟨#[115, 116, 97, 108, 101]⟩
def s_full : ByteArray := ⟨#[102, 117, 108, 108]⟩
def s_state : ByteArray := ⟨#[115, 116, 97, 116, 101]⟩
def s_cut : ByteArray := ⟨#[99, 117, 116]⟩
def s_more : ByteArray := ⟨#[109, 111, 114, 101]⟩
def s_kind : ByteArray := ⟨#[107, 105, 110, 100]⟩
def s_refused : ByteArray := ⟨#[114, 101, 102, 117, 115, 101, 100]⟩
def s_no_route : ByteArray := ⟨#[110, 111, 45, 114, 111, 117, 116, 101]⟩
def s_overflow : ByteArray := ⟨#[111, 118, 101, 114, 102, 108, 111, 119]⟩
def s_pod_lost : ByteArray := ⟨#[112, 111, 100, 45, 108, 111, 115, 116]⟩
def s_timeout : ByteArray := ⟨#[116, 105, 109, 101, 111, 117, 116]⟩
def s_sent : ByteArray := ⟨#[115, 101, 110, 116]⟩
def s_waits : ByteArray := ⟨#[119, 97, 105, 116, 115]⟩
def s_done : ByteArray := ⟨#[100, 111, 110, 101]⟩
def Dt : Tb := ⟨438, 334, (.node ⟨.tuple [], 1, none, none⟩ (.node ⟨.func, 1, some (.one (.func)), some [.nilFunc]⟩ (.node ⟨.int .i64, 1, some (.one (.int .i64)), some [.int .i64 0]⟩ (.node ⟨.struct [(2, 0), (3, 1), (4, 2), (6, 3)], 4, some (.agg [.int .i64, .int .i64, .bool, .int .u8]), some [.int .i64 0, .int .i64 0, .bool false, .int .u8 0]⟩ (.node ⟨.ptr, 1, some (.one (.ptr)), some [.pointer none]⟩ (.node ⟨.func, 1, some (.one (.func)), some [.nilFunc]⟩ (.node ⟨.ptr, 1, some (.one (.ptr)), some [.pointer none]⟩ (.node ⟨.func, 1, some (.one (.func)), some [.nilFunc]⟩ (.node ⟨.func, 1, some (.one (.func)), some [.nilFunc]⟩ .nil .nil) (.node ⟨.arr 20 344, 20, some (.agg lf13), some [.int .u64 0, .int .u64 0, .int .u64 0, .int .u64 0, .int .u64 0, .int .u64 0, .int .u64 0, .int .u64 0, .int .u64 0, .int .u64 0, .int .u64 0, .int .u64 0, .int .u64 0, .int .u64 0, .int .u64 0, .int .u64 0, .int .u64 0, .int .u64 0, .int .u64 0, .int .u64 0]⟩ .nil .nil)) (.node ⟨.map 9 261, 1, some (.one (.map)), some [.map none]⟩ (.node ⟨.func, 1, some (.one (.func)), some [.nilFunc]⟩ .nil .nil) .nil)) (.node ⟨.struct [(89, 0), (92, 1), (3, 2)], 3, some (.agg [.ptr, .ptr, .int .i64]), some [.pointer none, .pointer none, .int .i64 0]⟩ (.node ⟨.func, 1, some (.one (.func)), some [.nilFunc]⟩ (.node ⟨.func, 1, some (.one (.func)), some [.nilFunc]⟩ .nil .nil) (.node ⟨.func, 1, some (.one (.func)), some [.nilFunc]⟩ .nil .nil)) (.node ⟨.func, 1, some (.one (.func)), some [.nilFunc]⟩ (.node ⟨.func, 1, some (.one (.func)), some [.nilFunc]⟩ .nil .nil) .nil))) (.node ⟨.slice 81, 1, some (.one (.slice)), some [.slice none 0 0]⟩ (.node ⟨.map 3 41, 1, some (.one (.map)), some [.map none]⟩ (.node ⟨.struct [(3, 0), (3, 1), (3, 2), (9, 3)], 4, some (.agg [.int .i64, .int .i64, .int .i64, .str]), some [.int .i64 0, .int .i64 0, .int .i64 0, .string s_]⟩ (.node ⟨.func, 1, some (.one (.func)), some [.nilFunc]⟩ .nil .nil) (.node ⟨.func, 1, some (.one (.func)), some [.nilFunc]⟩ .nil .nil)) (.node ⟨.func, 1, some (.one (.func)), some [.nilFunc]⟩ (.node ⟨.func, 1, some (.one (.func)), some [.nilFunc]⟩ .nil .nil) .nil)) (.node ⟨.struct [(107, 0), (110, 1)], 2, some (.agg [.map, .func]), some [.map none, .nilFunc]⟩ (.node ⟨.func, 1, some (.one (.func)), some [.nilFunc]⟩ (.node ⟨.func, 1, some (.one (.func)), some [.nilFunc]⟩ .nil .nil) (.node ⟨.int .u8, 1, some (.one (.int .u8)), some [.int .u8 0]⟩ .nil .nil)) (.node ⟨.func, 1, some (.one (.func)), some [.nilFunc]⟩ (.node ⟨.func, 1, some (.one (.func)), some [.nilFunc]⟩ .nil .nil) .nil)))) (.node ⟨.struct [(9, 0), (3, 1), (3, 2), (3, 3), (3, 4), (3, 5)], 6, some (.agg lf0), some [.string s_, .int .i64 0, .int .i64 0, .int .i64 0, .int .i64 0, .int .i64 0]⟩ (.node ⟨.slice 36, 1, some (.one (.slice)), some [.slice none 0 0]⟩ (.node ⟨.map 9 139, 1, some (.one (.map)), some [.map none]⟩ (.node ⟨.func, 1, some (.one (.func)), some [.nilFunc]⟩ (.node ⟨.func, 1, some (.one (.func)), some [.nilFunc]⟩ .nil .nil) (.node ⟨.func, 1, some (.one (.func)), some [.nilFunc]⟩ .nil .nil)) (.node ⟨.struct [(198, 0), (3, 1)], 2, some (.agg [.slice, .int .i64]), some [.slice none 0 0, .int .i64 0]⟩ (.node ⟨.func, 1, some (.one (.func)), some [.nilFunc]⟩ .nil .nil) .nil)) (.node ⟨.map 9 183, 1, some (.one (.map)), some [.map none]⟩ (.node ⟨.func, 1, some (.one (.func)), some [.nilFunc]⟩ (.node ⟨.func, 1, some (.one (.func)), some [.nilFunc]⟩ .nil .nil) (.node ⟨.func, 1, some (.one (.func)), some [.nilFunc]⟩ .nil .nil)) (.node ⟨.func, 1, some (.one (.func)), some [.nilFunc]⟩ (.node ⟨.ptr, 1, some (.one (.ptr)), some [.pointer none]⟩ .nil .nil) .nil))) (.node ⟨.func, 1, some (.one (.func)), some [.nilFunc]⟩ (.node ⟨.struct [(85, 0), (86, 1), (3, 2), (3, 3)], 4, some (.agg [.map, .map, .int .i64, .int .i64]), some [.map none, .map none, .int .i64 0, .int .i64 0]⟩ (.node ⟨.func, 1, some (.one (.func)), some [.nilFunc]⟩ (.node ⟨.func, 1, some (.one (.func)), some [.nilFunc]⟩ .nil .nil) (.node ⟨.func, 1, some (.one (.func)), some [.nilFunc]⟩ .nil .nil)) (.node ⟨.func, 1, some (.one (.func)), some [.nilFunc]⟩ (.node ⟨.arr 24 5, 24, some (.agg lf12), some [.int .u8 0, .int .u8 0, .int .u8 0, .int .u8 0, .int .u8 0, .int .u8 0, .int .u8 0, .int .u8 0, .int .u8 0, .int .u8 0, .int .u8 0, .int .u8 0, .int .u8 0, .int .u8 0, .int .u8 0, .int .u8 0, .int .u8 0, .int .u8 0, .int .u8 0, .int .u8 0, .int .u8 0, .int .u8 0, .int .u8 0, .int .u8 0]⟩ .nil .nil) .nil)) (.node ⟨.func, 1, some (.one (.func)), some [.nilFunc]⟩ (.node ⟨.struct [(47, 0), (47, 1), (3, 2), (3, 3), (50, 4)], 6, some (.agg lf6), some [.slice none 0 0, .slice none 0 0, .int .i64 0, .int .i64 0, .slice none 0 0, .slice none 0 0]⟩ (.node ⟨.struct [(3, 0), (3, 1)], 2, some (.agg [.int .i64, .int .i64]), some [.int .i64 0, .int .i64 0]⟩ .nil .nil) .nil) (.node ⟨.func, 1, some (.one (.func)), some [.nilFunc]⟩ (.node ⟨.int .i64, 1, some (.one (.int .i64)), some [.int .i64 0]⟩ .nil .nil) .nil))))) (.node ⟨.str, 1, some (.one (.str)), some [.string s_]⟩ (.node ⟨.struct [(17, 0)], 1, some (.agg [.ptr]), some [.pointer none]⟩ (.node ⟨.struct [(3, 0), (9, 1), (9, 2), (3, 3), (3, 4), (23, 5), (34, 11)], 15, some (.agg lf1), some [.int .i64 0, .string s_, .string s_, .int .i64 0, .int .i64 0, .string s_, .int .i64 0, .int .i64 0, .int .i64 0, .int .i64 0, .int .i64 0, .string s_, .string s_, .slice none 0 0, .int .i64 0]⟩ (.node ⟨.ptr, 1, some (.one (.ptr)), some [.pointer none]⟩ (.node ⟨.func, 1, some (.one (.func)), some [.nilFunc]⟩ (.node ⟨.func, 1, some (.one (.func)), some [.nilFunc]⟩ .nil .nil) (.node ⟨.func, 1, some (.one (.func)), some [.nilFunc]⟩ .nil .nil)) (.node ⟨.func, 1, some (.one (.func)), some [.nilFunc]⟩ (.node ⟨.func, 1, some (.one (.func)), some [.nilFunc]⟩ .nil .nil) .nil)) (.node ⟨.map 9 4, 1, some (.one (.map)), some [.map none]⟩ (.node ⟨.tuple [9, 4], 1, none, none⟩ (.node ⟨.func, 1, some (.one (.func)), some [.nilFunc]⟩ .nil .nil) (.node ⟨.struct [(9, 0)], 1, some (.agg [.str]), some [.string s_]⟩ .nil .nil)) (.node ⟨.func, 1, some (.one (.func)), some [.nilFunc]⟩ (.node ⟨.func, 1, some (.one (.func)), some [.nilFunc]⟩ .nil .nil) .nil))) (.node ⟨.tuple [50, 4], 1, none, none⟩ (.node ⟨.struct [(9, 0), (9, 1)], 2, some (.agg [.str, .str]), some [.string s_, .string s_]⟩ (.node ⟨.struct [(146, 0), (145, 1)], 3, some (.agg [.ptr, .int .i64, .int .i64]), some [.pointer none, .int .i64 0, .int .i64 0]⟩ (.node ⟨.func, 1, some (.one (.func)), some [.nilFunc]⟩ .nil .nil) (.node ⟨.struct [(9, 0), (9, 1), (212, 2)], 3, some (.agg [.str, .str, .iface]), some [.string s_, .string s_, .nilIface]⟩ .nil .nil)) (.node ⟨.iface, 1, some (.one (.iface)), some [.nilIface]⟩ (.node ⟨.func, 1, some (.one (.func)), some [.nilFunc]⟩ .nil .nil) .nil)) (.node ⟨.struct [(4, 0), (4, 1), (4, 2), (4, 3), (4, 4), (4, 5)], 6, some (.agg lf4), some [.bool false, .bool false, .bool false, .bool false, .bool false, .bool false]⟩ (.node ⟨.func, 1, some (.one (.func)), some [.nilFunc]⟩ (.node ⟨.tuple [245, 4], 1, none, none⟩ .nil .nil) (.node ⟨.struct [(12, 0), (12, 1), (372, 2), (430, 3), (5, 4), (5, 5), (431, 6), (432, 7), (305, 8), (433, 9), (434, 10)], 11, some (.agg lf17), some [.int .u64 0, .int .u64 0, .int .u32 0, .int .u8 0, .int .u8 0, .int .u8 0, .int .u8 0, .nilFunc, .pointer none, .int .i32 0, .int .i32 0]⟩ .nil .nil)) (.node ⟨.func, 1, some (.one (.func)), some [.nilFunc]⟩ (.node ⟨.func, 1, some (.one (.func)), some [.nilFunc]⟩ .nil .nil) .nil)))) (.node ⟨.int .i64, 1, some (.one (.int .i64)), some [.int .i64 0]⟩ (.node ⟨.slice 3, 1, some (.one (.slice)), some [.slice none 0 0]⟩ (.node ⟨.slice 5, 1, some (.one (.slice)), some [.slice none 0 0]⟩ (.node ⟨.ptr, 1, some (.one (.ptr)), some [.pointer none]⟩ (.node ⟨.func, 1, some (.one (.func)), some [.nilFunc]⟩ .nil .nil) (.node ⟨.func, 1, some (.one (.func)), some [.nilFunc]⟩ .nil .nil)) (.node ⟨.func, 1, some (.one (.func)), some [.nilFunc]⟩ (.node ⟨.func, 1, some (.one (.func)), some [.nilFunc]⟩ .nil .nil) .nil)) (.node ⟨.map 9 108, 1, some (.one (.map)), some [.map none]⟩ (.node ⟨.struct [(9, 0), (3, 1), (23, 2)], 8, some (.agg lf5), some [.string s_, .int .i64 0, .string s_, .int .i64 0, .int .i64 0, .int .i64 0, .int .i64 0, .int .i64 0]⟩ (.node ⟨.func, 1, some (.one (.func)), some [.nilFunc]⟩ .nil .nil) (.node ⟨.arr 0 16, 0, some (.agg []), some []⟩ .nil .nil)) (.node ⟨.struct [(9, 0), (234, 1)], 2, some (.agg [.str, .ptr]), some [.string s_, .pointer none]⟩ (.node ⟨.func, 1, some (.one (.func)), some [.nilFunc]⟩ .nil .nil) .nil))) (.node ⟨.func, 1, some (.one (.func)), some [.nilFunc]⟩ (.node ⟨.func, 1, some (.one (.func)), some [.nilFunc]⟩ (.node ⟨.tuple [43, 27], 1, none, none⟩ (.node ⟨.struct [(3, 0), (3, 1), (3, 2)], 3, some (.agg [.int .i64, .int .i64, .int .i64]), some [.int .i64 0, .int .i64 0, .int .i64 0]⟩ .nil .nil) (.node ⟨.func, 1, some (.one (.func)), some [.nilFunc]⟩ .nil .nil)) (.node ⟨.func, 1, some (.one (.func)), some [.nilFunc]⟩ (.node ⟨.tuple [75, 9], 1, none, none⟩ .nil .nil) .nil)) (.node ⟨.func, 1, some (.one (.func)), some [.nilFunc]⟩ (.node ⟨.func, 1, some (.one (.func)), some [.nilFunc]⟩ (.node ⟨.struct [(314, 0), (3, 1)], 2, some (.agg [.map, .int .i64]), some [.map none, .int .i64 0]⟩ .nil .nil) .nil) (.node ⟨.struct [(250, 0), (3, 60)], 61, some (.agg lf8), some [.int .i64 0, .int .i64 0, .int .i64 0, .int .i64 0, .int .i64 0, .int .i64 0, .int .i64 0, .int .i64 0, .int .i64 0, .int .i64 0, .int .i64 0, .int .i64 0, .int .i64 0, .int .i64 0, .int .i64 0, .int .i64 0, .int .i64 0, .int .i64 0, .int .i64 0, .int .i64 0, .int .i64 0, .int .i64 0, .int .i64 0, .int .i64 0, .int .i64 0, .int .i64 0, .int .i64 0, .int .i64 0, .int .i64 0, .int .i64 0, .int .i64 0, .int .i64 0, .int .i64 0, .int .i64 0, .int .i64 0, .int .i64 0, .int .i64 0, .int .i64 0, .int .i64 0, .int .i64 0, .int .i64 0, .int .i64 0, .int .i64 0, .int .i64 0, .int .i64 0, .int .i64 0, .int .i64 0, .int .i64 0, .int .i64 0, .int .i64 0, .int .i64 0, .int .i64 0, .int .i64 0, .int .i64 0, .int .i64 0, .int .i64 0, .int .i64 0, .int .i64 0, .int .i64 0, .int .i64 0, .int .i64 0]⟩ (.node ⟨.func, 1, some (.one (.func)), some [.nilFunc]⟩ .nil .nil) .nil)))))) (.node ⟨.int .u8, 1, some (.one (.int .u8)), some [.int .u8 0]⟩ (.node ⟨.str, 1, some (.one (.str)), some [.string s_]⟩ (.node ⟨.ptr, 1, some (.one (.ptr)), some [.pointer none]⟩ (.node ⟨.struct [(9, 0), (9, 1), (32, 2), (3, 3)], 4, some (.agg [.str, .str, .slice, .int .i64]), some [.string s_, .string s_, .slice none 0 0, .int .i64 0]⟩ (.node ⟨.ptr, 1, some (.one (.ptr)), some [.pointer none]⟩ (.node ⟨.func, 1, some (.one (.func)), some [.nilFunc]⟩ (.node ⟨.struct [(23, 0), (3, 6), (3, 7), (4, 8)], 9, some (.agg lf10), some [.string s_, .int .i64 0, .int .i64 0, .int .i64 0, .int .i64 0, .int .i64 0, .int .i64 0, .int .i64 0, .bool false]⟩ .nil .nil) (.node ⟨.func, 1, some (.one (.func)), some [.nilFunc]⟩ .nil .nil)) (.node ⟨.struct [(191, 0), (94, 1)], 2, some (.agg [.map, .func]), some [.map none, .nilFunc]⟩ (.node ⟨.func, 1, some (.one (.func)), some [.nilFunc]⟩ .nil .nil) .nil)) (.node ⟨.map 9 172, 1, some (.one (.map)), some [.map none]⟩ (.node ⟨.tuple [23, 3, 3, 4], 1, none, none⟩ (.node ⟨.func, 1, some (.one (.func)), some [.nilFunc]⟩ .nil .nil) (.node ⟨.ptr, 1, some (.one (.ptr)), some [.pointer none]⟩ .nil .nil)) (.node ⟨.func, 1, some (.one (.func)), some [.nilFunc]⟩ (.node ⟨.struct [(3, 0), (3, 1)], 2, some (.agg [.int .i64, .int .i64]), some [.int .i64 0, .int .i64 0]⟩ .nil .nil) .nil))) (.node ⟨.struct [(47, 0), (48, 1)], 2, some (.agg [.slice, .slice]), some [.slice none 0 0, .slice none 0 0]⟩ (.node ⟨.struct [(9, 0), (3, 1)], 2, some (.agg [.str, .int .i64]), some [.string s_, .int .i64 0]⟩ (.node ⟨.struct [(3, 0), (3, 1)], 2, some (.agg [.int .i64, .int .i64]), some [.int .i64 0, .int .i64 0]⟩ (.node ⟨.slice 277, 1, some (.one (.slice)), some [.slice none 0 0]⟩ .nil .nil) (.node ⟨.func, 1, some (.one (.func)), some [.nilFunc]⟩ .nil .nil)) (.node ⟨.struct [(208, 0), (75, 1)], 2, some (.agg [.ptr, .slice]), some [.pointer none, .slice none 0 0]⟩ (.node ⟨.func, 1, some (.one (.func)), some [.nilFunc]⟩ .nil .nil) .nil)) (.node ⟨.struct [(61, 0), (106, 1), (112, 2), (3, 4), (3, 5)], 6, some (.agg lf3), some [.pointer none, .map none, .map none, .nilFunc, .int .i64 0, .int .i64 0]⟩ (.node ⟨.tuple [3, 3], 1, none, none⟩ (.node ⟨.ptr, 1, some (.one (.ptr)), some [.pointer none]⟩ .nil .nil) (.node ⟨.int .i32, 1, some (.one (.int .i32)), some [.int .i32 0]⟩ .nil .nil)) (.node ⟨.func, 1, some (.one (.func)), some [.nilFunc]⟩ (.node ⟨.func, 1, some (.one (.func)), some [.nilFunc]⟩ .nil .nil) .nil)))) (.node ⟨.func, 1, some (.one (.func)), some [.nilFunc]⟩ (.node ⟨.func, 1, some (.one (.func)), some [.nilFunc]⟩ (.node ⟨.struct [(63, 0), (65, 1), (67, 2), (61, 3), (69, 4), (72, 5), (3, 6)], 7, some (.agg lf2), some [.pointer none, .pointer none, .pointer none, .pointer none, .pointer none, .map none, .int .i64 0]⟩ (.node ⟨.func, 1, some (.one (.func)), some [.nilFunc]⟩ (.node ⟨.map 9 9, 1, some (.one (.map)), some [.map none]⟩ .nil .nil) (.node ⟨.func, 1, some (.one (.func)), some [.nilFunc]⟩ .nil .nil)) (.node ⟨.tuple [9, 3, 4], 1, none, none⟩ (.node ⟨.func, 1, some (.one (.func)), some [.nilFunc]⟩ .nil .nil) .nil)) (.node ⟨.struct [(103, 0)], 1, some (.agg [.map]), some [.map none]⟩ (.node ⟨.func, 1, some (.one (.func)), some [.nilFunc]⟩ (.node ⟨.func, 1, some (.one (.func)), some [.nilFunc]⟩ .nil .nil) (.node ⟨.struct [(17, 0), (17, 1), (17, 2), (9, 3)], 4, some (.agg [.ptr, .ptr, .ptr, .str]), some [.pointer none, .pointer none, .pointer none, .string s_]⟩ .nil .nil)) (.node ⟨.func, 1, some (.one (.func)), some [.nilFunc]⟩ (.node ⟨.func, 1, some (.one (.func)), some [.nilFunc]⟩ .nil .nil) .nil))) (.node ⟨.func, 1, some (.one (.func)), some [.nilFunc]⟩ (.node ⟨.ptr, 1, some (.one (.ptr)), some [.pointer none]⟩ (.node ⟨.func, 1, some (.one (.func)), some [.nilFunc]⟩ (.node ⟨.func, 1, some (.one (.func)), some [.nilFunc]⟩ .nil .nil) (.node ⟨.func, 1, some (.one (.func)), some [.nilFunc]⟩ .nil .nil)) (.node ⟨.func, 1, some (.one (.func)), some [.nilFunc]⟩ (.node ⟨.func, 1, some (.one (.func)), some [.nilFunc]⟩ .nil .nil) .nil)) (.node ⟨.func, 1, some (.one (.func)), some [.nilFunc]⟩ (.node ⟨.func, 1, some (.one (.func)), some [.nilFunc]⟩ (.node ⟨.func, 1, some (.one (.func)), some [.nilFunc]⟩ .nil .nil) .nil) (.node ⟨.func, 1, some (.one (.func)), some [.nilFunc]⟩ (.node ⟨.func, 1, some (.one (.func)), some [.nilFunc]⟩ .nil .nil) .nil))))) (.node ⟨.struct [(9, 0), (12, 1)], 2, some (.agg [.str, .int .u64]), some [.string s_, .int .u64 0]⟩ (.node ⟨.int .i32, 1, some (.one (.int .i32)), some [.int .i32 0]⟩ (.node ⟨.struct [(9, 0), (9, 1), (3, 2)], 3, some (.agg [.str, .str, .int .i64]), some [.string s_, .string s_, .int .i64 0]⟩ (.node ⟨.ptr, 1, some (.one (.ptr)), some [.pointer none]⟩ (.node ⟨.func, 1, some (.one (.func)), some [.nilFunc]⟩ (.node ⟨.struct [(34, 0), (3, 4), (3, 5), (4, 6)], 7, some (.agg lf11), some [.string s_, .string s_, .slice none 0 0, .int .i64 0, .int .i64 0, .int .i64 0, .bool false]⟩ .nil .nil) (.node ⟨.tuple [3, 388], 1, none, none⟩ .nil .nil)) (.node ⟨.struct [(196, 0)], 1, some (.agg [.slice]), some [.slice none 0 0]⟩ (.node ⟨.func, 1, some (.one (.func)), some [.nilFunc]⟩ .nil .nil) .nil)) (.node ⟨.struct [(98, 0), (100, 1)], 2, some (.agg [.map, .map]), some [.map none, .map none]⟩ (.node ⟨.func, 1, some (.one (.func)), some [.nilFunc]⟩ (.node ⟨.func, 1, some (.one (.func)), some [.nilFunc]⟩ .nil .nil) (.node ⟨.arr 64 5, 64, some (.agg lf16), some [.int .u8 0, .int .u8 0, .int .u8 0, .int .u8 0, .int .u8 0, .int .u8 0, .int .u8 0, .int .u8 0, .int .u8 0, .int .u8 0, .int .u8 0, .int .u8 0, .int .u8 0, .int .u8 0, .int .u8 0, .int .u8 0, .int .u8 0, .int .u8 0, .int .u8 0, .int .u8 0, .int .u8 0, .int .u8 0, .int .u8 0, .int .u8 0, .int .u8 0, .int .u8 0, .int .u8 0, .int .u8 0, .int .u8 0, .int .u8 0, .int .u8 0, .int .u8 0, .int .u8 0, .int .u8 0, .int .u8 0, .int .u8 0, .int .u8 0, .int .u8 0, .int .u8 0, .int .u8 0, .int .u8 0, .int .u8 0, .int .u8 0, .int .u8 0, .int .u8 0, .int .u8 0, .int .u8 0, .int .u8 0, .int .u8 0, .int .u8 0, .int .u8 0, .int .u8 0, .int .u8 0, .int .u8 0, .int .u8 0, .int .u8 0, .int .u8 0, .int .u8 0, .int .u8 0, .int .u8 0, .int .u8 0, .int .u8 0, .int .u8 0, .int .u8 0]⟩ .nil .nil)) (.node ⟨.func, 1, some (.one (.func)), some [.nilFunc]⟩ (.node ⟨.ptr, 1, some (.one (.ptr)), some [.pointer none]⟩ .nil .nil) .nil))) (.node ⟨.func, 1, some (.one (.func)), some [.nilFunc]⟩ (.node ⟨.map 3 236, 1, some (.one (.map)), some [.map none]⟩ (.node ⟨.func, 1, some (.one (.func)), some [.nilFunc]⟩ (.node ⟨.arr 2 9, 2, some (.agg [.str, .str]), some [.string s_, .string s_]⟩ .nil .nil) (.node ⟨.func, 1, some (.one (.func)), some [.nilFunc]⟩ .nil .nil)) (.node ⟨.tuple [3, 212], 1, none, none⟩ (.node ⟨.func, 1, some (.one (.func)), some [.nilFunc]⟩ .nil .nil) .nil)) (.node ⟨.tuple [116, 4], 1, none, none⟩ (.node ⟨.func, 1, some (.one (.func)), some [.nilFunc]⟩ (.node ⟨.tuple [108, 4], 1, none, none⟩ .nil .nil) (.node ⟨.func, 1, some (.one (.func)), some [.nilFunc]⟩ .nil .nil)) (.node ⟨.struct [(9, 0), (3, 1)], 2, some (.agg [.str, .int .i64]), some [.string s_, .int .i64 0]⟩ (.node ⟨.tuple [372, 372], 1, none, none⟩ .nil .nil) .nil)))) (.node ⟨.func, 1, some (.one (.func)), some [.nilFunc]⟩ (.node ⟨.tuple [26, 4], 1, none, none⟩ (.node ⟨.func, 1, some (.one (.func)), some [.nilFunc]⟩ (.node ⟨.func, 1, some (.one (.func)), some [.nilFunc]⟩ (.node ⟨.func, 1, some (.one (.func)), some [.nilFunc]⟩ .nil .nil) (.node ⟨.func, 1, some (.one (.func)), some [.nilFunc]⟩ .nil .nil)) (.node ⟨.struct [(3, 0), (3, 1)], 2, some (.agg [.int .i64, .int .i64]), some [.int .i64 0, .int .i64 0]⟩ (.node ⟨.func, 1, some (.one (.func)), some [.nilFunc]⟩ .nil .nil) .nil)) (.node ⟨.func, 1, some (.one (.func)), some [.nilFunc]⟩ (.node ⟨.tuple [172, 4], 1, none, none⟩ (.node ⟨.func, 1, some (.one (.func)), some [.nilFunc]⟩ .nil .nil) (.node ⟨.struct [(427, 0)], 0, some (.agg []), some []⟩ .nil .nil)) (.node ⟨.tuple [236, 4], 1, none, none⟩ (.node ⟨.func, 1, some (.one (.func)), some [.nilFunc]⟩ .nil .nil) .nil))) (.node ⟨.ptr, 1, some (.one (.ptr)), some [.pointer none]⟩ (.node ⟨.func, 1, some (.one (.func)), some [.nilFunc]⟩ (.node ⟨.func, 1, some (.one (.func)), some [.nilFunc]⟩ (.node ⟨.func, 1, some (.one (.func)), some [.nilFunc]⟩ .nil .nil) (.node ⟨.func, 1, some (.one (.func)), some [.nilFunc]⟩ .nil .nil)) (.node ⟨.func, 1, some (.one (.func)), some [.nilFunc]⟩ (.node ⟨.other, 1, none, none⟩ .nil .nil) .nil)) (.node ⟨.func, 1, some (.one (.func)), some [.nilFunc]⟩ (.node ⟨.struct [(188, 0), (91, 1)], 2, some (.agg [.map, .func]), some [.map none, .nilFunc]⟩ (.node ⟨.struct [(3, 0), (316, 1)], 3, some (.agg [.int .i64, .map, .int .i64]), some [.int .i64 0, .map none, .int .i64 0]⟩ .nil .nil) .nil) (.node ⟨.struct [(252, 0), (3, 61)], 62, some (.agg lf9), some [.int .i64 0, .int .i64 0, .int .i64 0, .int .i64 0, .int .i64 0, .int .i64 0, .int .i64 0, .int .i64 0, .int .i64 0, .int .i64 0, .int .i64 0, .int .i64 0, .int .i64 0, .int .i64 0, .int .i64 0, .int .i64 0, .int .i64 0, .int .i64 0, .int .i64 0, .int .i64 0, .int .i64 0, .int .i64 0, .int .i64 0, .int .i64 0, .int .i64 0, .int .i64 0, .int .i64 0, .int .i64 0, .int .i64 0, .int .i64 0, .int .i64 0, .int .i64 0, .int .i64 0, .int .i64 0, .int .i64 0, .int .i64 0, .int .i64 0, .int .i64 0, .int .i64 0, .int .i64 0, .int .i64 0, .int .i64 0, .int .i64 0, .int .i64 0, .int .i64 0, .int .i64 0, .int .i64 0, .int .i64 0, .int .i64 0, .int .i64 0, .int .i64 0, .int .i64 0, .int .i64 0, .int .i64 0, .int .i64 0, .int .i64 0, .int .i64 0, .int .i64 0, .int .i64 0, .int .i64 0, .int .i64 0, .int .i64 0]⟩ (.node ⟨.func, 1, some (.one (.func)), some [.nilFunc]⟩ .nil .nil) .nil))))))) (.node ⟨.int .i64, 1, some (.one (.int .i64)), some [.int .i64 0]⟩ (.node ⟨.bool, 1, some (.one (.bool)), some [.bool false]⟩ (.node ⟨.struct [(2, 0), (3, 1), (4, 2), (6, 3)], 4, some (.agg [.int .i64, .int .i64, .bool, .int .u8]), some [.int .i64 0, .int .i64 0, .bool false, .int .u8 0]⟩ (.node ⟨.ptr, 1, some (.one (.ptr)), some [.pointer none]⟩ (.node ⟨.slice 38, 1, some (.one (.slice)), some [.slice none 0 0]⟩ (.node ⟨.func, 1, some (.one (.func)), some [.nilFunc]⟩ (.node ⟨.tuple [3, 27], 1, none, none⟩ (.node ⟨.struct [(23, 0), (3, 6), (3, 7), (4, 8)], 9, some (.agg lf10), some [.string s_, .int .i64 0, .int .i64 0, .int .i64 0, .int .i64 0, .int .i64 0, .int .i64 0, .int .i64 0, .bool false]⟩ .nil .nil) (.node ⟨.arr 65 5, 65, some (.agg lf14), some [.int .u8 0, .int .u8 0, .int .u8 0, .int .u8 0, .int .u8 0, .int .u8 0, .int .u8 0, .int .u8 0, .int .u8 0, .int .u8 0, .int .u8 0, .int .u8 0, .int .u8 0, .int .u8 0, .int .u8 0, .int .u8 0, .int .u8 0, .int .u8 0, .int .u8 0, .int .u8 0, .int .u8 0, .int .u8 0, .int .u8 0, .int .u8 0, .int .u8 0, .int .u8 0, .int .u8 0, .int .u8 0, .int .u8 0, .int .u8 0, .int .u8 0, .int .u8 0, .int .u8 0, .int .u8 0, .int .u8 0, .int .u8 0, .int .u8 0, .int .u8 0, .int .u8 0, .int .u8 0, .int .u8 0, .int .u8 0, .int .u8 0, .int .u8 0, .int .u8 0, .int .u8 0, .int .u8 0, .int .u8 0, .int .u8 0, .int .u8 0, .int .u8 0, .int .u8 0, .int .u8 0, .int .u8 0, .int .u8 0, .int .u8 0, .int .u8 0, .int .u8 0, .int .u8 0, .int .u8 0, .int .u8 0, .int .u8 0, .int .u8 0, .int .u8 0, .int .u8 0]⟩ .nil .nil)) (.node ⟨.struct [(191, 0), (94, 1)], 2, some (.agg [.map, .func]), some [.map none, .nilFunc]⟩ (.node ⟨.func, 1, some (.one (.func)), some [.nilFunc]⟩ .nil .nil) .nil)) (.node ⟨.struct [(89, 0), (92, 1), (3, 2)], 3, some (.agg [.ptr, .ptr, .int .i64]), some [.pointer none, .pointer none, .int .i64 0]⟩ (.node ⟨.func, 1, some (.one (.func)), some [.nilFunc]⟩ (.node ⟨.arr 2 3, 2, some (.agg [.int .i64, .int .i64]), some [.int .i64 0, .int .i64 0]⟩ .nil .nil) (.node ⟨.func, 1, some (.one (.func)), some [.nilFunc]⟩ .nil .nil)) (.node ⟨.func, 1, some (.one (.func)), some [.nilFunc]⟩ (.node ⟨.slice 354, 1, some (.one (.slice)), some [.slice none 0 0]⟩ .nil .nil) .nil))) (.node ⟨.slice 83, 1, some (.one (.slice)), some [.slice none 0 0]⟩ (.node ⟨.struct [(9, 0), (3, 1)], 2, some (.agg [.str, .int .i64]), some [.string s_, .int .i64 0]⟩ (.node ⟨.struct [(3, 0), (3, 1)], 2, some (.agg [.int .i64, .int .i64]), some [.int .i64 0, .int .i64 0]⟩ (.node ⟨.func, 1, some (.one (.func)), some [.nilFunc]⟩ .nil .nil) (.node ⟨.tuple [344, 212], 1, none, none⟩ .nil .nil)) (.node ⟨.ptr, 1, some (.one (.ptr)), some [.pointer none]⟩ (.node ⟨.func, 1, some (.one (.func)), some [.nilFunc]⟩ .nil .nil) .nil)) (.node ⟨.struct [(107, 0), (110, 1)], 2, some (.agg [.map, .func]), some [.map none, .nilFunc]⟩ (.node ⟨.func, 1, some (.one (.func)), some [.nilFunc]⟩ (.node ⟨.func, 1, some (.one (.func)), some [.nilFunc]⟩ .nil .nil) (.node ⟨.func, 1, some (.one (.func)), some [.nilFunc]⟩ .nil .nil)) (.node ⟨.tuple [3, 4], 1, none, none⟩ (.node ⟨.func, 1, some (.one (.func)), some [.nilFunc]⟩ .nil .nil) .nil)))) (.node ⟨.func, 1, some (.one (.func)), some [.nilFunc]⟩ (.node ⟨.slice 9, 1, some (.one (.slice)), some [.slice none 0 0]⟩ (.node ⟨.map 9 139, 1, some (.one (.map)), some [.map none]⟩ (.node ⟨.slice 143, 1, some (.one (.slice)), some [.slice none 0 0]⟩ (.node ⟨.map 9 3, 1, some (.one (.map)), some [.map none]⟩ .nil .nil) (.node ⟨.func, 1, some (.one (.func)), some [.nilFunc]⟩ .nil .nil)) (.node ⟨.struct [(198, 0), (3, 1)], 2, some (.agg [.slice, .int .i64]), some [.slice none 0 0, .int .i64 0]⟩ (.node ⟨.tuple [9, 9], 1, none, none⟩ .nil .nil) .nil)) (.node ⟨.struct [(103, 0)], 1, some (.agg [.map]), some [.map none]⟩ (.node ⟨.tuple [50, 27], 1, none, none⟩ (.node ⟨.func, 1, some (.one (.func)), some [.nilFunc]⟩ .nil .nil) (.node ⟨.func, 1, some (.one (.func)), some [.nilFunc]⟩ .nil .nil)) (.node ⟨.tuple [9, 27], 1, none, none⟩ (.node ⟨.func, 1, some (.one (.func)), some [.nilFunc]⟩ .nil .nil) .nil))) (.node ⟨.func, 1, some (.one (.func)), some [.nilFunc]⟩ (.node ⟨.struct [(85, 0), (86, 1), (3, 2), (3, 3)], 4, some (.agg [.map, .map, .int .i64, .int .i64]), some [.map none, .map none, .int .i64 0, .int .i64 0]⟩ (.node ⟨.func, 1, some (.one (.func)), some [.nilFunc]⟩ (.node ⟨.slice 283, 1, some (.one (.slice)), some [.slice none 0 0]⟩ .nil .nil) (.node ⟨.int .u64, 1, some (.one (.int .u64)), some [.int .u64 0]⟩ .nil .nil)) (.node ⟨.func, 1, some (.one (.func)), some [.nilFunc]⟩ (.node ⟨.int .u64, 1, some (.one (.int .u64)), some [.int .u64 0]⟩ .nil .nil) .nil)) (.node ⟨.func, 1, some (.one (.func)), some [.nilFunc]⟩ (.node ⟨.tuple [183, 4], 1, none, none⟩ (.node ⟨.struct [(3, 0), (3, 1)], 2, some (.agg [.int .i64, .int .i64]), some [.int .i64 0, .int .i64 0]⟩ .nil .nil) .nil) (.node ⟨.func, 1, some (.one (.func)), some [.nilFunc]⟩ (.node ⟨.tuple [2, 212], 1, none, none⟩ .nil .nil) .nil))))) (.node ⟨.int .u64, 1, some (.one (.int .u64)), some [.int .u64 0]⟩ (.node ⟨.iface, 1, some (.one (.iface)), some [.nilIface]⟩ (.node ⟨.struct [(3, 0), (9, 1), (9, 2), (3, 3), (3, 4), (23, 5), (34, 11)], 15, some (.agg lf1), some [.int .i64 0, .string s_, .string s_, .int .i64 0, .int .i64 0, .string s_, .int .i64 0, .int .i64 0, .int .i64 0, .int .i64 0, .int .i64 0, .string s_, .string s_, .slice none 0 0, .int .i64 0]⟩ (.node ⟨.func, 1, some (.one (.func)), some [.nilFunc]⟩ (.node ⟨.func, 1, some (.one (.func)), some [.nilFunc]⟩ (.node ⟨.struct [(34, 0), (3, 4), (3, 5), (4, 6)], 7, some (.agg lf11), some [.string s_, .string s_, .slice none 0 0, .int .i64 0, .int .i64 0, .int .i64 0, .bool false]⟩ .nil .nil) (.node ⟨.int .i64, 1, some (.one (.int .i64)), some [.int .i64 0]⟩ .nil .nil)) (.node ⟨.slice 312, 1, some (.one (.slice)), some [.slice none 0 0]⟩ (.node ⟨.func, 1, some (.one (.func)), some [.nilFunc]⟩ .nil .nil) .nil)) (.node ⟨.map 9 4, 1, some (.one (.map)), some [.map none]⟩ (.node ⟨.func, 1, some (.one (.func)), some [.nilFunc]⟩ (.node ⟨.arr 4 3, 4, some (.agg [.int .i64, .int .i64, .int .i64, .int .i64]), some [.int .i64 0, .int .i64 0, .int .i64 0, .int .i64 0]⟩ .nil .nil) (.node ⟨.arr 32 5, 32, some (.agg lf15), some [.int .u8 0, .int .u8 0, .int .u8 0, .int .u8 0, .int .u8 0, .int .u8 0, .int .u8 0, .int .u8 0, .int .u8 0, .int .u8 0, .int .u8 0, .int .u8 0, .int .u8 0, .int .u8 0, .int .u8 0, .int .u8 0, .int .u8 0, .int .u8 0, .int .u8 0, .int .u8 0, .int .u8 0, .int .u8 0, .int .u8 0, .int .u8 0, .int .u8 0, .int .u8 0, .int .u8 0, .int .u8 0, .int .u8 0, .int .u8 0, .int .u8 0, .int .u8 0]⟩ .nil .nil)) (.node ⟨.func, 1, some (.one (.func)), some [.nilFunc]⟩ (.node ⟨.func, 1, some (.one (.func)), some [.nilFunc]⟩ .nil .nil) .nil))) (.node ⟨.func, 1, some (.one (.func)), some [.nilFunc]⟩ (.node ⟨.func, 1, some (.one (.func)), some [.nilFunc]⟩ (.node ⟨.struct [(146, 0), (145, 1)], 3, some (.agg [.ptr, .int .i64, .int .i64]), some [.pointer none, .int .i64 0, .int .i64 0]⟩ (.node ⟨.arr 2 9, 2, some (.agg [.str, .str]), some [.string s_, .string s_]⟩ .nil .nil) (.node ⟨.struct [(9, 0), (9, 1), (212, 2)], 3, some (.agg [.str, .str, .iface]), some [.string s_, .string s_, .nilIface]⟩ .nil .nil)) (.node ⟨.iface, 1, some (.one (.iface)), some [.nilIface]⟩ (.node ⟨.func, 1, some (.one (.func)), some [.nilFunc]⟩ .nil .nil) .nil)) (.node ⟨.struct [(4, 0), (4, 1), (4, 2), (4, 3), (4, 4), (4, 5)], 6, some (.agg lf4), some [.bool false, .bool false, .bool false, .bool false, .bool false, .bool false]⟩ (.node ⟨.tuple [43, 43], 1, none, none⟩ (.node ⟨.ptr, 1, some (.one (.ptr)), some [.pointer none]⟩ .nil .nil) (.node ⟨.struct [(12, 0), (12, 1), (372, 2), (430, 3), (5, 4), (5, 5), (431, 6), (432, 7), (305, 8), (433, 9), (434, 10)], 11, some (.agg lf17), some [.int .u64 0, .int .u64 0, .int .u32 0, .int .u8 0, .int .u8 0, .int .u8 0, .int .u8 0, .nilFunc, .pointer none, .int .i32 0, .int .i32 0]⟩ .nil .nil)) (.node ⟨.struct [(9, 0), (3, 1)], 2, some (.agg [.str, .int .i64]), some [.string s_, .int .i64 0]⟩ (.node ⟨.int .u32, 1, some (.one (.int .u32)), some [.int .u32 0]⟩ .nil .nil) .nil)))) (.node ⟨.tuple [26, 27], 1, none, none⟩ (.node ⟨.slice 4, 1, some (.one (.slice)), some [.slice none 0 0]⟩ (.node ⟨.func, 1, some (.one (.func)), some [.nilFunc]⟩ (.node ⟨.tuple [139, 4], 1, none, none⟩ (.node ⟨.func, 1, some (.one (.func)), some [.nilFunc]⟩ .nil .nil) (.node ⟨.func, 1, some (.one (.func)), some [.nilFunc]⟩ .nil .nil)) (.node ⟨.struct [(3, 0), (3, 1)], 2, some (.agg [.int .i64, .int .i64]), some [.int .i64 0, .int .i64 0]⟩ (.node ⟨.func, 1, some (.one (.func)), some [.nilFunc]⟩ .nil .nil) .nil)) (.node ⟨.ptr, 1, some (.one (.ptr)), some [.pointer none]⟩ (.node ⟨.struct [(9, 0), (3, 1), (23, 2)], 8, some (.agg lf5), some [.string s_, .int .i64 0, .string s_, .int .i64 0, .int .i64 0, .int .i64 0, .int .i64 0, .int .i64 0]⟩ (.node ⟨.func, 1, some (.one (.func)), some [.nilFunc]⟩ .nil .nil) (.node ⟨.struct [(427, 0)], 0, some (.agg []), some []⟩ .nil .nil)) (.node ⟨.struct [(9, 0), (234, 1)], 2, some (.agg [.str, .ptr]), some [.string s_, .pointer none]⟩ (.node ⟨.slice 47, 1, some (.one (.slice)), some [.slice none 0 0]⟩ .nil .nil) .nil))) (.node ⟨.func, 1, some (.one (.func)), some [.nilFunc]⟩ (.node ⟨.ptr, 1, some (.one (.ptr)), some [.pointer none]⟩ (.node ⟨.func, 1, some (.one (.func)), some [.nilFunc]⟩ (.node ⟨.func, 1, some (.one (.func)), some [.nilFunc]⟩ .nil .nil) (.node ⟨.ptr, 1, some (.one (.ptr)), some [.pointer none]⟩ .nil .nil)) (.node ⟨.func, 1, some (.one (.func)), some [.nilFunc]⟩ (.node ⟨.func, 1, some (.one (.func)), some [.nilFunc]⟩ .nil .nil) .nil)) (.node ⟨.func, 1, some (.one (.func)), some [.nilFunc]⟩ (.node ⟨.map 9 257, 1, some (.one (.map)), some [.map none]⟩ (.node ⟨.struct [(314, 0), (3, 1)], 2, some (.agg [.map, .int .i64]), some [.map none, .int .i64 0]⟩ .nil .nil) .nil) (.node ⟨.struct [(250, 0), (3, 60)], 61, some (.agg lf8), some [.int .i64 0, .int .i64 0, .int .i64 0, .int .i64 0, .int .i64 0, .int .i64 0, .int .i64 0, .int .i64 0, .int .i64 0, .int .i64 0, .int .i64 0, .int .i64 0, .int .i64 0, .int .i64 0, .int .i64 0, .int .i64 0, .int .i64 0, .int .i64 0, .int .i64 0, .int .i64 0, .int .i64 0, .int .i64 0, .int .i64 0, .int .i64 0, .int .i64 0, .int .i64 0, .int .i64 0, .int .i64 0, .int .i64 0, .int .i64 0, .int .i64 0, .int .i64 0, .int .i64 0, .int .i64 0, .int .i64 0, .int .i64 0, .int .i64 0, .int .i64 0, .int .i64 0, .int .i64 0, .int .i64 0, .int .i64 0, .int .i64 0, .int .i64 0, .int .i64 0, .int .i64 0, .int .i64 0, .int .i64 0, .int .i64 0, .int .i64 0, .int .i64 0, .int .i64 0, .int .i64 0, .int .i64 0, .int .i64 0, .int .i64 0, .int .i64 0, .int .i64 0, .int .i64 0, .int .i64 0, .int .i64 0]⟩ (.node ⟨.func, 1, some (.one (.func)), some [.nilFunc]⟩ .nil .nil) .nil)))))) (.node ⟨.int .u8, 1, some (.one (.int .u8)), some [.int .u8 0]⟩ (.node ⟨.str, 1, some (.one (.str)), some [.string s_]⟩ (.node ⟨.struct [(17, 0)], 1, some (.agg [.ptr]), some [.pointer none]⟩ (.node ⟨.struct [(9, 0), (9, 1), (32, 2), (3, 3)], 4, some (.agg [.str, .str, .slice, .int .i64]), some [.string s_, .string s_, .slice none 0 0, .int .i64 0]⟩ (.node ⟨.func, 1, some (.one (.func)), some [.nilFunc]⟩ (.node ⟨.func, 1, some (.one (.func)), some [.nilFunc]⟩ (.node ⟨.tuple [257, 4], 1, none, none⟩ .nil .nil) (.node ⟨.func, 1, some (.one (.func)), some [.nilFunc]⟩ .nil .nil)) (.node ⟨.func, 1, some (.one (.func)), some [.nilFunc]⟩ (.node ⟨.func, 1, some (.one (.func)), some [.nilFunc]⟩ .nil .nil) .nil)) (.node ⟨.map 9 172, 1, some (.one (.map)), some [.map none]⟩ (.node ⟨.func, 1, some (.one (.func)), some [.nilFunc]⟩ (.node ⟨.func, 1, some (.one (.func)), some [.nilFunc]⟩ .nil .nil) (.node ⟨.struct [(9, 0)], 1, some (.agg [.str]), some [.string s_]⟩ .nil .nil)) (.node ⟨.tuple [143, 4], 1, none, none⟩ (.node ⟨.struct [(3, 0), (3, 1)], 2, some (.agg [.int .i64, .int .i64]), some [.int .i64 0, .int .i64 0]⟩ .nil .nil) .nil))) (.node ⟨.struct [(47, 0), (48, 1)], 2, some (.agg [.slice, .slice]), some [.slice none 0 0, .slice none 0 0]⟩ (.node ⟨.struct [(9, 0), (9, 1)], 2, some (.agg [.str, .str]), some [.string s_, .string s_]⟩ (.node ⟨.ptr, 1, some (.one (.ptr)), some [.pointer none]⟩ (.node ⟨.tuple [273, 273], 1, none, none⟩ .nil .nil) (.node ⟨.func, 1, some (.one (.func)), some [.nilFunc]⟩ .nil .nil)) (.node ⟨.struct [(208, 0), (75, 1)], 2, some (.agg [.ptr, .slice]), some [.pointer none, .slice none 0 0]⟩ (.node ⟨.func, 1, some (.one (.func)), some [.nilFunc]⟩ .nil .nil) .nil)) (.node ⟨.struct [(61, 0), (106, 1), (112, 2), (3, 4), (3, 5)], 6, some (.agg lf3), some [.pointer none, .map none, .map none, .nilFunc, .int .i64 0, .int .i64 0]⟩ (.node ⟨.func, 1, some (.one (.func)), some [.nilFunc]⟩ (.node ⟨.func, 1, some (.one (.func)), some [.nilFunc]⟩ .nil .nil) (.node ⟨.int .i32, 1, some (.one (.int .i32)), some [.int .i32 0]⟩ .nil .nil)) (.node ⟨.func, 1, some (.one (.func)), some [.nilFunc]⟩ (.node ⟨.func, 1, some (.one (.func)), some [.nilFunc]⟩ .nil .nil) .nil)))) (.node ⟨.ptr, 1, some (.one (.ptr)), some [.pointer none]⟩ (.node ⟨.func, 1, some (.one (.func)), some [.nilFunc]⟩ (.node ⟨.struct [(63, 0), (65, 1), (67, 2), (61, 3), (69, 4), (72, 5), (3, 6)], 7, some (.agg lf2), some [.pointer none, .pointer none, .pointer none, .pointer none, .pointer none, .map none, .int .i64 0]⟩ (.node ⟨.func, 1, some (.one (.func)), some [.nilFunc]⟩ (.node ⟨.func, 1, some (.one (.func)), some [.nilFunc]⟩ .nil .nil) (.node ⟨.func, 1, some (.one (.func)), some [.nilFunc]⟩ .nil .nil)) (.node ⟨.func, 1, some (.one (.func)), some [.nilFunc]⟩ (.node ⟨.func, 1, some (.one (.func)), some [.nilFunc]⟩ .nil .nil) .nil)) (.node ⟨.map 3 245, 1, some (.one (.map)), some [.map none]⟩ (.node ⟨.func, 1, some (.one (.func)), some [.nilFunc]⟩ (.node ⟨.func, 1, some (.one (.func)), some [.nilFunc]⟩ .nil .nil) (.node ⟨.struct [(17, 0), (17, 1), (17, 2), (9, 3)], 4, some (.agg [.ptr, .ptr, .ptr, .str]), some [.pointer none, .pointer none, .pointer none, .string s_]⟩ .nil .nil)) (.node ⟨.ptr, 1, some (.one (.ptr)), some [.pointer none]⟩ (.node ⟨.int .u64, 1, some (.one (.int .u64)), some [.int .u64 0]⟩ .nil .nil) .nil))) (.node ⟨.func, 1, some (.one (.func)), some [.nilFunc]⟩ (.node ⟨.func, 1, some (.one (.func)), some [.nilFunc]⟩ (.node ⟨.func, 1, some (.one (.func)), some [.nilFunc]⟩ (.node ⟨.struct [(3, 0), (3, 1), (3, 2)], 3, some (.agg [.int .i64, .int .i64, .int .i64]), some [.int .i64 0, .int .i64 0, .int .i64 0]⟩ .nil .nil) (.node ⟨.func, 1, some (.one (.func)), some [.nilFunc]⟩ .nil .nil)) (.node ⟨.func, 1, some (.one (.func)), some [.nilFunc]⟩ (.node ⟨.func, 1, some (.one (.func)), some [.nilFunc]⟩ .nil .nil) .nil)) (.node ⟨.func, 1, some (.one (.func)), some [.nilFunc]⟩ (.node ⟨.func, 1, some (.one (.func)), some [.nilFunc]⟩ (.node ⟨.map 3 4, 1, some (.one (.map)), some [.map none]⟩ .nil .nil) .nil) (.node ⟨.arr 60 3, 60, some (.agg lf7), some [.int .i64 0, .int .i64 0, .int .i64 0, .int .i64 0, .int .i64 0, .int .i64 0, .int .i64 0, .int .i64 0, .int .i64 0, .int .i64 0, .int .i64 0, .int .i64 0, .int .i64 0, .int .i64 0, .int .i64 0, .int .i64 0, .int .i64 0, .int .i64 0, .int .i64 0, .int .i64 0, .int .i64 0, .int .i64 0, .int .i64 0, .int .i64 0, .int .i64 0, .int .i64 0, .int .i64 0, .int .i64 0, .int .i64 0, .int .i64 0, .int .i64 0, .int .i64 0, .int .i64 0, .int .i64 0, .int .i64 0, .int .i64 0, .int .i64 0, .int .i64 0, .int .i64 0, .int .i64 0, .int .i64 0, .int .i64 0, .int .i64 0, .int .i64 0, .int .i64 0, .int .i64 0, .int .i64 0, .int .i64 0, .int .i64 0, .int .i64 0, .int .i64 0, .int .i64 0, .int .i64 0, .int .i64 0, .int .i64 0, .int .i64 0, .int .i64 0, .int .i64 0, .int .i64 0, .int .i64 0]⟩ (.node ⟨.ptr, 1, some (.one (.ptr)), some [.pointer none]⟩ .nil .nil) .nil))))) (.node ⟨.struct [(9, 0), (12, 1)], 2, some (.agg [.str, .int .u64]), some [.string s_, .int .u64 0]⟩ (.node ⟨.struct [(9, 0), (3, 1), (3, 2), (3, 3), (3, 4), (3, 5)], 6, some (.agg lf0), some [.string s_, .int .i64 0, .int .i64 0, .int .i64 0, .int .i64 0, .int .i64 0]⟩ (.node ⟨.struct [(9, 0), (9, 1), (3, 2)], 3, some (.agg [.str, .str, .int .i64]), some [.string s_, .string s_, .int .i64 0]⟩ (.node ⟨.func, 1, some (.one (.func)), some [.nilFunc]⟩ (.node ⟨.func, 1, some (.one (.func)), some [.nilFunc]⟩ (.node ⟨.tuple [261, 4], 1, none, none⟩ .nil .nil) (.node ⟨.func, 1, some (.one (.func)), some [.nilFunc]⟩ .nil .nil)) (.node ⟨.struct [(196, 0)], 1, some (.agg [.slice]), some [.slice none 0 0]⟩ (.node ⟨.ptr, 1, some (.one (.ptr)), some [.pointer none]⟩ .nil .nil) .nil)) (.node ⟨.struct [(98, 0), (100, 1)], 2, some (.agg [.map, .map]), some [.map none, .map none]⟩ (.node ⟨.tuple [34, 3, 4], 1, none, none⟩ (.node ⟨.func, 1, some (.one (.func)), some [.nilFunc]⟩ .nil .nil) (.node ⟨.ptr, 1, some (.one (.ptr)), some [.pointer none]⟩ .nil .nil)) (.node ⟨.func, 1, some (.one (.func)), some [.nilFunc]⟩ (.node ⟨.func, 1, some (.one (.func)), some [.nilFunc]⟩ .nil .nil) .nil))) (.node ⟨.func, 1, some (.one (.func)), some [.nilFunc]⟩ (.node ⟨.map 3 3, 1, some (.one (.map)), some [.map none]⟩ (.node ⟨.tuple [136, 27], 1, none, none⟩ (.node ⟨.func, 1, some (.one (.func)), some [.nilFunc]⟩ .nil .nil) (.node ⟨.func, 1, some (.one (.func)), some [.nilFunc]⟩ .nil .nil)) (.node ⟨.func, 1, some (.one (.func)), some [.nilFunc]⟩ (.node ⟨.func, 1, some (.one (.func)), some [.nilFunc]⟩ .nil .nil) .nil)) (.node ⟨.func, 1, some (.one (.func)), some [.nilFunc]⟩ (.node ⟨.struct [(47, 0), (47, 1), (3, 2), (3, 3), (50, 4)], 6, some (.agg lf6), some [.slice none 0 0, .slice none 0 0, .int .i64 0, .int .i64 0, .slice none 0 0, .slice none 0 0]⟩ (.node ⟨.func, 1, some (.one (.func)), some [.nilFunc]⟩ .nil .nil) .nil) (.node ⟨.func, 1, some (.one (.func)), some [.nilFunc]⟩ (.node ⟨.func, 1, some (.one (.func)), some [.nilFunc]⟩ .nil .nil) .nil)))) (.node ⟨.func, 1, some (.one (.func)), some [.nilFunc]⟩ (.node ⟨.func, 1, some (.one (.func)), some [.nilFunc]⟩ (.node ⟨.func, 1, some (.one (.func)), some [.nilFunc]⟩ (.node ⟨.struct [(3, 0), (3, 1), (3, 2), (9, 3)], 4, some (.agg [.int .i64, .int .i64, .int .i64, .str]), some [.int .i64 0, .int .i64 0, .int .i64 0, .string s_]⟩ (.node ⟨.func, 1, some (.one (.func)), some [.nilFunc]⟩ .nil .nil) (.node ⟨.func, 1, some (.one (.func)), some [.nilFunc]⟩ .nil .nil)) (.node ⟨.func, 1, some (.one (.func)), some [.nilFunc]⟩ (.node ⟨.func, 1, some (.one (.func)), some [.nilFunc]⟩ .nil .nil) .nil)) (.node ⟨.func, 1, some (.one (.func)), some [.nilFunc]⟩ (.node ⟨.func, 1, some (.one (.func)), some [.nilFunc]⟩ (.node ⟨.func, 1, some (.one (.func)), some [.nilFunc]⟩ .nil .nil) (.node ⟨.int .u8, 1, some (.one (.int .u8)), some [.int .u8 0]⟩ .nil .nil)) (.node ⟨.func, 1, some (.one (.func)), some [.nilFunc]⟩ (.node ⟨.func, 1, some (.one (.func)), some [.nilFunc]⟩ .nil .nil) .nil))) (.node ⟨.func, 1, some (.one (.func)), some [.nilFunc]⟩ (.node ⟨.func, 1, some (.one (.func)), some [.nilFunc]⟩ (.node ⟨.func, 1, some (.one (.func)), some [.nilFunc]⟩ (.node ⟨.func, 1, some (.one (.func)), some [.nilFunc]⟩ .nil .nil) (.node ⟨.func, 1, some (.one (.func)), some [.nilFunc]⟩ .nil .nil)) (.node ⟨.func, 1, some (.one (.func)), some [.nilFunc]⟩ (.node ⟨.func, 1, some (.one (.func)), some [.nilFunc]⟩ .nil .nil) .nil)) (.node ⟨.func, 1, some (.one (.func)), some [.nilFunc]⟩ (.node ⟨.struct [(188, 0), (91, 1)], 2, some (.agg [.map, .func]), some [.map none, .nilFunc]⟩ (.node ⟨.struct [(3, 0), (316, 1)], 3, some (.agg [.int .i64, .map, .int .i64]), some [.int .i64 0, .map none, .int .i64 0]⟩ .nil .nil) .nil) (.node ⟨.struct [(252, 0), (3, 61)], 62, some (.agg lf9), some [.int .i64 0, .int .i64 0, .int .i64 0, .int .i64 0, .int .i64 0, .int .i64 0, .int .i64 0, .int .i64 0, .int .i64 0, .int .i64 0, .int .i64 0, .int .i64 0, .int .i64 0, .int .i64 0, .int .i64 0, .int .i64 0, .int .i64 0, .int .i64 0, .int .i64 0, .int .i64 0, .int .i64 0, .int .i64 0, .int .i64 0, .int .i64 0, .int .i64 0, .int .i64 0, .int .i64 0, .int .i64 0, .int .i64 0, .int .i64 0, .int .i64 0, .int .i64 0, .int .i64 0, .int .i64 0, .int .i64 0, .int .i64 0, .int .i64 0, .int .i64 0, .int .i64 0, .int .i64 0, .int .i64 0, .int .i64 0, .int .i64 0, .int .i64 0, .int .i64 0, .int .i64 0, .int .i64 0, .int .i64 0, .int .i64 0, .int .i64 0, .int .i64 0, .int .i64 0, .int .i64 0, .int .i64 0, .int .i64 0, .int .i64 0, .int .i64 0, .int .i64 0, .int .i64 0, .int .i64 0, .int .i64 0, .int .i64 0]⟩ (.node ⟨.func, 1, some (.one (.func)), some [.nilFunc]⟩ .nil .nil) .nil)))))))), (.node none (.node none (.node (some (.one (.one (.bool)))) (.node (some (.one (.one (.bool)))) (.node (some (.one (.one (.str)))) (.node (some (.one (.one (.slice)))) (.node (some (.one (.one (.str)))) (.node (some (.tup [(.one (.str)), (.one (.bool))])) (.node (some (.one (.one (.int .i64)))) .nil .nil) .nil) (.node (some (.one (.one (.int .i64)))) (.node none .nil .nil) .nil)) (.node (some (.one (.one (.int .i64)))) (.node (some (.one (.one (.int .i64)))) (.node (some (.one (.one (.int .u64)))) .nil .nil) .nil) (.node none .nil .nil))) (.node (some (.one (.one (.bool)))) (.node (some (.one (.one (.bool)))) (.node (some (.one (.one (.func)))) (.node (some (.tup [])) .nil .nil) .nil) (.node (some (.one (.one (.func)))) .nil .nil)) (.node (some (.one (.one (.bool)))) (.node (some (.one (.one (.bool)))) (.node none .nil .nil) .nil) (.node (some (.one (.one (.bool)))) .nil .nil)))) (.node (some (.one (.one (.ptr)))) (.node (some (.one (.one (.slice)))) (.node (some (.one (.one (.str)))) (.node (some (.one (.one (.func)))) (.node (some (.tup [])) .nil .nil) .nil) (.node (some (.one (.one (.func)))) (.node none .nil .nil) .nil)) (.node (some (.one (.agg [.slice, .slice]))) (.node (some (.one (.one (.slice)))) (.node (some (.one (.one (.bool)))) .nil .nil) .nil) (.node (some (.tup [])) .nil .nil))) (.node (some (.one (.one (.bool)))) (.node (some (.tup [(.agg lf0), (.one (.int .i64)), (.one (.int .i64)), (.one (.bool))])) (.node (some (.one (.one (.func)))) (.node (some (.tup [(.one (.int .u64)), (.one (.iface))])) .nil .nil) .nil) (.node (some (.tup [(.one (.int .i64)), (.one (.iface))])) .nil .nil)) (.node (some (.one (.one (.int .i64)))) (.node (some (.tup [(.one (.int .i64)), (.one (.bool))])) (.node none .nil .nil) .nil) (.node (some (.one (.one (.ptr)))) .nil .nil))))) (.node (some (.one (.one (.str)))) (.node (some (.one (.one (.int .i64)))) (.node (some (.one (.one (.slice)))) (.node (some (.tup [(.one (.int .i64)), (.one (.int .i64))])) (.node (some (.one (.one (.ptr)))) (.node (some (.tup [])) .nil .nil) .nil) (.node (some (.one (.one (.slice)))) (.node none .nil .nil) .nil)) (.node (some (.one (.one (.int .i64)))) (.node (some (.one (.one (.ptr)))) (.node (some (.one (.one (.bool)))) .nil .nil) .nil) (.node (some (.tup [])) .nil .nil))) (.node (some (.one (.one (.bool)))) (.node (some (.one (.one (.slice)))) (.node (some (.tup [(.agg lf10), (.one (.bool))])) (.node (some (.one (.one (.bool)))) .nil .nil) .nil) (.node (some (.tup [])) .nil .nil)) (.node (some (.one (.one (.str)))) (.node (some (.tup [])) (.node none .nil .nil) .nil) (.node (some (.one (.one (.slice)))) .nil .nil)))) (.node (some (.one (.one (.str)))) (.node (some (.one (.one (.slice)))) (.node (some (.one (.one (.str)))) (.node (some (.tup [(.one (.int .i64)), (.one (.bool))])) (.node (some (.tup [(.one (.int .i64)), (.one (.bool))])) .nil .nil) .nil) (.node (some (.one (.one (.str)))) (.node none .nil .nil) .nil)) (.node (some (.one (.one (.bool)))) (.node (some (.one (.one (.int .i64)))) (.node (some (.tup [(.one (.int .i64)), (.one (.int .i64))])) .nil .nil) .nil) (.node (some (.tup [])) .nil .nil))) (.node (some (.one (.one (.int .i64)))) (.node (some (.tup [(.agg [.slice, .slice]), (.one (.int .i64))])) (.node (some (.one (.one (.slice)))) (.node (some (.one (.one (.int .i64)))) .nil .nil) .nil) (.node (some (.one (.one (.int .i64)))) .nil .nil)) (.node (some (.one (.agg [.str, .str, .slice, .int .i64]))) (.node (some (.one (.one (.int .i64)))) (.node none .nil .nil) .nil) (.node (some (.one (.one (.int .i64)))) .nil .nil)))))) (.node (some (.one (.one (.bool)))) (.node (some (.tup [(.one (.ptr)), (.one (.int .i64))])) (.node (some (.one (.one (.str)))) (.node (some (.one (.one (.slice)))) (.node (some (.tup [(.one (.int .i64)), (.one (.int .i64))])) (.node (some (.one (.agg [.int .i64, .int .i64, .int .i64, .str]))) (.node (some (.one (.one (.int .i64)))) .nil .nil) .nil) (.node (some (.tup [])) (.node none .nil .nil) .nil)) (.node (some (.tup [(.one (.int .i64)), (.one (.int .i64))])) (.node (some (.one (.agg [.int .i64, .int .i64, .int .i64, .int .i64]))) (.node (some (.one (.one (.int .i64)))) .nil .nil) .nil) (.node (some (.one (.one (.int .i64)))) .nil .nil))) (.node (some (.one (.one (.ptr)))) (.node (some (.one (.one (.slice)))) (.node (some (.tup [])) (.node (some (.tup [(.one (.int .i64)), (.one (.int .i64))])) .nil .nil) .nil) (.node (some (.tup [])) .nil .nil)) (.node (some (.one (.one (.int .i64)))) (.node (some (.one (.one (.str)))) (.node none .nil .nil) .nil) (.node (some (.tup [])) .nil .nil)))) (.node (some (.one (.one (.ptr)))) (.node (some (.tup [(.agg [.slice, .slice]), (.one (.bool))])) (.node (some (.one (.one (.slice)))) (.node (some (.one (.one (.int .i64)))) (.node (some (.one (.one (.bool)))) .nil .nil) .nil) (.node (some (.one (.one (.func)))) (.node none .nil .nil) .nil)) (.node (some (.one (.one (.slice)))) (.node (some (.one (.one (.slice)))) (.node (some (.one (.one (.bool)))) .nil .nil) .nil) (.node (some (.one (.one (.str)))) .nil .nil))) (.node (some (.one (.one (.bool)))) (.node (some (.one (.one (.ptr)))) (.node (some (.tup [(.one (.slice)), (.one (.slice))])) (.node (some (.one (.one (.iface)))) .nil .nil) .nil) (.node (some (.one (.one (.int .i64)))) .nil .nil)) (.node (some (.one (.one (.int .i64)))) (.node (some (.tup [])) (.node none .nil .nil) .nil) (.node (some (.one (.one (.ptr)))) .nil .nil))))) (.node (some (.tup [(.one (.ptr)), (.one (.bool))])) (.node (some (.one (.one (.ptr)))) (.node (some (.one (.one (.slice)))) (.node (some (.one (.one (.slice)))) (.node (some (.tup [(.agg [.int .i64, .int .i64, .int .i64, .str]), (.one (.bool))])) (.node (some (.tup [])) .nil .nil) .nil) (.node (some (.tup [(.one (.str)), (.one (.str))])) (.node none .nil .nil) .nil)) (.node (some (.one (.one (.int .i64)))) (.node (some (.one (.one (.int .i64)))) (.node (some (.one (.one (.int .i64)))) .nil .nil) .nil) (.node (some (.tup [])) .nil .nil))) (.node (some (.one (.one (.bool)))) (.node (some (.tup [])) (.node (some (.tup [(.agg lf11), (.one (.bool))])) (.node (some (.one (.one (.int .i64)))) .nil .nil) .nil) (.node (some (.one (.one (.int .i64)))) .nil .nil)) (.node (some (.tup [(.one (.int .i64)), (.one (.iface))])) (.node (some (.tup [])) (.node none .nil .nil) .nil) (.node (some (.tup [(.one (.int .u32)), (.one (.int .u32))])) .nil .nil)))) (.node (some (.one (.one (.slice)))) (.node (some (.one (.one (.bool)))) (.node (some (.one (.one (.int .i64)))) (.node (some (.tup [(.one (.slice)), (.one (.int .i64))])) (.node (some (.tup [])) .nil .nil) .nil) (.node (some (.one (.one (.slice)))) (.node (some (.tup [])) .nil .nil) .nil)) (.node (some (.tup [(.one (.str)), (.one (.int .i64)), (.one (.bool))])) (.node (some (.one (.one (.bool)))) (.node (some (.tup [])) .nil .nil) .nil) (.node (some (.one (.one (.slice)))) .nil .nil))) (.node (some (.one (.one (.str)))) (.node (some (.one (.agg [.slice, .slice]))) (.node (some (.one (.one (.func)))) (.node (some (.tup [])) .nil .nil) .nil) (.node (some (.tup [(.one (.slice)), (.one (.str))])) .nil .nil)) (.node (some (.one (.one (.int .i64)))) (.node (some (.one (.one (.slice)))) (.node none .nil .nil) .nil) (.node (some (.one (.one (.int .i64)))) .nil .nil))))))) (.node (some (.tup [])) (.node (some (.one (.one (.bool)))) (.node (some (.one (.agg lf0))) (.node (some (.one (.one (.int .i64)))) (.node (some (.one (.one (.slice)))) (.node (some (.one (.one (.str)))) (.node (some (.one (.one (.bool)))) (.node (some (.tup [])) .nil .nil) .nil) (.node (some (.one (.one (.int .i64)))) (.node none .nil .nil) .nil)) (.node (some (.one (.one (.bool)))) (.node (some (.one (.one (.int .i64)))) (.node (some (.one (.one (.int .u64)))) .nil .nil) .nil) (.node (some (.tup [])) .nil .nil))) (.node (some (.one (.one (.ptr)))) (.node (some (.one (.one (.int .i64)))) (.node (some (.one (.one (.slice)))) (.node (some (.tup [])) .nil .nil) .nil) (.node (some (.one (.one (.int .i64)))) .nil .nil)) (.node (some (.one (.one (.bool)))) (.node (some (.one (.one (.bool)))) (.node none .nil .nil) .nil) (.node (some (.one (.one (.slice)))) .nil .nil)))) (.node (some (.one (.one (.ptr)))) (.node (some (.one (.one (.slice)))) (.node (some (.one (.one (.slice)))) (.node (some (.tup [(.one (.str)), (.one (.int .i64))])) (.node (some (.one (.one (.bool)))) .nil .nil) .nil) (.node (some (.tup [])) (.node none .nil .nil) .nil)) (.node (some (.one (.one (.bool)))) (.node (some (.one (.one (.slice)))) (.node (some (.one (.one (.int .u8)))) .nil .nil) .nil) (.node (some (.one (.one (.int .i64)))) .nil .nil))) (.node (some (.one (.one (.bool)))) (.node (some (.tup [(.one (.str)), (.one (.bool))])) (.node (some (.one (.one (.func)))) (.node (some (.one (.one (.str)))) .nil .nil) .nil) (.node (some (.one (.one (.iface)))) .nil .nil)) (.node (some (.tup [])) (.node (some (.one (.one (.bool)))) (.node none .nil .nil) .nil) (.node (some (.one (.one (.ptr)))) .nil .nil))))) (.node (some (.one (.one (.slice)))) (.node (some (.one (.one (.bool)))) (.node (some (.one (.one (.slice)))) (.node (some (.one (.one (.int .i64)))) (.node (some (.one (.one (.int .i64)))) (.node (some (.tup [])) .nil .nil) .nil) (.node (some (.tup [])) (.node none .nil .nil) .nil)) (.node (some (.tup [(.one (.slice)), (.one (.slice))])) (.node (some (.one (.one (.int .i64)))) (.node (some (.tup [])) .nil .nil) .nil) (.node (some (.one (.one (.slice)))) .nil .nil))) (.node (some (.one (.one (.bool)))) (.node (some (.one (.one (.slice)))) (.node (some (.one (.one (.str)))) (.node (some (.one (.one (.bool)))) .nil .nil) .nil) (.node (some (.tup [])) .nil .nil)) (.node (some (.tup [])) (.node (some (.one (.one (.slice)))) (.node none .nil .nil) .nil) (.node (some (.tup [])) .nil .nil)))) (.node (some (.one (.one (.str)))) (.node (some (.one (.one (.ptr)))) (.node (some (.tup [(.one (.slice)), (.one (.int .i64))])) (.node (some (.one (.one (.slice)))) (.node (some (.one (.one (.int .i64)))) .nil .nil) .nil) (.node (some (.one (.one (.int .i64)))) (.node none .nil .nil) .nil)) (.node (some (.one (.one (.bool)))) (.node (some (.tup [(.one (.int .i64)), (.one (.iface))])) (.node (some (.tup [(.one (.int .i64)), (.one (.int .i64))])) .nil .nil) .nil) (.node (some (.tup [])) .nil .nil))) (.node (some (.one (.one (.int .i64)))) (.node (some (.one (.one (.str)))) (.node (some (.one (.one (.slice)))) (.node (some (.tup [])) .nil .nil) .nil) (.node (some (.tup [])) .nil .nil)) (.node (some (.one (.one (.int .i64)))) (.node (some (.one (.one (.func)))) (.node none .nil .nil) .nil) (.node (some (.one (.one (.int .i64)))) .nil .nil)))))) (.node (some (.one (.one (.bool)))) (.node (some (.one (.one (.int .i64)))) (.node (some (.one (.one (.slice)))) (.node (some (.one (.one (.slice)))) (.node (some (.one (.one (.slice)))) (.node (some (.one (.agg [.int .i64, .int .i64, .int .i64, .str]))) (.node (some (.one (.one (.slice)))) .nil .nil) .nil) (.node (some (.one (.one (.func)))) (.node none .nil .nil) .nil)) (.node (some (.one (.agg [.int .i64, .int .i64]))) (.node (some (.one (.one (.int .i64)))) (.node (some (.one (.one (.int .i64)))) .nil .nil) .nil) (.node (some (.one (.one (.int .i64)))) .nil .nil))) (.node (some (.tup [(.agg lf4), (.one (.bool))])) (.node (some (.tup [(.one (.slice)), (.one (.int .i64))])) (.node (some (.tup [(.one (.slice)), (.one (.slice))])) (.node (some (.tup [])) .nil .nil) .nil) (.node (some (.one (.one (.slice)))) .nil .nil)) (.node (some (.one (.one (.int .i64)))) (.node (some (.tup [])) (.node none .nil .nil) .nil) (.node (some (.one (.one (.func)))) .nil .nil)))) (.node (some (.one (.one (.int .i64)))) (.node (some (.one (.one (.bool)))) (.node (some (.tup [(.one (.ptr)), (.one (.bool))])) (.node (some (.one (.one (.slice)))) (.node (some (.one (.one (.int .i64)))) .nil .nil) .nil) (.node (some (.one (.one (.slice)))) (.node none .nil .nil) .nil)) (.node (some (.one (.one (.slice)))) (.node (some (.one (.one (.func)))) (.node (some (.tup [])) .nil .nil) .nil) (.node (some (.one (.one (.bool)))) .nil .nil))) (.node (some (.one (.one (.bool)))) (.node (some (.tup [(.agg [.str, .str, .slice, .int .i64]), (.one (.int .i64)), (.one (.bool))])) (.node (some (.one (.one (.bool)))) (.node (some (.one (.one (.int .i64)))) .nil .nil) .nil) (.node (some (.one (.one (.str)))) .nil .nil)) (.node (some (.tup [])) (.node (some (.one (.one (.str)))) (.node none .nil .nil) .nil) (.node (some (.one (.one (.ptr)))) .nil .nil))))) (.node (some (.tup [(.agg [.slice, .slice]), (.one (.bool))])) (.node (some (.one (.one (.ptr)))) (.node (some (.one (.one (.slice)))) (.node (some (.tup [])) (.node (some (.one (.one (.int .i64)))) (.node (some (.tup [(.one (.int .i64)), (.one (.int .i64))])) .nil .nil) .nil) (.node (some (.tup [])) (.node none .nil .nil) .nil)) (.node (some (.one (.one (.bool)))) (.node (some (.one (.one (.slice)))) (.node (some (.one (.one (.int .i64)))) .nil .nil) .nil) (.node (some (.tup [])) .nil .nil))) (.node (some (.one (.one (.bool)))) (.node (some (.one (.one (.int .i64)))) (.node (some (.tup [(.one (.str)), (.one (.int .i64))])) (.node (some (.tup [(.one (.int .i64)), (.one (.bool))])) .nil .nil) .nil) (.node (some (.one (.one (.int .i64)))) .nil .nil)) (.node (some (.one (.one (.str)))) (.node (some (.tup [])) (.node none .nil .nil) .nil) (.node (some (.tup [(.one (.int .i64)), (.one (.iface))])) .nil .nil)))) (.node (some (.one (.one (.slice)))) (.node (some (.one (.one (.ptr)))) (.node (some (.one (.one (.str)))) (.node (some (.tup [])) (.node (some (.tup [])) .nil .nil) .nil) (.node (some (.tup [])) .nil .nil)) (.node (some (.one (.one (.bool)))) (.node (some (.one (.one (.bool)))) (.node none .nil .nil) .nil) (.node (some (.one (.one (.int .i64)))) .nil .nil))) (.node (some (.one (.one (.str)))) (.node (some (.tup [(.agg lf5), (.one (.bool))])) (.node (some (.one (.one (.int .i64)))) (.node (some (.tup [])) .nil .nil) .nil) (.node none .nil .nil)) (.node (some (.one (.one (.str)))) (.node (some (.one (.one (.func)))) (.node none .nil .nil) .nil) (.node (some (.one (.one (.bool)))) .nil .nil))))))))⟩
theorem Tok : TbOk Pr Dt := tbOk_of (by kernel_rfl) (by kernel_rfl) (by kernel_rfl)
theorem C_of {f : FuncId} {fn : Func} {an : Ann} {args : List SV} {F : PT} {K : Value → PT} {w : World} (h1 : Pr.funcs[f]? = some fn) (h2 : okF args.length fn = true) (h3 : denF Pr Dt fn an args K = F) (h : F w) : CT Pr f (vals args) K w := denF_ok Tok h1 h2 ((congrFun h3 w).mpr h)
def A_damperlaw15_SystemRolls : Ann := (.seq .auto (.seq .auto (.seq .auto (.seq .auto (.seq .auto (.seq .auto (.seq .auto (.seq .auto (.seq .auto (.seq (.seq .auto (.one [(11, (.one (.int .i64)))] .auto) none) (.seq .auto (.seq (.seq .auto (.one [(12, (.one (.int .i64))), (13, (.one (.int .i64)))] (.seq (.seq .auto (.cond .auto .auto) none) (.seq (.seq (.seq .auto (.one [(12, (.one (.int .i64))), (14, (.one (.int .i64)))] .auto) none) (.seq .auto (.seq .auto (.seq .auto (.seq .auto (.seq .auto .auto (some [(17, (.one (.str)))])) (some [(17, (.one (.str)))])) none) none) none) none) .auto none) none)) none) .auto (some [(12, (.one (.int .i64)))])) none) none) none) none) none) none) none) none) none) none) none)
def F_damperlaw15_SystemRolls (p0 : Int) (p1 : Sl) (K : Value → PT) : PT :=
 L.call Pr n_damperlaw15_known [] rB fun (x1 : Bool) =>
 L.ite (!x1) (
  K (.bool false)) <|
 L.call Pr n_system_New [.int .i64 9, .int .i64 2, .int .i64 9] (.tup [eP6, eI6]) fun (x2 : Option Addr × Int × Unit) =>
 L.ite ((x2.1).isNone) (
  K (.bool false)) <|
 L.ite (x2.2.1 != 0) (
  K (.bool false)) <|
 L.call Pr n_damperlaw15_within [.int .i64 p0, .int .i64 60] rI fun (x3 : Int) =>
 L.new [.string s_, .int .i64 0, .int .i64 0, .int .i64 0, .int .i64 0, .int .i64 0] T_api_Config fun b4 =>
 L.store (⟨b4, 0, none⟩) [.string s_web, .int .i64 0, .int .i64 1, .int .i64 1, .int .i64 2, .int .i64 0] <|
 L.load (.agg lf0) (⟨b4, 0, none⟩) fun (x5 : pt0) =>
 L.new [.string s_, .int .i64 0, .int .i64 0, .int .i64 0, .int .i64 0, .int .i64 0] T_api_Config fun b6 =>
 L.store (⟨b6, 0, none⟩) [.string x5.1, .int .i64 x5.2.1, .int .i64 x5.2.2.1, .int .i64 x5.2.2.2.1, .int .i64 x5.2.2.2.2.1, .int .i64 x5.2.2.2.2.2.1] <|
 L.store ((⟨b6, 0, none⟩ : Addr).add 1) [.int .i64 3] <|
 L.load (.agg lf0) (⟨b4, 0, none⟩) fun (x7 : pt0) =>
 L.new [.string s_, .string s_, .int .i64 100] T_api_Target fun b8 =>
 L.load (.agg lf0) (⟨b6, 0, none⟩) fun (x9 : pt0) =>
 L.new [.int .i64 1, .string s_, .string s_, .int .i64 0, .int .i64 0, .string x7.1, .int .i64 x7.2.1, .int .i64 x7.2.2.1, .int .i64 x7.2.2.2.1, .int .i64 x7.2.2.2.2.1, .int .i64 x7.2.2.2.2.2.1, .string s_, .string s_, .slice none 0 0, .int .i64 0, .int .i64 2, .string s_, .string s_, .int .i64 0, .int .i64 0, .string s_, .int .i64 0, .int .i64 0, .int .i64 0, .int .i64 0, .int .i64 0, .string s_front, .string s_web, .slice (some ⟨b8, 0, none⟩) 1 1, .int .i64 (IntKind.wrap .i64 (1 + x3)), .int .i64 10, .string s_web, .string s_, .int .i64 0, .int .i64 0, .string s_, .int .i64 0, .int .i64 0, .int .i64 0, .int .i64 0, .int .i64 0, .string s_, .string s_, .slice none 0 0, .int .i64 0, .int .i64 13, .string s_web_1, .string s_, .int .i64 0, .int .i64 0, .string s_, .int .i64 0, .int .i64 0, .int .i64 0, .int .i64 0, .int .i64 0, .string s_, .string s_, .slice none 0 0, .int .i64 0, .int .i64 6, .string s_, .string s_, .int .i64 1, .int .i64 0, .string s_, .int .i64 0, .int .i64 0, .int .i64 0, .int .i64 0, .int .i64 0, .string s_, .string s_, .slice none 0 0, .int .i64 0, .int .i64 11, .string s_front, .string s_, .int .i64 0, .int .i64 0, .string s_, .int .i64 0, .int .i64 0, .int .i64 0, .int .i64 0, .int .i64 0, .string s_, .string s_, .slice none 0 0, .int .i64 0, .int .i64 1, .string s_, .string s_, .int .i64 1, .int .i64 0, .string x9.1, .int .i64 x9.2.1, .int .i64 x9.2.2.1, .int .i64 x9.2.2.2.1, .int .i64 x9.2.2.2.2.1, .int .i64 x9.2.2.2.2.2.1, .string s_, .string s_, .slice none 0 0, .int .i64 0, .int .i64 10, .string s_web, .string s_, .int .i64 0, .int .i64 0, .string s_, .int .i64 0, .int .i64 0, .int .i64 0, .int .i64 0, .int .i64 0, .string s_, .string s_, .slice none 0 0, .int .i64 0, .int .i64 13, .string s_web_2, .string s_, .int .i64 0, .int .i64 0, .string s_, .int .i64 0, .int .i64 0, .int .i64 0, .int .i64 0, .int .i64 0, .string s_, .string s_, .slice none 0 0, .int .i64 0, .int .i64 6, .string s_, .string s_, .int .i64 2, .int .i64 0, .string s_, .int .i64 0, .int .i64 0, .int .i64 0, .int .i64 0, .int .i64 0, .string s_, .string s_, .slice none 0 0, .int .i64 0, .int .i64 11, .string s_front, .string s_, .int .i64 0, .int .i64 0, .string s_, .int .i64 0, .int .i64 0, .int .i64 0, .int .i64 0, .int .i64 0, .string s_, .string s_, .slice none 0 0, .int .i64 0] T_api_Event fun b10 =>
 L.loop (Y := Int × Unit) (0, ()) fun y11 again12 =>
 L.ite (decide (y11.1 < ((11 : Nat) : Int))) (
  L.idx (some ⟨b10, 0, none⟩) y11.1 11 15 fun a13 =>
  L.load (.agg lf1) a13 fun (x14 : pt1) =>
  L.call Pr n_system_System_Do [.pointer x2.1, (qa1 x14)] rL fun (x15 : Sl) =>
  again12 (IntKind.wrap .i64 (y11.1 + 1), ())) <|
 L.join (Y := Int × Unit) (fun k16 =>
  L.loop (Y := Int × Int × Unit) (0, 0, ()) fun y18 again19 =>
  L.ite (decide (y18.2.1 < ((p1.len : Nat) : Int))) (
   L.ite (decide (y18.2.1 < 30)) (
    L.loop (Y := Int × Int × Unit) (y18.1, 0, ()) fun y20 again21 =>
    L.idx p1.a y18.2.1 p1.len 1 fun a22 =>
    L.load eI6 a22 fun (x23 : Int) =>
    L.call Pr n_damperlaw15_within [.int .i64 x23, .int .i64 6] rI fun (x24 : Int) =>
    L.ite (decide (y20.2.1 < x24)) (
     L.call Pr n_system_System_Do [.pointer x2.1, .agg #[.int .i64 9, .string s_, .string s_, .int .i64 0, .int .i64 0, .string s_, .int .i64 0, .int .i64 0, .int .i64 0, .int .i64 0, .int .i64 0, .string s_, .string s_, .slice none 0 0, .int .i64 0]] rL fun (x25 : Sl) =>
     again21 (IntKind.wrap .i64 (y20.1 + 1), IntKind.wrap .i64 (y20.2.1 + 1), ())) <|
    L.call Pr n_system_System_Do [.pointer x2.1, .agg #[.int .i64 11, .string s_front, .string s_, .int .i64 0, .int .i64 0, .string s_, .int .i64 0, .int .i64 0, .int .i64 0, .int .i64 0, .int .i64 0, .string s_, .string s_, .slice none 0 0, .int .i64 0]] rL fun (x26 : Sl) =>
    L.guard ((IntKind.wrap .i64 (1 + x3)) ≠ (0 : Int)) <|
    L.call Pr n_damperref1_Digits [.int .i64 (IntKind.wrap .i64 (100 - (if (IntKind.wrap .i64 (Int.tdiv (IntKind.wrap .i64 (100 * y20.1)) (IntKind.wrap .i64 (1 + x3)))) < 100 then (IntKind.wrap .i64 (Int.tdiv (IntKind.wrap .i64 (100 * y20.1)) (IntKind.wrap .i64 (1 + x3)))) else 100)))] rS fun (x27 : ByteArray) =>
    L.guard (((s_table_front_web_1_.size + x27.size : Nat) : Int) ≤ maxI64) <|
    L.guard ((((s_table_front_web_1_ ++ x27).size + s__web_2__467c.size : Nat) : Int) ≤ maxI64) <|
    L.call Pr n_damperref1_Digits [.int .i64 (if (IntKind.wrap .i64 (Int.tdiv (IntKind.wrap .i64 (100 * y20.1)) (IntKind.wrap .i64 (1 + x3)))) < 100 then (IntKind.wrap .i64 (Int.tdiv (IntKind.wrap .i64 (100 * y20.1)) (IntKind.wrap .i64 (1 + x3)))) else 100)] rS fun (x28 : ByteArray) =>
    L.guard (((((s_table_front_web_1_ ++ x27) ++ s__web_2__467c).size + x28.size : Nat) : Int) ≤ maxI64) <|
    L.join (Y := ByteArray × Unit) (fun k29 =>
     L.ite ((if (IntKind.wrap .i64 (Int.tdiv (IntKind.wrap .i64 (100 * y20.1)) (IntKind.wrap .i64 (1 + x3)))) < 100 then (IntKind.wrap .i64 (Int.tdiv (IntKind.wrap .i64 (100 * y20.1)) (IntKind.wrap .i64 (1 + x3)))) else 100) == 0) (
      k29 (s_table_front_web_1_100, ())) <|
     k29 (((s_table_front_web_1_ ++ x27) ++ s__web_2__467c) ++ x28, ())) fun z30 =>
    L.join (Y := ByteArray × Unit) (fun k31 =>
     L.ite ((if (IntKind.wrap .i64 (Int.tdiv (IntKind.wrap .i64 (100 * y20.1)) (IntKind.wrap .i64 (1 + x3)))) < 100 then (IntKind.wrap .i64 (Int.tdiv (IntKind.wrap .i64 (100 * y20.1)) (IntKind.wrap .i64 (1 + x3)))) else 100) == 100) (
      k31 (s_table_front_web_2_100, ())) <|
     k31 (z30.1, ())) fun z32 =>
    L.ite (((x26.len : Nat) : Int) != 1) (
     K (.bool false)) <|
    L.idx x26.a 0 x26.len 1 fun a33 =>
    L.load eS6 a33 fun (x34 : ByteArray) =>
    L.ite (!(x34.toList == z32.1.toList)) (
     K (.bool false)) <|
    again19 (y20.1, IntKind.wrap .i64 (y18.2.1 + 1), ())) <|
   k16 (y18.1, ())) <|
  k16 (y18.1, ())) fun z17 =>
 L.call Pr n_system_System_Now [.pointer x2.1] rI fun (x35 : Int) =>
 K (.bool (x35 == z17.1))
theorem C_damperlaw15_SystemRolls (p0 : Int) (p1 : Sl) {K : Value → PT} {w : World} (h : F_damperlaw15_SystemRolls p0 p1 K w) : CT Pr n_damperlaw15_SystemRolls [.int .i64 p0, .slice p1.a p1.len p1.cap] K w :=
 C_of (fn := Tryz.f5) (an := A_damperlaw15_SystemRolls) (args := [.v (.int .i64 p0), .v (.slice p1.a p1.len p1.cap)]) (by kernel_rfl) (by kernel_rfl) (by kernel_rfl) h
def F_damperlaw15_known  (K : Value → PT) : PT :=
 L.call Pr n_system_New [.int .i64 3, .int .i64 2, .int .i64 5] (.tup [eP6, eI6]) fun (x1 : Option Addr × Int × Unit) =>
 L.ite ((x1.1).isNone) (
  K (.bool false)) <|
 L.ite (x1.2.1 != 0) (
  K (.bool false)) <|
 L.call Pr n_system_System_Do [.pointer x1.1, .agg #[.int .i64 0, .string s_, .string s_, .int .i64 0, .int .i64 0, .string s_, .int .i64 0, .int .i64 0, .int .i64 0, .int .i64 0, .int .i64 0, .string s_, .string s_, .slice none 0 0, .int .i64 0]] rL fun (x2 : Sl) =>
 L.call Pr n_system_System_Do [.pointer x1.1, .agg #[.int .i64 9, .string s_, .string s_, .int .i64 0, .int .i64 0, .string s_, .int .i64 0, .int .i64 0, .int .i64 0, .int .i64 0, .int .i64 0, .string s_, .string s_, .slice none 0 0, .int .i64 0]] rL fun (x3 : Sl) =>
 L.ite (((x2.len : Nat) : Int) == 1) (
  L.idx x2.a 0 x2.len 1 fun a4 =>
  L.load eS6 a4 fun (x5 : ByteArray) =>
  L.ite (x5.toList == s_bad_kind.toList) (
   L.ite (((x3.len : Nat) : Int) == 1) (
    L.idx x3.a 0 x3.len 1 fun a6 =>
    L.load eS6 a6 fun (x7 : ByteArray) =>
    L.ite (x7.toList == s_tick_1.toList) (
     L.call Pr n_system_System_Now [.pointer x1.1] rI fun (x8 : Int) =>
     K (.bool (x8 == 1))) <|
    K (.bool false)) <|
   K (.bool false)) <|
  K (.bool false)) <|
 K (.bool false)
theorem C_damperlaw15_known  {K : Value → PT} {w : World} (h : F_damperlaw15_known  K w) : CT Pr n_damperlaw15_known [] K w :=
 C_of (fn := Tryz.f7) (an := .auto) (args := []) (by kernel_rfl) (by kernel_rfl) (by kernel_rfl) h
def F_system_New (p0 : Int) (p1 : Int) (p2 : Int) (K : Value → PT) : PT :=
 L.call Pr n_system_within_int [.int .i64 p0, .int .i64 1, .int .i64 30] rB fun (x1 : Bool) =>
 L.ite (!x1) (
  K (.tuple #[.pointer none, .int .i64 2])) <|
 L.call Pr n_system_within_int [.int .i64 p1, .int .i64 0, .int .i64 8] rB fun (x2 : Bool) =>
 L.ite (!x2) (
  K (.tuple #[.pointer none, .int .i64 2])) <|
 L.call Pr n_system_within_int [.int .i64 p2, .int .i64 1, .int .i64 50] rB fun (x3 : Bool) =>
 L.ite (!x3) (
  K (.tuple #[.pointer none, .int .i64 2])) <|
 L.call Pr n_fleet_New [.int .i64 p0] rP fun (x4 : Option Addr) =>
 L.call Pr n_shelf_New [] rP fun (x5 : Option Addr) =>
 L.call Pr n_stamp_New [] rP fun (x6 : Option Addr) =>
 L.call Pr n_lead_New [] rP fun (x7 : Option Addr) =>
 L.call Pr n_gate_New [.pointer x4, .int .i64 p1, .int .i64 p2] rP fun (x8 : Option Addr) =>
 L.sem Pr (.one (.one .map)) (Instr.makeMap T_system_things_p_system_beside none) fun (m9 : Option Nat) =>
 L.new [.pointer x5, .pointer x6, .pointer x7, .pointer x4, .pointer x8, .map m9, .int .i64 0] T_system_System fun b10 =>
 K (.tuple #[.pointer (some (⟨b10, 0, none⟩)), .int .i64 0])
theorem C_system_New (p0 : Int) (p1 : Int) (p2 : Int) {K : Value → PT} {w : World} (h : F_system_New p0 p1 p2 K w) : CT Pr n_system_New [.int .i64 p0, .int .i64 p1, .int .i64 p2] K w :=
 C_of (fn := Tryz.f9) (an := .auto) (args := [.v (.int .i64 p0), .v (.int .i64 p1), .v (.int .i64 p2)]) (by kernel_rfl) (by kernel_rfl) (by kernel_rfl) h
def A_damperlaw15_within : Ann := (.seq .auto (.seq .auto (.seq .auto .auto (some [(5, (.one (.int .i64)))])) none) none)
def F_damperlaw15_within (p0 : Int) (p1 : Int) (K : Value → PT) : PT :=
 L.guard (p1 ≠ (0 : Int)) <|
 L.join (Y := Int × Unit) (fun k1 =>
  L.ite (decide ((Int.tmod p0 p1) < 0)) (
   k1 (IntKind.wrap .i64 ((Int.tmod p0 p1) + p1), ())) <|
  k1 (Int.tmod p0 p1, ())) fun z2 =>
 K (.int .i64 z2.1)
theorem C_damperlaw15_within (p0 : Int) (p1 : Int) {K : Value → PT} {w : World} (h : F_damperlaw15_within p0 p1 K w) : CT Pr n_damperlaw15_within [.int .i64 p0, .int .i64 p1] K w :=
 C_of (fn := Tryz.f10) (an := A_damperlaw15_within) (args := [.v (.int .i64 p0), .v (.int .i64 p1)]) (by kernel_rfl) (by kernel_rfl) (by kernel_rfl) h
def F_damperref1_Digits (p0 : Int) (K : Value → PT) : PT :=
 L.ite (decide (p0 < 0)) (
  L.call Pr n_damperref1_Digits [.int .i64 (IntKind.wrap .i64 (0 - p0))] rS fun (x1 : ByteArray) =>
  L.guard (((s___b5d2.size + x1.size : Nat) : Int) ≤ maxI64) <|
  K (.string (s___b5d2 ++ x1))) <|
 L.ite (decide (p0 ≥ 10)) (
  L.guard (10 ≠ (0 : Int)) <|
  L.call Pr n_damperref1_Digits [.int .i64 (IntKind.wrap .i64 (Int.tdiv p0 10))] rS fun (x2 : ByteArray) =>
  L.guard (10 ≠ (0 : Int)) <|
  L.call Pr n_damperref1_Digits [.int .i64 (Int.tmod p0 10)] rS fun (x3 : ByteArray) =>
  L.guard (((x2.size + x3.size : Nat) : Int) ≤ maxI64) <|
  K (.string (x2 ++ x3))) <|
 L.new [.int .u8 (IntKind.wrap .u8 (IntKind.wrap .i64 (48 + p0)))] T_uint8 fun b4 =>
 L.sem Pr rS (convert T_s_uint8 T_string (.slice (some ⟨b4, 0, none⟩) 1 1)) fun (x5 : ByteArray) =>
 K (.string x5)
theorem C_damperref1_Digits (p0 : Int) {K : Value → PT} {w : World} (h : F_damperref1_Digits p0 K w) : CT Pr n_damperref1_Digits [.int .i64 p0] K w :=
 C_of (fn := Tryz.f11) (an := .auto) (args := [.v (.int .i64 p0)]) (by kernel_rfl) (by kernel_rfl) (by kernel_rfl) h
def F_system_System_Do (p0 : Option Addr) (p1 : ht1) (K : Value → PT) : PT :=
 L.new [.int .i64 p1.1, .string p1.2.1, .string p1.2.2.1, .int .i64 p1.2.2.2.1, .int .i64 p1.2.2.2.2.1, .string p1.2.2.2.2.2.1, .int .i64 p1.2.2.2.2.2.2.1, .int .i64 p1.2.2.2.2.2.2.2.1, .int .i64 p1.2.2.2.2.2.2.2.2.1, .int .i64 p1.2.2.2.2.2.2.2.2.2.1, .int .i64 p1.2.2.2.2.2.2.2.2.2.2.1, .string p1.2.2.2.2.2.2.2.2.2.2.2.1, .string p1.2.2.2.2.2.2.2.2.2.2.2.2.1, .slice p1.2.2.2.2.2.2.2.2.2.2.2.2.2.1.a p1.2.2.2.2.2.2.2.2.2.2.2.2.2.1.len p1.2.2.2.2.2.2.2.2.2.2.2.2.2.1.cap, .int .i64 p1.2.2.2.2.2.2.2.2.2.2.2.2.2.2.1] T_api_Event fun b1 =>
 L.load (.agg lf1) (⟨b1, 0, none⟩) fun (x2 : pt1) =>
 L.call Pr n_event_Check [(qa1 x2)] rI fun (x3 : Int) =>
 L.ite (x3 != 0) (
  L.call Pr n_api_Errno_Error [.int .i64 x3] rS fun (x4 : ByteArray) =>
  L.new [.string x4] T_string fun b5 =>
  L.call Pr n_system_line_string [.string s_bad, .slice (some ⟨b5, 0, none⟩) 1 1] rS fun (x6 : ByteArray) =>
  L.new [.string x6] T_string fun b7 =>
  K (.slice (some ⟨b7, 0, none⟩) 1 1)) <|
 L.sem Pr (.one (.one .map)) (Instr.makeMap T_map_int_func_api_Event_s_string none) fun (m8 : Option Nat) =>
 L.semU Pr (Instr.mapUpdate T_map_int_func_api_Event_s_string (.map m8) (.int .i64 1) (.func (.func n_system_System_config) #[.pointer p0] #[])) <|
 L.semU Pr (Instr.mapUpdate T_map_int_func_api_Event_s_string (.map m8) (.int .i64 2) (.func (.func n_system_System_route) #[.pointer p0] #[])) <|
 L.semU Pr (Instr.mapUpdate T_map_int_func_api_Event_s_string (.map m8) (.int .i64 3) (.func (.func n_system_System_drop) #[.pointer p0] #[])) <|
 L.semU Pr (Instr.mapUpdate T_map_int_func_api_Event_s_string (.map m8) (.int .i64 4) (.func (.func n_system_System_arrive) #[.pointer p0] #[])) <|
 L.semU Pr (Instr.mapUpdate T_map_int_func_api_Event_s_string (.map m8) (.int .i64 5) (.func (.func n_system_System_done) #[.pointer p0] #[])) <|
 L.semU Pr (Instr.mapUpdate T_map_int_func_api_Event_s_string (.map m8) (.int .i64 6) (.func (.func n_system_System_up) #[.pointer p0] #[])) <|
 L.semU Pr (Instr.mapUpdate T_map_int_func_api_Event_s_string (.map m8) (.int .i64 7) (.func (.func n_system_System_down) #[.pointer p0] #[])) <|
 L.semU Pr (Instr.mapUpdate T_map_int_func_api_Event_s_string (.map m8) (.int .i64 8) (.func (.func n_system_System_down) #[.pointer p0] #[])) <|
 L.semU Pr (Instr.mapUpdate T_map_int_func_api_Event_s_string (.map m8) (.int .i64 9) (.func (.func n_system_System_tick) #[.pointer p0] #[])) <|
 L.semU Pr (Instr.mapUpdate T_map_int_func_api_Event_s_string (.map m8) (.int .i64 10) (.func (.func n_system_System_stamp) #[.pointer p0] #[])) <|
 L.semU Pr (Instr.mapUpdate T_map_int_func_api_Event_s_string (.map m8) (.int .i64 11) (.func (.func n_system_System_lead) #[.pointer p0] #[])) <|
 L.semU Pr (Instr.mapUpdate T_map_int_func_api_Event_s_string (.map m8) (.int .i64 12) (.func (.func n_system_System_scale) #[.pointer p0] #[])) <|
 L.semU Pr (Instr.mapUpdate T_map_int_func_api_Event_s_string (.map m8) (.int .i64 13) (.func (.func n_system_System_pods) #[.pointer p0] #[])) <|
 L.load eI6 ((⟨b1, 0, none⟩ : Addr).add 0) fun (x9 : Int) =>
 L.semR Pr (.one (.one (.func))) (Instr.lookup T_map_int_func_api_Event_s_string (.map m8) (.int .i64 x9) false) fun (x10 : FV) =>
 L.load (.agg lf1) (⟨b1, 0, none⟩) fun (x11 : pt1) =>
 L.callV Pr (.func x10.fn x10.fs x10.cs) [(qa1 x11)] rL fun (x12 : Sl) =>
 K (.slice x12.a x12.len x12.cap)
theorem C_system_System_Do (p0 : Option Addr) (p1 : ht1) {K : Value → PT} {w : World} (h : F_system_System_Do p0 p1 K w) : CT Pr n_system_System_Do [.pointer p0, (.ag (qc1 p1) : SV).toV] K w :=
 C_of (fn := Tryz.f12) (an := .auto) (args := [.v (.pointer p0), .ag (qc1 p1)]) (by kernel_rfl) (by kernel_rfl) (by kernel_rfl) h
def F_system_System_Now (p0 : Option Addr) (K : Value → PT) : PT :=
 L.nonnil p0 fun a1 =>
 L.load eI6 (a1.add 6) fun (x2 : Int) =>
 K (.int .i64 x2)
theorem C_system_System_Now (p0 : Option Addr) {K : Value → PT} {w : World} (h : F_system_System_Now p0 K w) : CT Pr n_system_System_Now [.pointer p0] K w :=
 C_of (fn := Tryz.f16) (an := .auto) (args := [.v (.pointer p0)]) (by kernel_rfl) (by kernel_rfl) (by kernel_rfl) h
def F_system_System_Revisions (p0 : Option Addr) (K : Value → PT) : PT :=
 L.nonnil p0 fun a1 =>
 L.load eP6 (a1.add 1) fun (x2 : Option Addr) =>
 L.call Pr n_stamp_Book_All [.pointer x2] rL fun (x3 : Sl) =>
 K (.slice x3.a x3.len x3.cap)
theorem C_system_System_Revisions (p0 : Option Addr) {K : Value → PT} {w : World} (h : F_system_System_Revisions p0 K w) : CT Pr n_system_System_Revisions [.pointer p0] K w :=
 C_of (fn := Tryz.f18) (an := .auto) (args := [.v (.pointer p0)]) (by kernel_rfl) (by kernel_rfl) (by kernel_rfl) h
def F_system_within_int (p0 : Int) (p1 : Int) (p2 : Int) (K : Value → PT) : PT :=
 L.ite (decide (p0 ≥ p1)) (
  K (.bool (decide (p0 ≤ p2)))) <|
 K (.bool false)
theorem C_system_within_int (p0 : Int) (p1 : Int) (p2 : Int) {K : Value → PT} {w : World} (h : F_system_within_int p0 p1 p2 K w) : CT Pr n_system_within_int [.int .i64 p0, .int .i64 p1, .int .i64 p2] K w :=
 C_of (fn := Tryz.f20) (an := .auto) (args := [.v (.int .i64 p0), .v (.int .i64 p1), .v (.int .i64 p2)]) (by kernel_rfl) (by kernel_rfl) (by kernel_rfl) h
def F_fleet_New (p0 : Int) (K : Value → PT) : PT :=
 L.sem Pr (.one (.one .map)) (Instr.makeMap T_map_int_fleet_one none) fun (m1 : Option Nat) =>
 L.sem Pr (.one (.one .map)) (Instr.makeMap T_map_int_int none) fun (m2 : Option Nat) =>
 L.new [.map m1, .map m2, .int .i64 p0, .int .i64 0] T_fleet_Fleet fun b3 =>
 K (.pointer (some (⟨b3, 0, none⟩)))
theorem C_fleet_New (p0 : Int) {K : Value → PT} {w : World} (h : F_fleet_New p0 K w) : CT Pr n_fleet_New [.int .i64 p0] K w :=
 C_of (fn := Tryz.f21) (an := .auto) (args := [.v (.int .i64 p0)]) (by kernel_rfl) (by kernel_rfl) (by kernel_rfl) h
def F_shelf_New  (K : Value → PT) : PT :=
 L.call Pr n_shelf_made_api_Config [.func (.func n_shelf_New_1) #[] #[]] rP fun (x1 : Option Addr) =>
 L.call Pr n_shelf_made_api_Route [.func (.func n_spec_SameRoute) #[] #[]] rP fun (x2 : Option Addr) =>
 L.new [.pointer x1, .pointer x2, .int .i64 0] T_shelf_Shelf fun b3 =>
 K (.pointer (some (⟨b3, 0, none⟩)))
theorem C_shelf_New  {K : Value → PT} {w : World} (h : F_shelf_New  K w) : CT Pr n_shelf_New [] K w :=
 C_of (fn := Tryz.f22) (an := .auto) (args := []) (by kernel_rfl) (by kernel_rfl) (by kernel_rfl) h
def F_stamp_New  (K : Value → PT) : PT :=
 L.sem Pr (.one (.one .map)) (Instr.makeMap T_stamp_shelf_api_Revision none) fun (m1 : Option Nat) =>
 L.sem Pr (.one (.one .map)) (Instr.makeMap T_stamp_shelf_bool none) fun (m2 : Option Nat) =>
 L.new [.map m1, .map m2] T_stamp_Book fun b3 =>
 K (.pointer (some (⟨b3, 0, none⟩)))
theorem C_stamp_New  {K : Value → PT} {w : World} (h : F_stamp_New  K w) : CT Pr n_stamp_New [] K w :=
 C_of (fn := Tryz.f23) (an := .auto) (args := []) (by kernel_rfl) (by kernel_rfl) (by kernel_rfl) h
def F_lead_New  (K : Value → PT) : PT :=
 L.sem Pr (.one (.one .map)) (Instr.makeMap T_map_string_lead_way none) fun (m1 : Option Nat) =>
 L.new [.map m1] T_lead_Roller fun b2 =>
 K (.pointer (some (⟨b2, 0, none⟩)))
theorem C_lead_New  {K : Value → PT} {w : World} (h : F_lead_New  K w) : CT Pr n_lead_New [] K w :=
 C_of (fn := Tryz.f24) (an := .auto) (args := []) (by kernel_rfl) (by kernel_rfl) (by kernel_rfl) h
def F_gate_New (p0 : Option Addr) (p1 : Int) (p2 : Int) (K : Value → PT) : PT :=
 L.new [.int .i64 p1] T_int fun b1 =>
 L.sem Pr (.one (.one .map)) (Instr.makeMap T_map_int_gate_request none) fun (m2 : Option Nat) =>
 L.sem Pr (.one (.one .map)) (Instr.makeMap T_map_string_p_wait_Line none) fun (m3 : Option Nat) =>
 L.load eI6 (⟨b1, 0, none⟩) fun (x4 : Int) =>
 L.new [.pointer p0, .map m2, .map m3, .func (.func n_gate_New_1) #[] #[.pointer (some (⟨b1, 0, none⟩))], .int .i64 x4, .int .i64 p2] T_gate_Gate fun b5 =>
 K (.pointer (some (⟨b5, 0, none⟩)))
theorem C_gate_New (p0 : Option Addr) (p1 : Int) (p2 : Int) {K : Value → PT} {w : World} (h : F_gate_New p0 p1 p2 K w) : CT Pr n_gate_New [.pointer p0, .int .i64 p1, .int .i64 p2] K w :=
 C_of (fn := Tryz.f25) (an := .auto) (args := [.v (.pointer p0), .v (.int .i64 p1), .v (.int .i64 p2)]) (by kernel_rfl) (by kernel_rfl) (by kernel_rfl) h
def A_event_Check : Ann := (.seq .auto (.seq .auto (.seq .auto (.seq (.seq .auto .auto (some [(61, (.one (.bool)))])) (.seq (.seq .auto (.cond .auto (.seq .auto (.cond .auto (.seq .auto (.cond .auto (.seq .auto (.cond .auto .auto) none)) none)) none)) none) .auto (some [])) none) none) none) none)
def F_event_Check (p0 : ht1) (K : Value → PT) : PT :=
 L.new [.int .i64 p0.1, .string p0.2.1, .string p0.2.2.1, .int .i64 p0.2.2.2.1, .int .i64 p0.2.2.2.2.1, .string p0.2.2.2.2.2.1, .int .i64 p0.2.2.2.2.2.2.1, .int .i64 p0.2.2.2.2.2.2.2.1, .int .i64 p0.2.2.2.2.2.2.2.2.1, .int .i64 p0.2.2.2.2.2.2.2.2.2.1, .int .i64 p0.2.2.2.2.2.2.2.2.2.2.1, .string p0.2.2.2.2.2.2.2.2.2.2.2.1, .string p0.2.2.2.2.2.2.2.2.2.2.2.2.1, .slice p0.2.2.2.2.2.2.2.2.2.2.2.2.2.1.a p0.2.2.2.2.2.2.2.2.2.2.2.2.2.1.len p0.2.2.2.2.2.2.2.2.2.2.2.2.2.1.cap, .int .i64 p0.2.2.2.2.2.2.2.2.2.2.2.2.2.2.1] T_api_Event fun b1 =>
 L.load eI6 ((⟨b1, 0, none⟩ : Addr).add 0) fun (x2 : Int) =>
 L.call Pr n_event_shape [.int .i64 x2] (.tup [(.agg lf4), eB6]) fun (x3 : pt2) =>
 L.new [.bool false, .bool false, .bool false, .bool false, .bool false, .bool false] T_event_has fun b4 =>
 L.store (⟨b4, 0, none⟩) [.bool x3.1.1, .bool x3.1.2.1, .bool x3.1.2.2.1, .bool x3.1.2.2.2.1, .bool x3.1.2.2.2.2.1, .bool x3.1.2.2.2.2.2.1] <|
 L.ite (!x3.2.1) (
  K (.int .i64 12)) <|
 L.join (Y := Bool × Unit) (fun k5 =>
  L.load eB6 ((⟨b4, 0, none⟩ : Addr).add 0) fun (x7 : Bool) =>
  L.load eI6 ((⟨b1, 0, none⟩ : Addr).add 3) fun (x8 : Int) =>
  L.call Pr n_event_none_int [.bool x7, .int .i64 x8] rB fun (x9 : Bool) =>
  L.ite (!x9) (
   k5 (true, ())) <|
  L.load eB6 ((⟨b4, 0, none⟩ : Addr).add 1) fun (x10 : Bool) =>
  L.load eS6 ((⟨b1, 0, none⟩ : Addr).add 1) fun (x11 : ByteArray) =>
  L.call Pr n_event_none_string [.bool x10, .string x11] rB fun (x12 : Bool) =>
  L.ite (!x12) (
   k5 (true, ())) <|
  L.load eB6 ((⟨b4, 0, none⟩ : Addr).add 2) fun (x13 : Bool) =>
  L.load eS6 ((⟨b1, 0, none⟩ : Addr).add 2) fun (x14 : ByteArray) =>
  L.call Pr n_event_none_string [.bool x13, .string x14] rB fun (x15 : Bool) =>
  L.ite (!x15) (
   k5 (true, ())) <|
  L.load eB6 ((⟨b4, 0, none⟩ : Addr).add 3) fun (x16 : Bool) =>
  L.load eI6 ((⟨b1, 0, none⟩ : Addr).add 4) fun (x17 : Int) =>
  L.call Pr n_event_none_int [.bool x16, .int .i64 x17] rB fun (x18 : Bool) =>
  L.ite (!x18) (
   k5 (true, ())) <|
  L.load eB6 ((⟨b4, 0, none⟩ : Addr).add 4) fun (x19 : Bool) =>
  L.load (.agg lf0) ((⟨b1, 0, none⟩ : Addr).add 5) fun (x20 : pt0) =>
  L.call Pr n_event_none_api_Config [.bool x19, (qa0 x20)] rB fun (x21 : Bool) =>
  L.ite (!x21) (
   k5 (true, ())) <|
  L.load eB6 ((⟨b4, 0, none⟩ : Addr).add 5) fun (x22 : Bool) =>
  L.ite (!x22) (
   L.load (.agg [.str, .str, .slice, .int .i64]) ((⟨b1, 0, none⟩ : Addr).add 11) fun (x23 : pt3) =>
   L.call Pr n_event_bare [.agg #[.string x23.1, .string x23.2.1, .slice x23.2.2.1.a x23.2.2.1.len x23.2.2.1.cap, .int .i64 x23.2.2.2.1]] rB fun (x24 : Bool) =>
   k5 (!x24, ())) <|
  k5 (false, ())) fun z6 =>
 L.ite z6.1 (
  K (.int .i64 2)) <|
 L.join (Y := Unit) (fun k25 =>
  L.load eB6 ((⟨b4, 0, none⟩ : Addr).add 0) fun (x27 : Bool) =>
  L.ite x27 (
   L.load (.agg lf1) (⟨b1, 0, none⟩) fun (x28 : pt1) =>
   L.call Pr n_event_number [(qa1 x28)] rB fun (x29 : Bool) =>
   L.ite (!x29) (
    K (.int .i64 2)) <|
   L.load eB6 ((⟨b4, 0, none⟩ : Addr).add 1) fun (x30 : Bool) =>
   L.ite x30 (
    L.load (.agg lf1) (⟨b1, 0, none⟩) fun (x31 : pt1) =>
    L.call Pr n_event_named [(qa1 x31)] rB fun (x32 : Bool) =>
    L.ite (!x32) (
     K (.int .i64 1)) <|
    L.load eB6 ((⟨b4, 0, none⟩ : Addr).add 2) fun (x33 : Bool) =>
    L.ite x33 (
     L.load eS6 ((⟨b1, 0, none⟩ : Addr).add 2) fun (x34 : ByteArray) =>
     L.ite (!(x34.toList == s_.toList)) (
      L.load eS6 ((⟨b1, 0, none⟩ : Addr).add 2) fun (x35 : ByteArray) =>
      L.call Pr n_label_Tag [.string x35] rB fun (x36 : Bool) =>
      L.ite (!x36) (
       K (.int .i64 1)) <|
      L.load eB6 ((⟨b4, 0, none⟩ : Addr).add 3) fun (x37 : Bool) =>
      L.ite x37 (
       L.load eI6 ((⟨b1, 0, none⟩ : Addr).add 4) fun (x38 : Int) =>
       L.call Pr n_event_within [.int .i64 x38, .int .i64 0, .int .i64 2147483647] rB fun (x39 : Bool) =>
       L.ite (!x39) (
        K (.int .i64 2)) <|
       L.load eB6 ((⟨b4, 0, none⟩ : Addr).add 4) fun (x40 : Bool) =>
       L.ite x40 (
        L.load (.agg lf0) ((⟨b1, 0, none⟩ : Addr).add 5) fun (x41 : pt0) =>
        L.call Pr n_spec_Config [(qa0 x41)] rI fun (x42 : Int) =>
        K (.int .i64 x42)) <|
       L.load eB6 ((⟨b4, 0, none⟩ : Addr).add 5) fun (x43 : Bool) =>
       L.ite x43 (
        L.load (.agg [.str, .str, .slice, .int .i64]) ((⟨b1, 0, none⟩ : Addr).add 11) fun (x44 : pt3) =>
        L.call Pr n_spec_Route [.agg #[.string x44.1, .string x44.2.1, .slice x44.2.2.1.a x44.2.2.1.len x44.2.2.1.cap, .int .i64 x44.2.2.2.1]] rI fun (x45 : Int) =>
        K (.int .i64 x45)) <|
       k25 (())) <|
      L.load eB6 ((⟨b4, 0, none⟩ : Addr).add 4) fun (x46 : Bool) =>
      L.ite x46 (
       L.load (.agg lf0) ((⟨b1, 0, none⟩ : Addr).add 5) fun (x47 : pt0) =>
       L.call Pr n_spec_Config [(qa0 x47)] rI fun (x48 : Int) =>
       K (.int .i64 x48)) <|
      L.load eB6 ((⟨b4, 0, none⟩ : Addr).add 5) fun (x49 : Bool) =>
      L.ite x49 (
       L.load (.agg [.str, .str, .slice, .int .i64]) ((⟨b1, 0, none⟩ : Addr).add 11) fun (x50 : pt3) =>
       L.call Pr n_spec_Route [.agg #[.string x50.1, .string x50.2.1, .slice x50.2.2.1.a x50.2.2.1.len x50.2.2.1.cap, .int .i64 x50.2.2.2.1]] rI fun (x51 : Int) =>
       K (.int .i64 x51)) <|
      k25 (())) <|
     L.load eB6 ((⟨b4, 0, none⟩ : Addr).add 3) fun (x52 : Bool) =>
     L.ite x52 (
      L.load eI6 ((⟨b1, 0, none⟩ : Addr).add 4) fun (x53 : Int) =>
      L.call Pr n_event_within [.int .i64 x53, .int .i64 0, .int .i64 2147483647] rB fun (x54 : Bool) =>
      L.ite (!x54) (
       K (.int .i64 2)) <|
      L.load eB6 ((⟨b4, 0, none⟩ : Addr).add 4) fun (x55 : Bool) =>
      L.ite x55 (
       L.load (.agg lf0) ((⟨b1, 0, none⟩ : Addr).add 5) fun (x56 : pt0) =>
       L.call Pr n_spec_Config [(qa0 x56)] rI fun (x57 : Int) =>
       K (.int .i64 x57)) <|
      L.load eB6 ((⟨b4, 0, none⟩ : Addr).add 5) fun (x58 : Bool) =>
      L.ite x58 (
       L.load (.agg [.str, .str, .slice, .int .i64]) ((⟨b1, 0, none⟩ : Addr).add 11) fun (x59 : pt3) =>
       L.call Pr n_spec_Route [.agg #[.string x59.1, .string x59.2.1, .slice x59.2.2.1.a x59.2.2.1.len x59.2.2.1.cap, .int .i64 x59.2.2.2.1]] rI fun (x60 : Int) =>
       K (.int .i64 x60)) <|
      k25 (())) <|
     L.load eB6 ((⟨b4, 0, none⟩ : Addr).add 4) fun (x61 : Bool) =>
     L.ite x61 (
      L.load (.agg lf0) ((⟨b1, 0, none⟩ : Addr).add 5) fun (x62 : pt0) =>
      L.call Pr n_spec_Config [(qa0 x62)] rI fun (x63 : Int) =>
      K (.int .i64 x63)) <|
     L.load eB6 ((⟨b4, 0, none⟩ : Addr).add 5) fun (x64 : Bool) =>
     L.ite x64 (
      L.load (.agg [.str, .str, .slice, .int .i64]) ((⟨b1, 0, none⟩ : Addr).add 11) fun (x65 : pt3) =>
      L.call Pr n_spec_Route [.agg #[.string x65.1, .string x65.2.1, .slice x65.2.2.1.a x65.2.2.1.len x65.2.2.1.cap, .int .i64 x65.2.2.2.1]] rI fun (x66 : Int) =>
      K (.int .i64 x66)) <|
     k25 (())) <|
    L.load eB6 ((⟨b4, 0, none⟩ : Addr).add 3) fun (x67 : Bool) =>
    L.ite x67 (
     L.load eI6 ((⟨b1, 0, none⟩ : Addr).add 4) fun (x68 : Int) =>
     L.call Pr n_event_within [.int .i64 x68, .int .i64 0, .int .i64 2147483647] rB fun (x69 : Bool) =>
     L.ite (!x69) (
      K (.int .i64 2)) <|
     L.load eB6 ((⟨b4, 0, none⟩ : Addr).add 4) fun (x70 : Bool) =>
     L.ite x70 (
      L.load (.agg lf0) ((⟨b1, 0, none⟩ : Addr).add 5) fun (x71 : pt0) =>
      L.call Pr n_spec_Config [(qa0 x71)] rI fun (x72 : Int) =>
      K (.int .i64 x72)) <|
     L.load eB6 ((⟨b4, 0, none⟩ : Addr).add 5) fun (x73 : Bool) =>
     L.ite x73 (
      L.load (.agg [.str, .str, .slice, .int .i64]) ((⟨b1, 0, none⟩ : Addr).add 11) fun (x74 : pt3) =>
      L.call Pr n_spec_Route [.agg #[.string x74.1, .string x74.2.1, .slice x74.2.2.1.a x74.2.2.1.len x74.2.2.1.cap, .int .i64 x74.2.2.2.1]] rI fun (x75 : Int) =>
      K (.int .i64 x75)) <|
     k25 (())) <|
    L.load eB6 ((⟨b4, 0, none⟩ : Addr).add 4) fun (x76 : Bool) =>
    L.ite x76 (
     L.load (.agg lf0) ((⟨b1, 0, none⟩ : Addr).add 5) fun (x77 : pt0) =>
     L.call Pr n_spec_Config [(qa0 x77)] rI fun (x78 : Int) =>
     K (.int .i64 x78)) <|
    L.load eB6 ((⟨b4, 0, none⟩ : Addr).add 5) fun (x79 : Bool) =>
    L.ite x79 (
     L.load (.agg [.str, .str, .slice, .int .i64]) ((⟨b1, 0, none⟩ : Addr).add 11) fun (x80 : pt3) =>
     L.call Pr n_spec_Route [.agg #[.string x80.1, .string x80.2.1, .slice x80.2.2.1.a x80.2.2.1.len x80.2.2.1.cap, .int .i64 x80.2.2.2.1]] rI fun (x81 : Int) =>
     K (.int .i64 x81)) <|
    k25 (())) <|
   L.load eB6 ((⟨b4, 0, none⟩ : Addr).add 2) fun (x82 : Bool) =>
   L.ite x82 (
    L.load eS6 ((⟨b1, 0, none⟩ : Addr).add 2) fun (x83 : ByteArray) =>
    L.ite (!(x83.toList == s_.toList)) (
     L.load eS6 ((⟨b1, 0, none⟩ : Addr).add 2) fun (x84 : ByteArray) =>
     L.call Pr n_label_Tag [.string x84] rB fun (x85 : Bool) =>
     L.ite (!x85) (
      K (.int .i64 1)) <|
     L.load eB6 ((⟨b4, 0, none⟩ : Addr).add 3) fun (x86 : Bool) =>
     L.ite x86 (
      L.load eI6 ((⟨b1, 0, none⟩ : Addr).add 4) fun (x87 : Int) =>
      L.call Pr n_event_within [.int .i64 x87, .int .i64 0, .int .i64 2147483647] rB fun (x88 : Bool) =>
      L.ite (!x88) (
       K (.int .i64 2)) <|
      L.load eB6 ((⟨b4, 0, none⟩ : Addr).add 4) fun (x89 : Bool) =>
      L.ite x89 (
       L.load (.agg lf0) ((⟨b1, 0, none⟩ : Addr).add 5) fun (x90 : pt0) =>
       L.call Pr n_spec_Config [(qa0 x90)] rI fun (x91 : Int) =>
       K (.int .i64 x91)) <|
      L.load eB6 ((⟨b4, 0, none⟩ : Addr).add 5) fun (x92 : Bool) =>
      L.ite x92 (
       L.load (.agg [.str, .str, .slice, .int .i64]) ((⟨b1, 0, none⟩ : Addr).add 11) fun (x93 : pt3) =>
       L.call Pr n_spec_Route [.agg #[.string x93.1, .string x93.2.1, .slice x93.2.2.1.a x93.2.2.1.len x93.2.2.1.cap, .int .i64 x93.2.2.2.1]] rI fun (x94 : Int) =>
       K (.int .i64 x94)) <|
      k25 (())) <|
     L.load eB6 ((⟨b4, 0, none⟩ : Addr).add 4) fun (x95 : Bool) =>
     L.ite x95 (
      L.load (.agg lf0) ((⟨b1, 0, none⟩ : Addr).add 5) fun (x96 : pt0) =>
      L.call Pr n_spec_Config [(qa0 x96)] rI fun (x97 : Int) =>
      K (.int .i64 x97)) <|
     L.load eB6 ((⟨b4, 0, none⟩ : Addr).add 5) fun (x98 : Bool) =>
     L.ite x98 (
      L.load (.agg [.str, .str, .slice, .int .i64]) ((⟨b1, 0, none⟩ : Addr).add 11) fun (x99 : pt3) =>
      L.call Pr n_spec_Route [.agg #[.string x99.1, .string x99.2.1, .slice x99.2.2.1.a x99.2.2.1.len x99.2.2.1.cap, .int .i64 x99.2.2.2.1]] rI fun (x100 : Int) =>
      K (.int .i64 x100)) <|
     k25 (())) <|
    L.load eB6 ((⟨b4, 0, none⟩ : Addr).add 3) fun (x101 : Bool) =>
    L.ite x101 (
     L.load eI6 ((⟨b1, 0, none⟩ : Addr).add 4) fun (x102 : Int) =>
     L.call Pr n_event_within [.int .i64 x102, .int .i64 0, .int .i64 2147483647] rB fun (x103 : Bool) =>
     L.ite (!x103) (
      K (.int .i64 2)) <|
     L.load eB6 ((⟨b4, 0, none⟩ : Addr).add 4) fun (x104 : Bool) =>
     L.ite x104 (
      L.load (.agg lf0) ((⟨b1, 0, none⟩ : Addr).add 5) fun (x105 : pt0) =>
      L.call Pr n_spec_Config [(qa0 x105)] rI fun (x106 : Int) =>
      K (.int .i64 x106)) <|
     L.load eB6 ((⟨b4, 0, none⟩ : Addr).add 5) fun (x107 : Bool) =>
     L.ite x107 (
      L.load (.agg [.str, .str, .slice, .int .i64]) ((⟨b1, 0, none⟩ : Addr).add 11) fun (x108 : pt3) =>
      L.call Pr n_spec_Route [.agg #[.string x108.1, .string x108.2.1, .slice x108.2.2.1.a x108.2.2.1.len x108.2.2.1.cap, .int .i64 x108.2.2.2.1]] rI fun (x109 : Int) =>
      K (.int .i64 x109)) <|
     k25 (())) <|
    L.load eB6 ((⟨b4, 0, none⟩ : Addr).add 4) fun (x110 : Bool) =>
    L.ite x110 (
     L.load (.agg lf0) ((⟨b1, 0, none⟩ : Addr).add 5) fun (x111 : pt0) =>
     L.call Pr n_spec_Config [(qa0 x111)] rI fun (x112 : Int) =>
     K (.int .i64 x112)) <|
    L.load eB6 ((⟨b4, 0, none⟩ : Addr).add 5) fun (x113 : Bool) =>
    L.ite x113 (
     L.load (.agg [.str, .str, .slice, .int .i64]) ((⟨b1, 0, none⟩ : Addr).add 11) fun (x114 : pt3) =>
     L.call Pr n_spec_Route [.agg #[.string x114.1, .string x114.2.1, .slice x114.2.2.1.a x114.2.2.1.len x114.2.2.1.cap, .int .i64 x114.2.2.2.1]] rI fun (x115 : Int) =>
     K (.int .i64 x115)) <|
    k25 (())) <|
   L.load eB6 ((⟨b4, 0, none⟩ : Addr).add 3) fun (x116 : Bool) =>
   L.ite x116 (
    L.load eI6 ((⟨b1, 0, none⟩ : Addr).add 4) fun (x117 : Int) =>
    L.call Pr n_event_within [.int .i64 x117, .int .i64 0, .int .i64 2147483647] rB fun (x118 : Bool) =>
    L.ite (!x118) (
     K (.int .i64 2)) <|
    L.load eB6 ((⟨b4, 0, none⟩ : Addr).add 4) fun (x119 : Bool) =>
    L.ite x119 (
     L.load (.agg lf0) ((⟨b1, 0, none⟩ : Addr).add 5) fun (x120 : pt0) =>
     L.call Pr n_spec_Config [(qa0 x120)] rI fun (x121 : Int) =>
     K (.int .i64 x121)) <|
    L.load eB6 ((⟨b4, 0, none⟩ : Addr).add 5) fun (x122 : Bool) =>
    L.ite x122 (
     L.load (.agg [.str, .str, .slice, .int .i64]) ((⟨b1, 0, none⟩ : Addr).add 11) fun (x123 : pt3) =>
     L.call Pr n_spec_Route [.agg #[.string x123.1, .string x123.2.1, .slice x123.2.2.1.a x123.2.2.1.len x123.2.2.1.cap, .int .i64 x123.2.2.2.1]] rI fun (x124 : Int) =>
     K (.int .i64 x124)) <|
    k25 (())) <|
   L.load eB6 ((⟨b4, 0, none⟩ : Addr).add 4) fun (x125 : Bool) =>
   L.ite x125 (
    L.load (.agg lf0) ((⟨b1, 0, none⟩ : Addr).add 5) fun (x126 : pt0) =>
    L.call Pr n_spec_Config [(qa0 x126)] rI fun (x127 : Int) =>
    K (.int .i64 x127)) <|
   L.load eB6 ((⟨b4, 0, none⟩ : Addr).add 5) fun (x128 : Bool) =>
   L.ite x128 (
    L.load (.agg [.str, .str, .slice, .int .i64]) ((⟨b1, 0, none⟩ : Addr).add 11) fun (x129 : pt3) =>
    L.call Pr n_spec_Route [.agg #[.string x129.1, .string x129.2.1, .slice x129.2.2.1.a x129.2.2.1.len x129.2.2.1.cap, .int .i64 x129.2.2.2.1]] rI fun (x130 : Int) =>
    K (.int .i64 x130)) <|
   k25 (())) <|
  L.load eB6 ((⟨b4, 0, none⟩ : Addr).add 1) fun (x131 : Bool) =>
  L.ite x131 (
   L.load (.agg lf1) (⟨b1, 0, none⟩) fun (x132 : pt1) =>
   L.call Pr n_event_named [(qa1 x132)] rB fun (x133 : Bool) =>
   L.ite (!x133) (
    K (.int .i64 1)) <|
   L.load eB6 ((⟨b4, 0, none⟩ : Addr).add 2) fun (x134 : Bool) =>
   L.ite x134 (
    L.load eS6 ((⟨b1, 0, none⟩ : Addr).add 2) fun (x135 : ByteArray) =>
    L.ite (!(x135.toList == s_.toList)) (
     L.load eS6 ((⟨b1, 0, none⟩ : Addr).add 2) fun (x136 : ByteArray) =>
     L.call Pr n_label_Tag [.string x136] rB fun (x137 : Bool) =>
     L.ite (!x137) (
      K (.int .i64 1)) <|
     L.load eB6 ((⟨b4, 0, none⟩ : Addr).add 3) fun (x138 : Bool) =>
     L.ite x138 (
      L.load eI6 ((⟨b1, 0, none⟩ : Addr).add 4) fun (x139 : Int) =>
      L.call Pr n_event_within [.int .i64 x139, .int .i64 0, .int .i64 2147483647] rB fun (x140 : Bool) =>
      L.ite (!x140) (
       K (.int .i64 2)) <|
      L.load eB6 ((⟨b4, 0, none⟩ : Addr).add 4) fun (x141 : Bool) =>
      L.ite x141 (
       L.load (.agg lf0) ((⟨b1, 0, none⟩ : Addr).add 5) fun (x142 : pt0) =>
       L.call Pr n_spec_Config [(qa0 x142)] rI fun (x143 : Int) =>
       K (.int .i64 x143)) <|
      L.load eB6 ((⟨b4, 0, none⟩ : Addr).add 5) fun (x144 : Bool) =>
      L.ite x144 (
       L.load (.agg [.str, .str, .slice, .int .i64]) ((⟨b1, 0, none⟩ : Addr).add 11) fun (x145 : pt3) =>
       L.call Pr n_spec_Route [.agg #[.string x145.1, .string x145.2.1, .slice x145.2.2.1.a x145.2.2.1.len x145.2.2.1.cap, .int .i64 x145.2.2.2.1]] rI fun (x146 : Int) =>
       K (.int .i64 x146)) <|
      k25 (())) <|
     L.load eB6 ((⟨b4, 0, none⟩ : Addr).add 4) fun (x147 : Bool) =>
     L.ite x147 (
      L.load (.agg lf0) ((⟨b1, 0, none⟩ : Addr).add 5) fun (x148 : pt0) =>
      L.call Pr n_spec_Config [(qa0 x148)] rI fun (x149 : Int) =>
      K (.int .i64 x149)) <|
     L.load eB6 ((⟨b4, 0, none⟩ : Addr).add 5) fun (x150 : Bool) =>
     L.ite x150 (
      L.load (.agg [.str, .str, .slice, .int .i64]) ((⟨b1, 0, none⟩ : Addr).add 11) fun (x151 : pt3) =>
      L.call Pr n_spec_Route [.agg #[.string x151.1, .string x151.2.1, .slice x151.2.2.1.a x151.2.2.1.len x151.2.2.1.cap, .int .i64 x151.2.2.2.1]] rI fun (x152 : Int) =>
      K (.int .i64 x152)) <|
     k25 (())) <|
    L.load eB6 ((⟨b4, 0, none⟩ : Addr).add 3) fun (x153 : Bool) =>
    L.ite x153 (
     L.load eI6 ((⟨b1, 0, none⟩ : Addr).add 4) fun (x154 : Int) =>
     L.call Pr n_event_within [.int .i64 x154, .int .i64 0, .int .i64 2147483647] rB fun (x155 : Bool) =>
     L.ite (!x155) (
      K (.int .i64 2)) <|
     L.load eB6 ((⟨b4, 0, none⟩ : Addr).add 4) fun (x156 : Bool) =>
     L.ite x156 (
      L.load (.agg lf0) ((⟨b1, 0, none⟩ : Addr).add 5) fun (x157 : pt0) =>
      L.call Pr n_spec_Config [(qa0 x157)] rI fun (x158 : Int) =>
      K (.int .i64 x158)) <|
     L.load eB6 ((⟨b4, 0, none⟩ : Addr).add 5) fun (x159 : Bool) =>
     L.ite x159 (
      L.load (.agg [.str, .str, .slice, .int .i64]) ((⟨b1, 0, none⟩ : Addr).add 11) fun (x160 : pt3) =>
      L.call Pr n_spec_Route [.agg #[.string x160.1, .string x160.2.1, .slice x160.2.2.1.a x160.2.2.1.len x160.2.2.1.cap, .int .i64 x160.2.2.2.1]] rI fun (x161 : Int) =>
      K (.int .i64 x161)) <|
     k25 (())) <|
    L.load eB6 ((⟨b4, 0, none⟩ : Addr).add 4) fun (x162 : Bool) =>
    L.ite x162 (
     L.load (.agg lf0) ((⟨b1, 0, none⟩ : Addr).add 5) fun (x163 : pt0) =>
     L.call Pr n_spec_Config [(qa0 x163)] rI fun (x164 : Int) =>
     K (.int .i64 x164)) <|
    L.load eB6 ((⟨b4, 0, none⟩ : Addr).add 5) fun (x165 : Bool) =>
    L.ite x165 (
     L.load (.agg [.str, .str, .slice, .int .i64]) ((⟨b1, 0, none⟩ : Addr).add 11) fun (x166 : pt3) =>
     L.call Pr n_spec_Route [.agg #[.string x166.1, .string x166.2.1, .slice x166.2.2.1.a x166.2.2.1.len x166.2.2.1.cap, .int .i64 x166.2.2.2.1]] rI fun (x167 : Int) =>
     K (.int .i64 x167)) <|
    k25 (())) <|
   L.load eB6 ((⟨b4, 0, none⟩ : Addr).add 3) fun (x168 : Bool) =>
   L.ite x168 (
    L.load eI6 ((⟨b1, 0, none⟩ : Addr).add 4) fun (x169 : Int) =>
    L.call Pr n_event_within [.int .i64 x169, .int .i64 0, .int .i64 2147483647] rB fun (x170 : Bool) =>
    L.ite (!x170) (
     K (.int .i64 2)) <|
    L.load eB6 ((⟨b4, 0, none⟩ : Addr).add 4) fun (x171 : Bool) =>
    L.ite x171 (
     L.load (.agg lf0) ((⟨b1, 0, none⟩ : Addr).add 5) fun (x172 : pt0) =>
     L.call Pr n_spec_Config [(qa0 x172)] rI fun (x173 : Int) =>
     K (.int .i64 x173)) <|
    L.load eB6 ((⟨b4, 0, none⟩ : Addr).add 5) fun (x174 : Bool) =>
    L.ite x174 (
     L.load (.agg [.str, .str, .slice, .int .i64]) ((⟨b1, 0, none⟩ : Addr).add 11) fun (x175 : pt3) =>
     L.call Pr n_spec_Route [.agg #[.string x175.1, .string x175.2.1, .slice x175.2.2.1.a x175.2.2.1.len x175.2.2.1.cap, .int .i64 x175.2.2.2.1]] rI fun (x176 : Int) =>
     K (.int .i64 x176)) <|
    k25 (())) <|
   L.load eB6 ((⟨b4, 0, none⟩ : Addr).add 4) fun (x177 : Bool) =>
   L.ite x177 (
    L.load (.agg lf0) ((⟨b1, 0, none⟩ : Addr).add 5) fun (x178 : pt0) =>
    L.call Pr n_spec_Config [(qa0 x178)] rI fun (x179 : Int) =>
    K (.int .i64 x179)) <|
   L.load eB6 ((⟨b4, 0, none⟩ : Addr).add 5) fun (x180 : Bool) =>
   L.ite x180 (
    L.load (.agg [.str, .str, .slice, .int .i64]) ((⟨b1, 0, none⟩ : Addr).add 11) fun (x181 : pt3) =>
    L.call Pr n_spec_Route [.agg #[.string x181.1, .string x181.2.1, .slice x181.2.2.1.a x181.2.2.1.len x181.2.2.1.cap, .int .i64 x181.2.2.2.1]] rI fun (x182 : Int) =>
    K (.int .i64 x182)) <|
   k25 (())) <|
  L.load eB6 ((⟨b4, 0, none⟩ : Addr).add 2) fun (x183 : Bool) =>
  L.ite x183 (
   L.load eS6 ((⟨b1, 0, none⟩ : Addr).add 2) fun (x184 : ByteArray) =>
   L.ite (!(x184.toList == s_.toList)) (
    L.load eS6 ((⟨b1, 0, none⟩ : Addr).add 2) fun (x185 : ByteArray) =>
    L.call Pr n_label_Tag [.string x185] rB fun (x186 : Bool) =>
    L.ite (!x186) (
     K (.int .i64 1)) <|
    L.load eB6 ((⟨b4, 0, none⟩ : Addr).add 3) fun (x187 : Bool) =>
    L.ite x187 (
     L.load eI6 ((⟨b1, 0, none⟩ : Addr).add 4) fun (x188 : Int) =>
     L.call Pr n_event_within [.int .i64 x188, .int .i64 0, .int .i64 2147483647] rB fun (x189 : Bool) =>
     L.ite (!x189) (
      K (.int .i64 2)) <|
     L.load eB6 ((⟨b4, 0, none⟩ : Addr).add 4) fun (x190 : Bool) =>
     L.ite x190 (
      L.load (.agg lf0) ((⟨b1, 0, none⟩ : Addr).add 5) fun (x191 : pt0) =>
      L.call Pr n_spec_Config [(qa0 x191)] rI fun (x192 : Int) =>
      K (.int .i64 x192)) <|
     L.load eB6 ((⟨b4, 0, none⟩ : Addr).add 5) fun (x193 : Bool) =>
     L.ite x193 (
      L.load (.agg [.str, .str, .slice, .int .i64]) ((⟨b1, 0, none⟩ : Addr).add 11) fun (x194 : pt3) =>
      L.call Pr n_spec_Route [.agg #[.string x194.1, .string x194.2.1, .slice x194.2.2.1.a x194.2.2.1.len x194.2.2.1.cap, .int .i64 x194.2.2.2.1]] rI fun (x195 : Int) =>
      K (.int .i64 x195)) <|
     k25 (())) <|
    L.load eB6 ((⟨b4, 0, none⟩ : Addr).add 4) fun (x196 : Bool) =>
    L.ite x196 (
     L.load (.agg lf0) ((⟨b1, 0, none⟩ : Addr).add 5) fun (x197 : pt0) =>
     L.call Pr n_spec_Config [(qa0 x197)] rI fun (x198 : Int) =>
     K (.int .i64 x198)) <|
    L.load eB6 ((⟨b4, 0, none⟩ : Addr).add 5) fun (x199 : Bool) =>
    L.ite x199 (
     L.load (.agg [.str, .str, .slice, .int .i64]) ((⟨b1, 0, none⟩ : Addr).add 11) fun (x200 : pt3) =>
     L.call Pr n_spec_Route [.agg #[.string x200.1, .string x200.2.1, .slice x200.2.2.1.a x200.2.2.1.len x200.2.2.1.cap, .int .i64 x200.2.2.2.1]] rI fun (x201 : Int) =>
     K (.int .i64 x201)) <|
    k25 (())) <|
   L.load eB6 ((⟨b4, 0, none⟩ : Addr).add 3) fun (x202 : Bool) =>
   L.ite x202 (
    L.load eI6 ((⟨b1, 0, none⟩ : Addr).add 4) fun (x203 : Int) =>
    L.call Pr n_event_within [.int .i64 x203, .int .i64 0, .int .i64 2147483647] rB fun (x204 : Bool) =>
    L.ite (!x204) (
     K (.int .i64 2)) <|
    L.load eB6 ((⟨b4, 0, none⟩ : Addr).add 4) fun (x205 : Bool) =>
    L.ite x205 (
     L.load (.agg lf0) ((⟨b1, 0, none⟩ : Addr).add 5) fun (x206 : pt0) =>
     L.call Pr n_spec_Config [(qa0 x206)] rI fun (x207 : Int) =>
     K (.int .i64 x207)) <|
    L.load eB6 ((⟨b4, 0, none⟩ : Addr).add 5) fun (x208 : Bool) =>
    L.ite x208 (
     L.load (.agg [.str, .str, .slice, .int .i64]) ((⟨b1, 0, none⟩ : Addr).add 11) fun (x209 : pt3) =>
     L.call Pr n_spec_Route [.agg #[.string x209.1, .string x209.2.1, .slice x209.2.2.1.a x209.2.2.1.len x209.2.2.1.cap, .int .i64 x209.2.2.2.1]] rI fun (x210 : Int) =>
     K (.int .i64 x210)) <|
    k25 (())) <|
   L.load eB6 ((⟨b4, 0, none⟩ : Addr).add 4) fun (x211 : Bool) =>
   L.ite x211 (
    L.load (.agg lf0) ((⟨b1, 0, none⟩ : Addr).add 5) fun (x212 : pt0) =>
    L.call Pr n_spec_Config [(qa0 x212)] rI fun (x213 : Int) =>
    K (.int .i64 x213)) <|
   L.load eB6 ((⟨b4, 0, none⟩ : Addr).add 5) fun (x214 : Bool) =>
   L.ite x214 (
    L.load (.agg [.str, .str, .slice, .int .i64]) ((⟨b1, 0, none⟩ : Addr).add 11) fun (x215 : pt3) =>
    L.call Pr n_spec_Route [.agg #[.string x215.1, .string x215.2.1, .slice x215.2.2.1.a x215.2.2.1.len x215.2.2.1.cap, .int .i64 x215.2.2.2.1]] rI fun (x216 : Int) =>
    K (.int .i64 x216)) <|
   k25 (())) <|
  L.load eB6 ((⟨b4, 0, none⟩ : Addr).add 3) fun (x217 : Bool) =>
  L.ite x217 (
   L.load eI6 ((⟨b1, 0, none⟩ : Addr).add 4) fun (x218 : Int) =>
   L.call Pr n_event_within [.int .i64 x218, .int .i64 0, .int .i64 2147483647] rB fun (x219 : Bool) =>
   L.ite (!x219) (
    K (.int .i64 2)) <|
   L.load eB6 ((⟨b4, 0, none⟩ : Addr).add 4) fun (x220 : Bool) =>
   L.ite x220 (
    L.load (.agg lf0) ((⟨b1, 0, none⟩ : Addr).add 5) fun (x221 : pt0) =>
    L.call Pr n_spec_Config [(qa0 x221)] rI fun (x222 : Int) =>
    K (.int .i64 x222)) <|
   L.load eB6 ((⟨b4, 0, none⟩ : Addr).add 5) fun (x223 : Bool) =>
   L.ite x223 (
    L.load (.agg [.str, .str, .slice, .int .i64]) ((⟨b1, 0, none⟩ : Addr).add 11) fun (x224 : pt3) =>
    L.call Pr n_spec_Route [.agg #[.string x224.1, .string x224.2.1, .slice x224.2.2.1.a x224.2.2.1.len x224.2.2.1.cap, .int .i64 x224.2.2.2.1]] rI fun (x225 : Int) =>
    K (.int .i64 x225)) <|
   k25 (())) <|
  L.load eB6 ((⟨b4, 0, none⟩ : Addr).add 4) fun (x226 : Bool) =>
  L.ite x226 (
   L.load (.agg lf0) ((⟨b1, 0, none⟩ : Addr).add 5) fun (x227 : pt0) =>
   L.call Pr n_spec_Config [(qa0 x227)] rI fun (x228 : Int) =>
   K (.int .i64 x228)) <|
  L.load eB6 ((⟨b4, 0, none⟩ : Addr).add 5) fun (x229 : Bool) =>
  L.ite x229 (
   L.load (.agg [.str, .str, .slice, .int .i64]) ((⟨b1, 0, none⟩ : Addr).add 11) fun (x230 : pt3) =>
   L.call Pr n_spec_Route [.agg #[.string x230.1, .string x230.2.1, .slice x230.2.2.1.a x230.2.2.1.len x230.2.2.1.cap, .int .i64 x230.2.2.2.1]] rI fun (x231 : Int) =>
   K (.int .i64 x231)) <|
  k25 (())) fun z26 =>
 K (.int .i64 0)
theorem C_event_Check (p0 : ht1) {K : Value → PT} {w : World} (h : F_event_Check p0 K w) : CT Pr n_event_Check [(.ag (qc1 p0) : SV).toV] K w :=
 C_of (fn := Tryz.f26) (an := A_event_Check) (args := [.ag (qc1 p0)]) (by kernel_rfl) (by kernel_rfl) (by kernel_rfl) h
def A_system_line_string : Ann := (.seq .auto (.seq .auto (.seq (.seq .auto (.one [(5, (.one (.slice))), (14, (.one (.int .i64)))] (.seq .auto (.seq .auto (.seq .auto .auto (some [(5, (.one (.slice)))])) none) none)) none) .auto none) none) none)
def F_system_line_string (p0 : ByteArray) (p1 : Sl) (K : Value → PT) : PT :=
 L.new [.string p0] T_string fun b1 =>
 L.loop (Y := Sl × Int × Unit) (⟨some ⟨b1, 0, none⟩, 1, 1⟩, 0, ()) fun y2 again3 =>
 L.ite (decide (y2.2.1 < ((p1.len : Nat) : Int))) (
  L.join (Y := Sl × Unit) (fun k4 =>
   L.idx p1.a y2.2.1 p1.len 1 fun a6 =>
   L.load eS6 a6 fun (x7 : ByteArray) =>
   L.ite true (
    L.new [.string x7] T_string fun b8 =>
    L.sem Pr (.one (.one .slice)) (Builtin.append_ #[T_s_string, T_s_string] T_s_string #[.slice y2.1.a y2.1.len y2.1.cap, .slice (some ⟨b8, 0, none⟩) 1 1]) fun (s9 : Sl) =>
    k4 (⟨s9.a, s9.len, s9.cap⟩, ())) <|
   L.semR Pr (.tup [eI6, .one .bool]) (Instr.typeAssert (.iface T_string (.string x7)) T_interface T_int true) fun (x10 : Int × Bool × Unit) =>
   L.ite x10.2.1 (
    L.call Pr n_strconv_Itoa [.int .i64 x10.1] rS fun (x11 : ByteArray) =>
    L.new [.string x11] T_string fun b12 =>
    L.sem Pr (.one (.one .slice)) (Builtin.append_ #[T_s_string, T_s_string] T_s_string #[.slice y2.1.a y2.1.len y2.1.cap, .slice (some ⟨b12, 0, none⟩) 1 1]) fun (s13 : Sl) =>
    k4 (⟨s13.a, s13.len, s13.cap⟩, ())) <|
   k4 (⟨y2.1.a, y2.1.len, y2.1.cap⟩, ())) fun z5 =>
  again3 (⟨z5.1.a, z5.1.len, z5.1.cap⟩, IntKind.wrap .i64 (y2.2.1 + 1), ())) <|
 L.call Pr n_strings_Join [.slice y2.1.a y2.1.len y2.1.cap, .string s___b5c5] rS fun (x14 : ByteArray) =>
 K (.string x14)
theorem C_system_line_string (p0 : ByteArray) (p1 : Sl) {K : Value → PT} {w : World} (h : F_system_line_string p0 p1 K w) : CT Pr n_system_line_string [.string p0, .slice p1.a p1.len p1.cap] K w :=
 C_of (fn := Tryz.f27) (an := A_system_line_string) (args := [.v (.string p0), .v (.slice p1.a p1.len p1.cap)]) (by kernel_rfl) (by kernel_rfl) (by kernel_rfl) h
def F_api_Errno_Error (p0 : Int) (K : Value → PT) : PT :=
 L.ite (decide (p0 ≤ 6)) (
  L.call Pr n_api_early [.int .i64 p0] rS fun (x1 : ByteArray) =>
  K (.string x1)) <|
 L.call Pr n_api_late [.int .i64 p0] rS fun (x2 : ByteArray) =>
 K (.string x2)
theorem C_api_Errno_Error (p0 : Int) {K : Value → PT} {w : World} (h : F_api_Errno_Error p0 K w) : CT Pr n_api_Errno_Error [.int .i64 p0] K w :=
 C_of (fn := Tryz.f28) (an := .auto) (args := [.v (.int .i64 p0)]) (by kernel_rfl) (by kernel_rfl) (by kernel_rfl) h
def F_system_System_config (p0 : Option Addr) (p1 : ht1) (K : Value → PT) : PT :=
 L.new [.int .i64 p1.1, .string p1.2.1, .string p1.2.2.1, .int .i64 p1.2.2.2.1, .int .i64 p1.2.2.2.2.1, .string p1.2.2.2.2.2.1, .int .i64 p1.2.2.2.2.2.2.1, .int .i64 p1.2.2.2.2.2.2.2.1, .int .i64 p1.2.2.2.2.2.2.2.2.1, .int .i64 p1.2.2.2.2.2.2.2.2.2.1, .int .i64 p1.2.2.2.2.2.2.2.2.2.2.1, .string p1.2.2.2.2.2.2.2.2.2.2.2.1, .string p1.2.2.2.2.2.2.2.2.2.2.2.2.1, .slice p1.2.2.2.2.2.2.2.2.2.2.2.2.2.1.a p1.2.2.2.2.2.2.2.2.2.2.2.2.2.1.len p1.2.2.2.2.2.2.2.2.2.2.2.2.2.1.cap, .int .i64 p1.2.2.2.2.2.2.2.2.2.2.2.2.2.2.1] T_api_Event fun b1 =>
 L.draw <|
 L.nonnil p0 fun a2 =>
 L.load eP6 (a2.add 0) fun (x3 : Option Addr) =>
 L.load (.agg lf0) ((⟨b1, 0, none⟩ : Addr).add 5) fun (x4 : pt0) =>
 L.load eI6 ((⟨b1, 0, none⟩ : Addr).add 3) fun (x5 : Int) =>
 L.call Pr n_shelf_Shelf_PutConfig [.pointer x3, (qa0 x4), .int .i64 x5] (.tup [eI6, eI6]) fun (x6 : Int × Int × Unit) =>
 L.load eS6 (((⟨b1, 0, none⟩ : Addr).add 5).add 0) fun (x7 : ByteArray) =>
 L.call Pr n_system_put [.string s_config, .string x7, .int .i64 x6.1, .int .i64 x6.2.1] rL fun (x8 : Sl) =>
 K (.slice x8.a x8.len x8.cap)
theorem C_system_System_config (p0 : Option Addr) (p1 : ht1) {K : Value → PT} {w : World} (h : F_system_System_config p0 p1 K w) : CT Pr n_system_System_config [.pointer p0, (.ag (qc1 p1) : SV).toV] K w :=
 C_of (fn := Tryz.f29) (an := .auto) (args := [.v (.pointer p0), .ag (qc1 p1)]) (by kernel_rfl) (by kernel_rfl) (by kernel_rfl) h
theorem E_system_System_config : Enters Pr n_system_System_config := enters_of_B (by kernel_rfl)
def F_system_System_route (p0 : Option Addr) (p1 : ht1) (K : Value → PT) : PT :=
 L.new [.int .i64 p1.1, .string p1.2.1, .string p1.2.2.1, .int .i64 p1.2.2.2.1, .int .i64 p1.2.2.2.2.1, .string p1.2.2.2.2.2.1, .int .i64 p1.2.2.2.2.2.2.1, .int .i64 p1.2.2.2.2.2.2.2.1, .int .i64 p1.2.2.2.2.2.2.2.2.1, .int .i64 p1.2.2.2.2.2.2.2.2.2.1, .int .i64 p1.2.2.2.2.2.2.2.2.2.2.1, .string p1.2.2.2.2.2.2.2.2.2.2.2.1, .string p1.2.2.2.2.2.2.2.2.2.2.2.2.1, .slice p1.2.2.2.2.2.2.2.2.2.2.2.2.2.1.a p1.2.2.2.2.2.2.2.2.2.2.2.2.2.1.len p1.2.2.2.2.2.2.2.2.2.2.2.2.2.1.cap, .int .i64 p1.2.2.2.2.2.2.2.2.2.2.2.2.2.2.1] T_api_Event fun b1 =>
 L.draw <|
 L.nonnil p0 fun a2 =>
 L.load eP6 (a2.add 0) fun (x3 : Option Addr) =>
 L.load (.agg [.str, .str, .slice, .int .i64]) ((⟨b1, 0, none⟩ : Addr).add 11) fun (x4 : pt3) =>
 L.load eI6 ((⟨b1, 0, none⟩ : Addr).add 3) fun (x5 : Int) =>
 L.call Pr n_shelf_Shelf_PutRoute [.pointer x3, .agg #[.string x4.1, .string x4.2.1, .slice x4.2.2.1.a x4.2.2.1.len x4.2.2.1.cap, .int .i64 x4.2.2.2.1], .int .i64 x5] (.tup [eI6, eI6]) fun (x6 : Int × Int × Unit) =>
 L.load eS6 (((⟨b1, 0, none⟩ : Addr).add 11).add 0) fun (x7 : ByteArray) =>
 L.call Pr n_system_put [.string s_route, .string x7, .int .i64 x6.1, .int .i64 x6.2.1] rL fun (x8 : Sl) =>
 K (.slice x8.a x8.len x8.cap)
theorem C_system_System_route (p0 : Option Addr) (p1 : ht1) {K : Value → PT} {w : World} (h : F_system_System_route p0 p1 K w) : CT Pr n_system_System_route [.pointer p0, (.ag (qc1 p1) : SV).toV] K w :=
 C_of (fn := Tryz.f30) (an := .auto) (args := [.v (.pointer p0), .ag (qc1 p1)]) (by kernel_rfl) (by kernel_rfl) (by kernel_rfl) h
theorem E_system_System_route : Enters Pr n_system_System_route := enters_of_B (by kernel_rfl)
def A_system_System_up : Ann := (.seq .auto (.seq .auto (.seq .auto (.seq .auto (.seq .auto .auto (some [(7, (.one (.slice)))])) none) none) none) none)
def F_system_System_up (p0 : Option Addr) (p1 : ht1) (K : Value → PT) : PT :=
 L.new [.int .i64 p1.1, .string p1.2.1, .string p1.2.2.1, .int .i64 p1.2.2.2.1, .int .i64 p1.2.2.2.2.1, .string p1.2.2.2.2.2.1, .int .i64 p1.2.2.2.2.2.2.1, .int .i64 p1.2.2.2.2.2.2.2.1, .int .i64 p1.2.2.2.2.2.2.2.2.1, .int .i64 p1.2.2.2.2.2.2.2.2.2.1, .int .i64 p1.2.2.2.2.2.2.2.2.2.2.1, .string p1.2.2.2.2.2.2.2.2.2.2.2.1, .string p1.2.2.2.2.2.2.2.2.2.2.2.2.1, .slice p1.2.2.2.2.2.2.2.2.2.2.2.2.2.1.a p1.2.2.2.2.2.2.2.2.2.2.2.2.2.1.len p1.2.2.2.2.2.2.2.2.2.2.2.2.2.1.cap, .int .i64 p1.2.2.2.2.2.2.2.2.2.2.2.2.2.2.1] T_api_Event fun b1 =>
 L.draw <|
 L.nonnil p0 fun a2 =>
 L.load eP6 (a2.add 3) fun (x3 : Option Addr) =>
 L.load eI6 ((⟨b1, 0, none⟩ : Addr).add 3) fun (x4 : Int) =>
 L.call Pr n_fleet_Fleet_Up [.pointer x3, .int .i64 x4] rI fun (x5 : Int) =>
 L.ite (x5 != 0) (
  L.call Pr n_system_refused [.int .i64 x5] rL fun (x6 : Sl) =>
  K (.slice x6.a x6.len x6.cap)) <|
 L.draw <|
 L.nonnil p0 fun a7 =>
 L.load eP6 (a7.add 3) fun (x8 : Option Addr) =>
 L.load eI6 ((⟨b1, 0, none⟩ : Addr).add 3) fun (x9 : Int) =>
 L.call Pr n_fleet_Fleet_Of [.pointer x8, .int .i64 x9] rS fun (x10 : ByteArray) =>
 L.load eI6 ((⟨b1, 0, none⟩ : Addr).add 3) fun (x11 : Int) =>
 L.new [.int .i64 x11] T_int fun b12 =>
 L.call Pr n_system_line_int [.string s_up, .slice (some ⟨b12, 0, none⟩) 1 1] rS fun (x13 : ByteArray) =>
 L.new [.string x13] T_string fun b14 =>
 L.join (Y := Sl × Unit) (fun k15 =>
  L.nonnil p0 fun a17 =>
  L.load eP6 (a17.add 1) fun (x18 : Option Addr) =>
  L.call Pr n_stamp_Book_Proved [.pointer x18, .string x10] rB fun (x19 : Bool) =>
  L.ite (!x19) (
   L.nonnil p0 fun a20 =>
   L.load eP6 (a20.add 1) fun (x21 : Option Addr) =>
   L.call Pr n_stamp_Book_Prove [.pointer x21, .string x10] rI fun (x22 : Int) =>
   L.new [.string x10] T_string fun b23 =>
   L.call Pr n_system_line_string [.string s_proved, .slice (some ⟨b23, 0, none⟩) 1 1] rS fun (x24 : ByteArray) =>
   L.new [.string x24] T_string fun b25 =>
   L.sem Pr (.one (.one .slice)) (Builtin.append_ #[T_s_string, T_s_string] T_s_string #[.slice (some ⟨b14, 0, none⟩) 1 1, .slice (some ⟨b25, 0, none⟩) 1 1]) fun (s26 : Sl) =>
   k15 (⟨s26.a, s26.len, s26.cap⟩, ())) <|
  k15 (⟨some ⟨b14, 0, none⟩, 1, 1⟩, ())) fun z16 =>
 L.nonnil p0 fun a27 =>
 L.load eP6 (a27.add 4) fun (x28 : Option Addr) =>
 L.call Pr n_gate_Gate_Flow [.pointer x28, .string x10] rL fun (x29 : Sl) =>
 L.call Pr n_system_told [.slice x29.a x29.len x29.cap, .slice z16.1.a z16.1.len z16.1.cap] rL fun (x30 : Sl) =>
 K (.slice x30.a x30.len x30.cap)
theorem C_system_System_up (p0 : Option Addr) (p1 : ht1) {K : Value → PT} {w : World} (h : F_system_System_up p0 p1 K w) : CT Pr n_system_System_up [.pointer p0, (.ag (qc1 p1) : SV).toV] K w :=
 C_of (fn := Tryz.f34) (an := A_system_System_up) (args := [.v (.pointer p0), .ag (qc1 p1)]) (by kernel_rfl) (by kernel_rfl) (by kernel_rfl) h
theorem E_system_System_up : Enters Pr n_system_System_up := enters_of_B (by kernel_rfl)
def A_system_System_tick : Ann := (.seq .auto (.seq .auto (.seq .auto (.seq .auto (.seq (.seq .auto (.one [(33, (.one (.int .i64)))] .auto) none) .auto none) none) none) none) none)
def F_system_System_tick (p0 : Option Addr) (p1 : ht1) (K : Value → PT) : PT :=
 L.new [.int .i64 p1.1, .string p1.2.1, .string p1.2.2.1, .int .i64 p1.2.2.2.1, .int .i64 p1.2.2.2.2.1, .string p1.2.2.2.2.2.1, .int .i64 p1.2.2.2.2.2.2.1, .int .i64 p1.2.2.2.2.2.2.2.1, .int .i64 p1.2.2.2.2.2.2.2.2.1, .int .i64 p1.2.2.2.2.2.2.2.2.2.1, .int .i64 p1.2.2.2.2.2.2.2.2.2.2.1, .string p1.2.2.2.2.2.2.2.2.2.2.2.1, .string p1.2.2.2.2.2.2.2.2.2.2.2.2.1, .slice p1.2.2.2.2.2.2.2.2.2.2.2.2.2.1.a p1.2.2.2.2.2.2.2.2.2.2.2.2.2.1.len p1.2.2.2.2.2.2.2.2.2.2.2.2.2.1.cap, .int .i64 p1.2.2.2.2.2.2.2.2.2.2.2.2.2.2.1] T_api_Event fun b1 =>
 L.nonnil p0 fun a2 =>
 L.load eI6 (a2.add 6) fun (x3 : Int) =>
 L.ite (decide (x3 ≥ 1048576)) (
  L.call Pr n_system_refused [.int .i64 9] rL fun (x4 : Sl) =>
  K (.slice x4.a x4.len x4.cap)) <|
 L.nonnil p0 fun a5 =>
 L.load eI6 (a5.add 6) fun (x6 : Int) =>
 L.nonnil p0 fun a7 =>
 L.store (a7.add 6) [.int .i64 (IntKind.wrap .i64 (x6 + 1))] <|
 L.draw <|
 L.nonnil p0 fun a8 =>
 L.load eP6 (a8.add 4) fun (x9 : Option Addr) =>
 L.nonnil p0 fun a10 =>
 L.load eI6 (a10.add 6) fun (x11 : Int) =>
 L.call Pr n_gate_Gate_Tick [.pointer x9, .int .i64 x11] rL fun (x12 : Sl) =>
 L.call Pr n_system_System_Revisions [.pointer p0] rL fun (x13 : Sl) =>
 L.loop (Y := Int × Unit) (0, ()) fun y14 again15 =>
 L.ite (decide (y14.1 < ((x13.len : Nat) : Int))) (
  L.idx x13.a y14.1 x13.len 1 fun a16 =>
  L.load eS6 a16 fun (x17 : ByteArray) =>
  L.draw <|
  L.nonnil p0 fun a18 =>
  L.load (.one (.map)) (a18.add 5) fun (x19 : Option Nat) =>
  L.semR Pr rP (Instr.lookup T_system_things_p_system_beside (.map x19) (.string x17) false) fun (x20 : Option Addr) =>
  L.nonnil x20 fun a21 =>
  L.load eP6 (a21.add 0) fun (x22 : Option Addr) =>
  L.nonnil p0 fun a23 =>
  L.load eP6 (a23.add 4) fun (x24 : Option Addr) =>
  L.call Pr n_gate_Gate_Busy [.pointer x24, .string x17] rI fun (x25 : Int) =>
  L.chk (a21.add 0) [.pointer x22] <|
  L.chkSem Pr (Instr.lookup T_system_things_p_system_beside (.map x19) (.string x17) false) (.pointer x20) <|
  L.chk (a18.add 5) [.map x19] <|
  L.call Pr n_gauge_Gauge_Add [.pointer x22, .int .i64 x25] (.tup []) fun (x26 : Unit) =>
  again15 (IntKind.wrap .i64 (y14.1 + 1), ())) <|
 L.nonnil p0 fun a27 =>
 L.load eI6 (a27.add 6) fun (x28 : Int) =>
 L.new [.int .i64 x28] T_int fun b29 =>
 L.call Pr n_system_line_int [.string s_tick, .slice (some ⟨b29, 0, none⟩) 1 1] rS fun (x30 : ByteArray) =>
 L.new [.string x30] T_string fun b31 =>
 L.call Pr n_system_told [.slice x12.a x12.len x12.cap, .slice (some ⟨b31, 0, none⟩) 1 1] rL fun (x32 : Sl) =>
 K (.slice x32.a x32.len x32.cap)
theorem C_system_System_tick (p0 : Option Addr) (p1 : ht1) {K : Value → PT} {w : World} (h : F_system_System_tick p0 p1 K w) : CT Pr n_system_System_tick [.pointer p0, (.ag (qc1 p1) : SV).toV] K w :=
 C_of (fn := Tryz.f36) (an := A_system_System_tick) (args := [.v (.pointer p0), .ag (qc1 p1)]) (by kernel_rfl) (by kernel_rfl) (by kernel_rfl) h
theorem E_system_System_tick : Enters Pr n_system_System_tick := enters_of_B (by kernel_rfl)
def A_system_System_stamp : Ann := (.seq .auto (.seq (.one [(5, (.one (.adr))), (7, (.one (.int .i64))), (8, (.one (.bool)))] .auto) .auto none) none)
def F_system_System_stamp (p0 : Option Addr) (p1 : ht1) (K : Value → PT) : PT :=
 L.new [.int .i64 p1.1, .string p1.2.1, .string p1.2.2.1, .int .i64 p1.2.2.2.1, .int .i64 p1.2.2.2.2.1, .string p1.2.2.2.2.2.1, .int .i64 p1.2.2.2.2.2.2.1, .int .i64 p1.2.2.2.2.2.2.2.1, .int .i64 p1.2.2.2.2.2.2.2.2.1, .int .i64 p1.2.2.2.2.2.2.2.2.2.1, .int .i64 p1.2.2.2.2.2.2.2.2.2.2.1, .string p1.2.2.2.2.2.2.2.2.2.2.2.1, .string p1.2.2.2.2.2.2.2.2.2.2.2.2.1, .slice p1.2.2.2.2.2.2.2.2.2.2.2.2.2.1.a p1.2.2.2.2.2.2.2.2.2.2.2.2.2.1.len p1.2.2.2.2.2.2.2.2.2.2.2.2.2.1.cap, .int .i64 p1.2.2.2.2.2.2.2.2.2.2.2.2.2.2.1] T_api_Event fun b1 =>
 L.join (Y := Addr × Int × Bool × Unit) (fun k2 =>
  L.draw <|
  L.nonnil p0 fun a4 =>
  L.load eP6 (a4.add 0) fun (x5 : Option Addr) =>
  L.load eS6 ((⟨b1, 0, none⟩ : Addr).add 1) fun (x6 : ByteArray) =>
  L.alts [(
    L.call Pr n_shelf_Shelf_Config [.pointer x5, .string x6] (.tup [(.agg lf0), eI6, eI6, eB6]) fun (x7 : pt4) =>
    L.new [.string s_, .int .i64 0, .int .i64 0, .int .i64 0, .int .i64 0, .int .i64 0] T_api_Config fun b8 =>
    L.chk ((⟨b1, 0, none⟩ : Addr).add 1) [.string x6] <|
    L.chk (a4.add 0) [.pointer x5] <|
    L.store (⟨b8, 0, none⟩) [.string x7.1.1, .int .i64 x7.1.2.1, .int .i64 x7.1.2.2.1, .int .i64 x7.1.2.2.2.1, .int .i64 x7.1.2.2.2.2.1, .int .i64 x7.1.2.2.2.2.2.1] <|
    k2 (⟨b8, 0, none⟩, x7.2.2.1, x7.2.2.2.1, ())),(
    L.new [.string s_, .int .i64 0, .int .i64 0, .int .i64 0, .int .i64 0, .int .i64 0] T_api_Config fun b9 =>
    L.chk ((⟨b1, 0, none⟩ : Addr).add 1) [.string x6] <|
    L.chk (a4.add 0) [.pointer x5] <|
    L.call Pr n_shelf_Shelf_Config [.pointer x5, .string x6] (.tup [(.agg lf0), eI6, eI6, eB6]) fun (x10 : pt4) =>
    L.store (⟨b9, 0, none⟩) [.string x10.1.1, .int .i64 x10.1.2.1, .int .i64 x10.1.2.2.1, .int .i64 x10.1.2.2.2.1, .int .i64 x10.1.2.2.2.2.1, .int .i64 x10.1.2.2.2.2.2.1] <|
    k2 (⟨b9, 0, none⟩, x10.2.2.1, x10.2.2.2.1, ()))]) fun z3 =>
 L.ite (!z3.2.2.1) (
  L.call Pr n_system_refused [.int .i64 6] rL fun (x11 : Sl) =>
  K (.slice x11.a x11.len x11.cap)) <|
 L.ite (decide (z3.2.1 > 999999)) (
  L.call Pr n_system_refused [.int .i64 3] rL fun (x12 : Sl) =>
  K (.slice x12.a x12.len x12.cap)) <|
 L.draw <|
 L.nonnil p0 fun a13 =>
 L.load eP6 (a13.add 1) fun (x14 : Option Addr) =>
 L.load (.agg lf0) z3.1 fun (x15 : pt0) =>
 L.call Pr n_stamp_Book_Stamp [.pointer x14, (qa0 x15), .int .i64 z3.2.1] (.tup [eS6, eB6]) fun (x16 : ByteArray × Bool × Unit) =>
 L.ite (!x16.2.1) (
  L.new [.string x16.1] T_string fun b17 =>
  L.call Pr n_system_line_string [.string s_same, .slice (some ⟨b17, 0, none⟩) 1 1] rS fun (x18 : ByteArray) =>
  L.new [.string x18] T_string fun b19 =>
  K (.slice (some ⟨b19, 0, none⟩) 1 1)) <|
 L.load eI6 (z3.1.add 3) fun (x20 : Int) =>
 L.draw <|
 L.nonnil p0 fun a21 =>
 L.load (.one (.map)) (a21.add 5) fun (x22 : Option Nat) =>
 L.call Pr n_gauge_New [] rP fun (x23 : Option Addr) =>
 L.chk (a21.add 5) [.map x22] <|
 L.new [.pointer x23, .int .i64 (if 1 > x20 then 1 else x20), .int .i64 0] T_system_beside fun b24 =>
 L.chk (a21.add 5) [.map x22] <|
 L.semU Pr (Instr.mapUpdate T_system_things_p_system_beside (.map x22) (.string x16.1) (.pointer (some (⟨b24, 0, none⟩)))) <|
 L.new [.string x16.1] T_string fun b25 =>
 L.call Pr n_system_line_string [.string s_revision, .slice (some ⟨b25, 0, none⟩) 1 1] rS fun (x26 : ByteArray) =>
 L.new [.string x16.1] T_string fun b27 =>
 L.call Pr n_system_line_string [.string s_scale, .slice (some ⟨b27, 0, none⟩) 1 1] rS fun (x28 : ByteArray) =>
 L.new [.int .i64 (if 1 > x20 then 1 else x20)] T_int fun b29 =>
 L.call Pr n_system_line_int [.string x28, .slice (some ⟨b29, 0, none⟩) 1 1] rS fun (x30 : ByteArray) =>
 L.new [.string x26, .string x30] T_string fun b31 =>
 K (.slice (some ⟨b31, 0, none⟩) 2 2)
theorem C_system_System_stamp (p0 : Option Addr) (p1 : ht1) {K : Value → PT} {w : World} (h : F_system_System_stamp p0 p1 K w) : CT Pr n_system_System_stamp [.pointer p0, (.ag (qc1 p1) : SV).toV] K w :=
 C_of (fn := Tryz.f37) (an := A_system_System_stamp) (args := [.v (.pointer p0), .ag (qc1 p1)]) (by kernel_rfl) (by kernel_rfl) (by kernel_rfl) h
theorem E_system_System_stamp : Enters Pr n_system_System_stamp := enters_of_B (by kernel_rfl)
def A_system_System_lead : Ann := (.seq .auto (.seq (.one [(5, (.one (.adr))), (7, (.one (.bool)))] .auto) (.seq .auto (.seq (.one [(8, (.one (.adr))), (9, (.one (.int .i64)))] .auto) .auto none) none) none) none)
def F_system_System_lead (p0 : Option Addr) (p1 : ht1) (K : Value → PT) : PT :=
 L.new [.int .i64 p1.1, .string p1.2.1, .string p1.2.2.1, .int .i64 p1.2.2.2.1, .int .i64 p1.2.2.2.2.1, .string p1.2.2.2.2.2.1, .int .i64 p1.2.2.2.2.2.2.1, .int .i64 p1.2.2.2.2.2.2.2.1, .int .i64 p1.2.2.2.2.2.2.2.2.1, .int .i64 p1.2.2.2.2.2.2.2.2.2.1, .int .i64 p1.2.2.2.2.2.2.2.2.2.2.1, .string p1.2.2.2.2.2.2.2.2.2.2.2.1, .string p1.2.2.2.2.2.2.2.2.2.2.2.2.1, .slice p1.2.2.2.2.2.2.2.2.2.2.2.2.2.1.a p1.2.2.2.2.2.2.2.2.2.2.2.2.2.1.len p1.2.2.2.2.2.2.2.2.2.2.2.2.2.1.cap, .int .i64 p1.2.2.2.2.2.2.2.2.2.2.2.2.2.2.1] T_api_Event fun b1 =>
 L.join (Y := Addr × Bool × Unit) (fun k2 =>
  L.draw <|
  L.nonnil p0 fun a4 =>
  L.load eP6 (a4.add 0) fun (x5 : Option Addr) =>
  L.load eS6 ((⟨b1, 0, none⟩ : Addr).add 1) fun (x6 : ByteArray) =>
  L.alts [(
    L.call Pr n_shelf_Shelf_Route [.pointer x5, .string x6] (.tup [(.agg [.str, .str, .slice, .int .i64]), eI6, eB6]) fun (x7 : pt5) =>
    L.new [.string s_, .string s_, .slice none 0 0, .int .i64 0] T_api_Route fun b8 =>
    L.chk ((⟨b1, 0, none⟩ : Addr).add 1) [.string x6] <|
    L.chk (a4.add 0) [.pointer x5] <|
    L.store (⟨b8, 0, none⟩) [.string x7.1.1, .string x7.1.2.1, .slice x7.1.2.2.1.a x7.1.2.2.1.len x7.1.2.2.1.cap, .int .i64 x7.1.2.2.2.1] <|
    k2 (⟨b8, 0, none⟩, x7.2.2.1, ())),(
    L.new [.string s_, .string s_, .slice none 0 0, .int .i64 0] T_api_Route fun b9 =>
    L.chk ((⟨b1, 0, none⟩ : Addr).add 1) [.string x6] <|
    L.chk (a4.add 0) [.pointer x5] <|
    L.call Pr n_shelf_Shelf_Route [.pointer x5, .string x6] (.tup [(.agg [.str, .str, .slice, .int .i64]), eI6, eB6]) fun (x10 : pt5) =>
    L.store (⟨b9, 0, none⟩) [.string x10.1.1, .string x10.1.2.1, .slice x10.1.2.2.1.a x10.1.2.2.1.len x10.1.2.2.1.cap, .int .i64 x10.1.2.2.2.1] <|
    k2 (⟨b9, 0, none⟩, x10.2.2.1, ()))]) fun z3 =>
 L.ite (!z3.2.1) (
  L.call Pr n_system_refused [.int .i64 6] rL fun (x11 : Sl) =>
  K (.slice x11.a x11.len x11.cap)) <|
 L.join (Y := Addr × Int × Unit) (fun k12 =>
  L.draw <|
  L.load (.agg [.str, .str, .slice, .int .i64]) z3.1 fun (x14 : pt3) =>
  L.nonnil p0 fun a15 =>
  L.load eP6 (a15.add 1) fun (x16 : Option Addr) =>
  L.alts [(
    L.call Pr n_lead_Resolve [.agg #[.string x14.1, .string x14.2.1, .slice x14.2.2.1.a x14.2.2.1.len x14.2.2.1.cap, .int .i64 x14.2.2.2.1], .pointer x16] (.tup [(.agg [.slice, .slice]), eI6]) fun (x17 : (Sl × Sl × Unit) × Int × Unit) =>
    L.new [.slice none 0 0, .slice none 0 0] T_api_Table fun b18 =>
    L.chk (a15.add 1) [.pointer x16] <|
    L.chk z3.1 [.string x14.1, .string x14.2.1, .slice x14.2.2.1.a x14.2.2.1.len x14.2.2.1.cap, .int .i64 x14.2.2.2.1] <|
    L.store (⟨b18, 0, none⟩) [.slice x17.1.1.a x17.1.1.len x17.1.1.cap, .slice x17.1.2.1.a x17.1.2.1.len x17.1.2.1.cap] <|
    k12 (⟨b18, 0, none⟩, x17.2.1, ())),(
    L.new [.slice none 0 0, .slice none 0 0] T_api_Table fun b19 =>
    L.chk (a15.add 1) [.pointer x16] <|
    L.chk z3.1 [.string x14.1, .string x14.2.1, .slice x14.2.2.1.a x14.2.2.1.len x14.2.2.1.cap, .int .i64 x14.2.2.2.1] <|
    L.call Pr n_lead_Resolve [.agg #[.string x14.1, .string x14.2.1, .slice x14.2.2.1.a x14.2.2.1.len x14.2.2.1.cap, .int .i64 x14.2.2.2.1], .pointer x16] (.tup [(.agg [.slice, .slice]), eI6]) fun (x20 : (Sl × Sl × Unit) × Int × Unit) =>
    L.store (⟨b19, 0, none⟩) [.slice x20.1.1.a x20.1.1.len x20.1.1.cap, .slice x20.1.2.1.a x20.1.2.1.len x20.1.2.1.cap] <|
    k12 (⟨b19, 0, none⟩, x20.2.1, ()))]) fun z13 =>
 L.ite (z13.2.1 != 0) (
  L.call Pr n_system_refused [.int .i64 z13.2.1] rL fun (x21 : Sl) =>
  K (.slice x21.a x21.len x21.cap)) <|
 L.draw <|
 L.load eS6 ((⟨b1, 0, none⟩ : Addr).add 1) fun (x22 : ByteArray) =>
 L.nonnil p0 fun a23 =>
 L.load eP6 (a23.add 2) fun (x24 : Option Addr) =>
 L.load eS6 ((⟨b1, 0, none⟩ : Addr).add 1) fun (x25 : ByteArray) =>
 L.load (.agg [.slice, .slice]) z13.1 fun (x26 : Sl × Sl × Unit) =>
 L.nonnil p0 fun a27 =>
 L.load eI6 (a27.add 6) fun (x28 : Int) =>
 L.load eI6 (z3.1.add 3) fun (x29 : Int) =>
 L.call Pr n_lead_Roller_Turn [.pointer x24, .string x25, .agg #[.slice x26.1.a x26.1.len x26.1.cap, .slice x26.2.1.a x26.2.1.len x26.2.1.cap], .int .i64 x28, .int .i64 x29] (.one (.agg [.slice, .slice])) fun (x30 : Sl × Sl × Unit) =>
 L.chk ((⟨b1, 0, none⟩ : Addr).add 1) [.string x22] <|
 L.call Pr n_table_Text [.agg #[.slice x30.1.a x30.1.len x30.1.cap, .slice x30.2.1.a x30.2.1.len x30.2.1.cap]] rS fun (x31 : ByteArray) =>
 L.chk ((⟨b1, 0, none⟩ : Addr).add 1) [.string x22] <|
 L.new [.string x22, .string x31] T_string fun b32 =>
 L.call Pr n_system_line_string [.string s_table, .slice (some ⟨b32, 0, none⟩) 2 2] rS fun (x33 : ByteArray) =>
 L.new [.string x33] T_string fun b34 =>
 K (.slice (some ⟨b34, 0, none⟩) 1 1)
theorem C_system_System_lead (p0 : Option Addr) (p1 : ht1) {K : Value → PT} {w : World} (h : F_system_System_lead p0 p1 K w) : CT Pr n_system_System_lead [.pointer p0, (.ag (qc1 p1) : SV).toV] K w :=
 C_of (fn := Tryz.f38) (an := A_system_System_lead) (args := [.v (.pointer p0), .ag (qc1 p1)]) (by kernel_rfl) (by kernel_rfl) (by kernel_rfl) h
theorem E_system_System_lead : Enters Pr n_system_System_lead := enters_of_B (by kernel_rfl)
def A_system_System_pods : Ann := (.seq .auto (.seq (.one [(5, (.one (.adr))), (6, (.one (.bool)))] .auto) (.seq .auto (.seq .auto (.seq .auto (.seq (.seq .auto (.one [(9, (.one (.slice))), (47, (.one (.int .i64)))] .auto) none) (.seq (.seq .auto (.one [(9, (.one (.slice))), (60, (.one (.int .i64)))] .auto) none) .auto none) none) none) none) none) none) none)
def F_system_System_pods (p0 : Option Addr) (p1 : ht1) (K : Value → PT) : PT :=
 L.new [.int .i64 p1.1, .string p1.2.1, .string p1.2.2.1, .int .i64 p1.2.2.2.1, .int .i64 p1.2.2.2.2.1, .string p1.2.2.2.2.2.1, .int .i64 p1.2.2.2.2.2.2.1, .int .i64 p1.2.2.2.2.2.2.2.1, .int .i64 p1.2.2.2.2.2.2.2.2.1, .int .i64 p1.2.2.2.2.2.2.2.2.2.1, .int .i64 p1.2.2.2.2.2.2.2.2.2.2.1, .string p1.2.2.2.2.2.2.2.2.2.2.2.1, .string p1.2.2.2.2.2.2.2.2.2.2.2.2.1, .slice p1.2.2.2.2.2.2.2.2.2.2.2.2.2.1.a p1.2.2.2.2.2.2.2.2.2.2.2.2.2.1.len p1.2.2.2.2.2.2.2.2.2.2.2.2.2.1.cap, .int .i64 p1.2.2.2.2.2.2.2.2.2.2.2.2.2.2.1] T_api_Event fun b1 =>
 L.join (Y := Addr × Bool × Unit) (fun k2 =>
  L.draw <|
  L.nonnil p0 fun a4 =>
  L.load eP6 (a4.add 1) fun (x5 : Option Addr) =>
  L.load eS6 ((⟨b1, 0, none⟩ : Addr).add 1) fun (x6 : ByteArray) =>
  L.alts [(
    L.call Pr n_stamp_Book_Get [.pointer x5, .string x6] (.tup [(.agg lf5), eB6]) fun (x7 : pt6) =>
    L.new [.string s_, .int .i64 0, .string s_, .int .i64 0, .int .i64 0, .int .i64 0, .int .i64 0, .int .i64 0] T_api_Revision fun b8 =>
    L.chk ((⟨b1, 0, none⟩ : Addr).add 1) [.string x6] <|
    L.chk (a4.add 1) [.pointer x5] <|
    L.store (⟨b8, 0, none⟩) [.string x7.1.1, .int .i64 x7.1.2.1, .string x7.1.2.2.1, .int .i64 x7.1.2.2.2.1, .int .i64 x7.1.2.2.2.2.1, .int .i64 x7.1.2.2.2.2.2.1, .int .i64 x7.1.2.2.2.2.2.2.1, .int .i64 x7.1.2.2.2.2.2.2.2.1] <|
    k2 (⟨b8, 0, none⟩, x7.2.1, ())),(
    L.new [.string s_, .int .i64 0, .string s_, .int .i64 0, .int .i64 0, .int .i64 0, .int .i64 0, .int .i64 0] T_api_Revision fun b9 =>
    L.chk ((⟨b1, 0, none⟩ : Addr).add 1) [.string x6] <|
    L.chk (a4.add 1) [.pointer x5] <|
    L.call Pr n_stamp_Book_Get [.pointer x5, .string x6] (.tup [(.agg lf5), eB6]) fun (x10 : pt6) =>
    L.store (⟨b9, 0, none⟩) [.string x10.1.1, .int .i64 x10.1.2.1, .string x10.1.2.2.1, .int .i64 x10.1.2.2.2.1, .int .i64 x10.1.2.2.2.2.1, .int .i64 x10.1.2.2.2.2.2.1, .int .i64 x10.1.2.2.2.2.2.2.1, .int .i64 x10.1.2.2.2.2.2.2.2.1] <|
    k2 (⟨b9, 0, none⟩, x10.2.1, ()))]) fun z3 =>
 L.ite (!z3.2.1) (
  L.call Pr n_system_refused [.int .i64 6] rL fun (x11 : Sl) =>
  K (.slice x11.a x11.len x11.cap)) <|
 L.draw <|
 L.nonnil p0 fun a12 =>
 L.load eP6 (a12.add 3) fun (x13 : Option Addr) =>
 L.load eS6 ((⟨b1, 0, none⟩ : Addr).add 1) fun (x14 : ByteArray) =>
 L.load eI6 ((z3.1.add 2).add 2) fun (x15 : Int) =>
 L.load eS6 ((⟨b1, 0, none⟩ : Addr).add 1) fun (x16 : ByteArray) =>
 L.call Pr n_system_System_Want [.pointer p0, .string x16] rI fun (x17 : Int) =>
 L.chk ((z3.1.add 2).add 2) [.int .i64 x15] <|
 L.chk ((⟨b1, 0, none⟩ : Addr).add 1) [.string x14] <|
 L.chk (a12.add 3) [.pointer x13] <|
 L.call Pr n_fleet_Fleet_Scale [.pointer x13, .string x14, .int .i64 x15, .int .i64 x17] (.tup [eL6, eL6]) fun (x18 : Sl × Sl × Unit) =>
 L.loop (Y := Sl × Int × Unit) (⟨none, 0, 0⟩, 0, ()) fun y19 again20 =>
 L.ite (decide (y19.2.1 < ((x18.1.len : Nat) : Int))) (
  L.idx x18.1.a y19.2.1 x18.1.len 1 fun a21 =>
  L.load eI6 a21 fun (x22 : Int) =>
  L.new [.int .i64 x22] T_int fun b23 =>
  L.call Pr n_system_line_int [.string s_made, .slice (some ⟨b23, 0, none⟩) 1 1] rS fun (x24 : ByteArray) =>
  L.new [.string x24] T_string fun b25 =>
  L.sem Pr (.one (.one .slice)) (Builtin.append_ #[T_s_string, T_s_string] T_s_string #[.slice y19.1.a y19.1.len y19.1.cap, .slice (some ⟨b25, 0, none⟩) 1 1]) fun (s26 : Sl) =>
  again20 (⟨s26.a, s26.len, s26.cap⟩, IntKind.wrap .i64 (y19.2.1 + 1), ())) <|
 L.loop (Y := Sl × Int × Unit) (⟨y19.1.a, y19.1.len, y19.1.cap⟩, 0, ()) fun y27 again28 =>
 L.ite (decide (y27.2.1 < ((x18.2.1.len : Nat) : Int))) (
  L.idx x18.2.1.a y27.2.1 x18.2.1.len 1 fun a29 =>
  L.load eI6 a29 fun (x30 : Int) =>
  L.new [.int .i64 x30] T_int fun b31 =>
  L.call Pr n_system_line_int [.string s_gone, .slice (some ⟨b31, 0, none⟩) 1 1] rS fun (x32 : ByteArray) =>
  L.new [.string x32] T_string fun b33 =>
  L.sem Pr (.one (.one .slice)) (Builtin.append_ #[T_s_string, T_s_string] T_s_string #[.slice y27.1.a y27.1.len y27.1.cap, .slice (some ⟨b33, 0, none⟩) 1 1]) fun (s34 : Sl) =>
  again28 (⟨s34.a, s34.len, s34.cap⟩, IntKind.wrap .i64 (y27.2.1 + 1), ())) <|
 L.load eS6 ((⟨b1, 0, none⟩ : Addr).add 1) fun (x35 : ByteArray) =>
 L.call Pr n_system_System_count [.pointer p0, .string x35, .func (.func n_system_System_pods_1) #[] #[]] rI fun (x36 : Int) =>
 L.load eS6 ((⟨b1, 0, none⟩ : Addr).add 1) fun (x37 : ByteArray) =>
 L.new [.string x37] T_string fun b38 =>
 L.call Pr n_system_line_string [.string s_fleet, .slice (some ⟨b38, 0, none⟩) 1 1] rS fun (x39 : ByteArray) =>
 L.new [.int .i64 x36] T_int fun b40 =>
 L.call Pr n_system_line_int [.string x39, .slice (some ⟨b40, 0, none⟩) 1 1] rS fun (x41 : ByteArray) =>
 L.new [.string x41] T_string fun b42 =>
 L.sem Pr (.one (.one .slice)) (Builtin.append_ #[T_s_string, T_s_string] T_s_string #[.slice y27.1.a y27.1.len y27.1.cap, .slice (some ⟨b42, 0, none⟩) 1 1]) fun (s43 : Sl) =>
 K (.slice s43.a s43.len s43.cap)
theorem C_system_System_pods (p0 : Option Addr) (p1 : ht1) {K : Value → PT} {w : World} (h : F_system_System_pods p0 p1 K w) : CT Pr n_system_System_pods [.pointer p0, (.ag (qc1 p1) : SV).toV] K w :=
 C_of (fn := Tryz.f40) (an := A_system_System_pods) (args := [.v (.pointer p0), .ag (qc1 p1)]) (by kernel_rfl) (by kernel_rfl) (by kernel_rfl) h
theorem E_system_System_pods : Enters Pr n_system_System_pods := enters_of_B (by kernel_rfl)
def F_stamp_Book_All (p0 : Option Addr) (K : Value → PT) : PT :=
 L.nonnil p0 fun a1 =>
 L.load (.one (.map)) (a1.add 0) fun (x2 : Option Nat) =>
 L.call Pr n_stamp_shelf_api_Revision_names [.map x2] rL fun (x3 : Sl) =>
 L.call Pr n_slices_Clone_string_string [.slice x3.a x3.len x3.cap] rL fun (x4 : Sl) =>
 K (.slice x4.a x4.len x4.cap)
theorem C_stamp_Book_All (p0 : Option Addr) {K : Value → PT} {w : World} (h : F_stamp_Book_All p0 K w) : CT Pr n_stamp_Book_All [.pointer p0] K w :=
 C_of (fn := Tryz.f43) (an := .auto) (args := [.v (.pointer p0)]) (by kernel_rfl) (by kernel_rfl) (by kernel_rfl) h
def F_shelf_made_api_Config (p0 : FV) (K : Value → PT) : PT :=
 L.sem Pr (.one (.one .map)) (Instr.makeMap T_map_string_shelf_thing_api_Config none) fun (m1 : Option Nat) =>
 L.new [.map m1, .func p0.fn p0.fs p0.cs] T_shelf_rack_api_Config fun b2 =>
 K (.pointer (some (⟨b2, 0, none⟩)))
theorem C_shelf_made_api_Config (p0 : FV) {K : Value → PT} {w : World} (h : F_shelf_made_api_Config p0 K w) : CT Pr n_shelf_made_api_Config [.func p0.fn p0.fs p0.cs] K w :=
 C_of (fn := Tryz.f44) (an := .auto) (args := [.v (.func p0.fn p0.fs p0.cs)]) (by kernel_rfl) (by kernel_rfl) (by kernel_rfl) h
def F_shelf_New_1 (p0 : ht0) (p1 : ht0) (K : Value → PT) : PT :=
 L.new [.string p0.1, .int .i64 p0.2.1, .int .i64 p0.2.2.1, .int .i64 p0.2.2.2.1, .int .i64 p0.2.2.2.2.1, .int .i64 p0.2.2.2.2.2.1] T_api_Config fun b1 =>
 L.new [.string p1.1, .int .i64 p1.2.1, .int .i64 p1.2.2.1, .int .i64 p1.2.2.2.1, .int .i64 p1.2.2.2.2.1, .int .i64 p1.2.2.2.2.2.1] T_api_Config fun b2 =>
 L.load (.agg lf0) (⟨b1, 0, none⟩) fun (x3 : pt0) =>
 L.load (.agg lf0) (⟨b2, 0, none⟩) fun (x4 : pt0) =>
 L.chkSem Pr (do eqGuard .eql T_api_Config (.tmp 0) (.tmp 0) ((qa0 x3)) ((qa0 x4)); binOp .eql T_api_Config ((qa0 x3)) ((qa0 x4))) (.bool ((x3.1 == x4.1) && ((x3.2.1 == x4.2.1) && ((x3.2.2.1 == x4.2.2.1) && ((x3.2.2.2.1 == x4.2.2.2.1) && ((x3.2.2.2.2.1 == x4.2.2.2.2.1) && ((x3.2.2.2.2.2.1 == x4.2.2.2.2.2.1) && true))))))) <|
 K (.bool ((x3.1 == x4.1) && ((x3.2.1 == x4.2.1) && ((x3.2.2.1 == x4.2.2.1) && ((x3.2.2.2.1 == x4.2.2.2.1) && ((x3.2.2.2.2.1 == x4.2.2.2.2.1) && ((x3.2.2.2.2.2.1 == x4.2.2.2.2.2.1) && true)))))))
theorem C_shelf_New_1 (p0 : ht0) (p1 : ht0) {K : Value → PT} {w : World} (h : F_shelf_New_1 p0 p1 K w) : CT Pr n_shelf_New_1 [(.ag (qc0 p0) : SV).toV, (.ag (qc0 p1) : SV).toV] K w :=
 C_of (fn := Tryz.f45) (an := .auto) (args := [.ag (qc0 p0), .ag (qc0 p1)]) (by kernel_rfl) (by kernel_rfl) (by kernel_rfl) h
theorem E_shelf_New_1 : Enters Pr n_shelf_New_1 := enters_of_B (by kernel_rfl)
def F_shelf_made_api_Route (p0 : FV) (K : Value → PT) : PT :=
 L.sem Pr (.one (.one .map)) (Instr.makeMap T_map_string_shelf_thing_api_Route none) fun (m1 : Option Nat) =>
 L.new [.map m1, .func p0.fn p0.fs p0.cs] T_shelf_rack_api_Route fun b2 =>
 K (.pointer (some (⟨b2, 0, none⟩)))
theorem C_shelf_made_api_Route (p0 : FV) {K : Value → PT} {w : World} (h : F_shelf_made_api_Route p0 K w) : CT Pr n_shelf_made_api_Route [.func p0.fn p0.fs p0.cs] K w :=
 C_of (fn := Tryz.f46) (an := .auto) (args := [.v (.func p0.fn p0.fs p0.cs)]) (by kernel_rfl) (by kernel_rfl) (by kernel_rfl) h
def F_spec_SameRoute (p0 : ht2) (p1 : ht2) (K : Value → PT) : PT :=
 L.new [.string p0.1, .string p0.2.1, .slice p0.2.2.1.a p0.2.2.1.len p0.2.2.1.cap, .int .i64 p0.2.2.2.1] T_api_Route fun b1 =>
 L.new [.string p1.1, .string p1.2.1, .slice p1.2.2.1.a p1.2.2.1.len p1.2.2.1.cap, .int .i64 p1.2.2.2.1] T_api_Route fun b2 =>
 L.load eS6 ((⟨b1, 0, none⟩ : Addr).add 0) fun (x3 : ByteArray) =>
 L.load eS6 ((⟨b2, 0, none⟩ : Addr).add 0) fun (x4 : ByteArray) =>
 L.ite (x3.toList == x4.toList) (
  L.load eS6 ((⟨b1, 0, none⟩ : Addr).add 1) fun (x5 : ByteArray) =>
  L.load eS6 ((⟨b2, 0, none⟩ : Addr).add 1) fun (x6 : ByteArray) =>
  L.ite (x5.toList == x6.toList) (
   L.load eI6 ((⟨b1, 0, none⟩ : Addr).add 3) fun (x7 : Int) =>
   L.load eI6 ((⟨b2, 0, none⟩ : Addr).add 3) fun (x8 : Int) =>
   L.ite (x7 == x8) (
    L.load eL6 ((⟨b1, 0, none⟩ : Addr).add 2) fun (x9 : Sl) =>
    L.load eL6 ((⟨b2, 0, none⟩ : Addr).add 2) fun (x10 : Sl) =>
    L.call Pr n_slices_EqualFunc_api_Target_api_Target_api_Target_api_Target [.slice x9.a x9.len x9.cap, .slice x10.a x10.len x10.cap, .func (.func n_spec_same) #[] #[]] rB fun (x11 : Bool) =>
    K (.bool x11)) <|
   K (.bool false)) <|
  K (.bool false)) <|
 K (.bool false)
theorem C_spec_SameRoute (p0 : ht2) (p1 : ht2) {K : Value → PT} {w : World} (h : F_spec_SameRoute p0 p1 K w) : CT Pr n_spec_SameRoute [(.ag (qc2 p0) : SV).toV, (.ag (qc2 p1) : SV).toV] K w :=
 C_of (fn := Tryz.f47) (an := .auto) (args := [.ag (qc2 p0), .ag (qc2 p1)]) (by kernel_rfl) (by kernel_rfl) (by kernel_rfl) h
theorem E_spec_SameRoute : Enters Pr n_spec_SameRoute := enters_of_B (by kernel_rfl)
def F_gate_New_1 (c0 : Addr) (K : Value → PT) : PT :=
 L.load eI6 c0 fun (x1 : Int) =>
 L.call Pr n_wait_New [.int .i64 x1] rP fun (x2 : Option Addr) =>
 K (.pointer x2)
theorem C_gate_New_1 (c0 : Addr) {K : Value → PT} {w : World} (h : F_gate_New_1 c0 K w) : CT Pr n_gate_New_1 [.pointer (some c0)] K w :=
 C_of (fn := Tryz.f48) (an := .auto) (args := [.v (.pointer (some c0))]) (by kernel_rfl) (by kernel_rfl) (by kernel_rfl) h
theorem E_gate_New_1 : Enters Pr n_gate_New_1 := enters_of_B (by kernel_rfl)
def F_wait_New (p0 : Int) (K : Value → PT) : PT :=
 L.new [.slice none 0 0, .int .i64 p0] T_wait_Line fun b1 =>
 K (.pointer (some (⟨b1, 0, none⟩)))
theorem C_wait_New (p0 : Int) {K : Value → PT} {w : World} (h : F_wait_New p0 K w) : CT Pr n_wait_New [.int .i64 p0] K w :=
 C_of (fn := Tryz.f49) (an := .auto) (args := [.v (.int .i64 p0)]) (by kernel_rfl) (by kernel_rfl) (by kernel_rfl) h
def A_event_shape : Ann := (.seq .auto (.seq (.seq .auto (.seq .auto (.cond .auto (.seq .auto (.cond .auto (.seq .auto (.cond .auto (.seq .auto (.cond .auto (.seq .auto (.cond .auto (.seq .auto (.cond .auto (.seq .auto .auto (some [(26, (.one (.bool)))]))) none)) (some [(17, (.one (.bool)))]))) none)) none)) none)) none) none) .auto none) none)
def F_event_shape (p0 : Int) (K : Value → PT) : PT :=
 L.new [.bool false, .bool false, .bool false, .bool false, .bool false, .bool false] T_event_has fun b1 =>
 L.ite (p0 == 1) (
  L.store (⟨b1, 0, none⟩) [.bool true, .bool false, .bool false, .bool false, .bool true, .bool false] <|
  L.load (.agg lf4) (⟨b1, 0, none⟩) fun (x2 : pt8) =>
  K (.tuple #[(qa2 x2), .bool true])) <|
 L.ite (p0 == 2) (
  L.store (⟨b1, 0, none⟩) [.bool true, .bool false, .bool false, .bool false, .bool false, .bool true] <|
  L.load (.agg lf4) (⟨b1, 0, none⟩) fun (x3 : pt8) =>
  K (.tuple #[(qa2 x3), .bool true])) <|
 L.ite (p0 == 3) (
  L.store (⟨b1, 0, none⟩) [.bool true, .bool true, .bool false, .bool true, .bool false, .bool false] <|
  L.load (.agg lf4) (⟨b1, 0, none⟩) fun (x4 : pt8) =>
  K (.tuple #[(qa2 x4), .bool true])) <|
 L.ite (p0 == 4) (
  L.store (⟨b1, 0, none⟩) [.bool true, .bool true, .bool true, .bool true, .bool false, .bool false] <|
  L.load (.agg lf4) (⟨b1, 0, none⟩) fun (x5 : pt8) =>
  K (.tuple #[(qa2 x5), .bool true])) <|
 L.join (Y := Bool × Unit) (fun k6 =>
  L.ite (p0 == 5) (
   k6 (p0 == 5, ())) <|
  L.ite (p0 == 6) (
   k6 (p0 == 6, ())) <|
  L.ite (p0 == 7) (
   k6 (p0 == 7, ())) <|
  k6 (p0 == 8, ())) fun z7 =>
 L.ite z7.1 (
  L.store (⟨b1, 0, none⟩) [.bool true, .bool false, .bool false, .bool false, .bool false, .bool false] <|
  L.load (.agg lf4) (⟨b1, 0, none⟩) fun (x8 : pt8) =>
  K (.tuple #[(qa2 x8), .bool true])) <|
 L.ite (p0 == 9) (
  L.store (⟨b1, 0, none⟩) [.bool false, .bool false, .bool false, .bool false, .bool false, .bool false] <|
  L.load (.agg lf4) (⟨b1, 0, none⟩) fun (x9 : pt8) =>
  K (.tuple #[(qa2 x9), .bool true])) <|
 L.join (Y := Bool × Unit) (fun k10 =>
  L.ite (p0 == 10) (
   k10 (p0 == 10, ())) <|
  L.ite (p0 == 11) (
   k10 (p0 == 11, ())) <|
  L.ite (p0 == 12) (
   k10 (p0 == 12, ())) <|
  k10 (p0 == 13, ())) fun z11 =>
 L.ite z11.1 (
  L.store (⟨b1, 0, none⟩) [.bool false, .bool true, .bool false, .bool false, .bool false, .bool false] <|
  L.load (.agg lf4) (⟨b1, 0, none⟩) fun (x12 : pt8) =>
  K (.tuple #[(qa2 x12), .bool true])) <|
 L.store (⟨b1, 0, none⟩) [.bool false, .bool false, .bool false, .bool false, .bool false, .bool false] <|
 L.load (.agg lf4) (⟨b1, 0, none⟩) fun (x13 : pt8) =>
 K (.tuple #[(qa2 x13), .bool false])
theorem C_event_shape (p0 : Int) {K : Value → PT} {w : World} (h : F_event_shape p0 K w) : CT Pr n_event_shape [.int .i64 p0] K w :=
 C_of (fn := Tryz.f50) (an := A_event_shape) (args := [.v (.int .i64 p0)]) (by kernel_rfl) (by kernel_rfl) (by kernel_rfl) h
def F_event_none_int (p0 : Bool) (p1 : Int) (K : Value → PT) : PT :=
 L.ite p0 (
  K (.bool true)) <|
 K (.bool (p1 == 0))
theorem C_event_none_int (p0 : Bool) (p1 : Int) {K : Value → PT} {w : World} (h : F_event_none_int p0 p1 K w) : CT Pr n_event_none_int [.bool p0, .int .i64 p1] K w :=
 C_of (fn := Tryz.f51) (an := .auto) (args := [.v (.bool p0), .v (.int .i64 p1)]) (by kernel_rfl) (by kernel_rfl) (by kernel_rfl) h
def F_event_none_string (p0 : Bool) (p1 : ByteArray) (K : Value → PT) : PT :=
 L.ite p0 (
  K (.bool true)) <|
 K (.bool (p1.toList == s_.toList))
theorem C_event_none_string (p0 : Bool) (p1 : ByteArray) {K : Value → PT} {w : World} (h : F_event_none_string p0 p1 K w) : CT Pr n_event_none_string [.bool p0, .string p1] K w :=
 C_of (fn := Tryz.f52) (an := .auto) (args := [.v (.bool p0), .v (.string p1)]) (by kernel_rfl) (by kernel_rfl) (by kernel_rfl) h
def F_event_none_api_Config (p0 : Bool) (p1 : ht0) (K : Value → PT) : PT :=
 L.new [.string p1.1, .int .i64 p1.2.1, .int .i64 p1.2.2.1, .int .i64 p1.2.2.2.1, .int .i64 p1.2.2.2.2.1, .int .i64 p1.2.2.2.2.2.1] T_api_Config fun b1 =>
 L.new [.string s_, .int .i64 0, .int .i64 0, .int .i64 0, .int .i64 0, .int .i64 0] T_api_Config fun b2 =>
 L.ite p0 (
  K (.bool true)) <|
 L.load (.agg lf0) (⟨b1, 0, none⟩) fun (x3 : pt0) =>
 L.load (.agg lf0) (⟨b2, 0, none⟩) fun (x4 : pt0) =>
 L.chkSem Pr (do eqGuard .eql T_api_Config (.tmp 0) (.tmp 0) ((qa0 x3)) ((qa0 x4)); binOp .eql T_api_Config ((qa0 x3)) ((qa0 x4))) (.bool ((x3.1 == x4.1) && ((x3.2.1 == x4.2.1) && ((x3.2.2.1 == x4.2.2.1) && ((x3.2.2.2.1 == x4.2.2.2.1) && ((x3.2.2.2.2.1 == x4.2.2.2.2.1) && ((x3.2.2.2.2.2.1 == x4.2.2.2.2.2.1) && true))))))) <|
 K (.bool ((x3.1 == x4.1) && ((x3.2.1 == x4.2.1) && ((x3.2.2.1 == x4.2.2.1) && ((x3.2.2.2.1 == x4.2.2.2.1) && ((x3.2.2.2.2.1 == x4.2.2.2.2.1) && ((x3.2.2.2.2.2.1 == x4.2.2.2.2.2.1) && true)))))))
theorem C_event_none_api_Config (p0 : Bool) (p1 : ht0) {K : Value → PT} {w : World} (h : F_event_none_api_Config p0 p1 K w) : CT Pr n_event_none_api_Config [.bool p0, (.ag (qc0 p1) : SV).toV] K w :=
 C_of (fn := Tryz.f53) (an := .auto) (args := [.v (.bool p0), .ag (qc0 p1)]) (by kernel_rfl) (by kernel_rfl) (by kernel_rfl) h
def F_event_bare (p0 : ht2) (K : Value → PT) : PT :=
 L.new [.string p0.1, .string p0.2.1, .slice p0.2.2.1.a p0.2.2.1.len p0.2.2.1.cap, .int .i64 p0.2.2.2.1] T_api_Route fun b1 =>
 L.load eS6 ((⟨b1, 0, none⟩ : Addr).add 0) fun (x2 : ByteArray) =>
 L.ite (x2.toList == s_.toList) (
  L.load eS6 ((⟨b1, 0, none⟩ : Addr).add 1) fun (x3 : ByteArray) =>
  L.ite (x3.toList == s_.toList) (
   L.load eI6 ((⟨b1, 0, none⟩ : Addr).add 3) fun (x4 : Int) =>
   L.ite (x4 == 0) (
    L.load eL6 ((⟨b1, 0, none⟩ : Addr).add 2) fun (x5 : Sl) =>
    K (.bool (((x5.len : Nat) : Int) == 0))) <|
   K (.bool false)) <|
  K (.bool false)) <|
 K (.bool false)
theorem C_event_bare (p0 : ht2) {K : Value → PT} {w : World} (h : F_event_bare p0 K w) : CT Pr n_event_bare [(.ag (qc2 p0) : SV).toV] K w :=
 C_of (fn := Tryz.f54) (an := .auto) (args := [.ag (qc2 p0)]) (by kernel_rfl) (by kernel_rfl) (by kernel_rfl) h
def A_event_number : Ann := (.seq .auto (.seq (.seq .auto (.seq .auto .auto (some [(5, (.one (.bool)))])) none) .auto none) none)
def F_event_number (p0 : ht1) (K : Value → PT) : PT :=
 L.new [.int .i64 p0.1, .string p0.2.1, .string p0.2.2.1, .int .i64 p0.2.2.2.1, .int .i64 p0.2.2.2.2.1, .string p0.2.2.2.2.2.1, .int .i64 p0.2.2.2.2.2.2.1, .int .i64 p0.2.2.2.2.2.2.2.1, .int .i64 p0.2.2.2.2.2.2.2.2.1, .int .i64 p0.2.2.2.2.2.2.2.2.2.1, .int .i64 p0.2.2.2.2.2.2.2.2.2.2.1, .string p0.2.2.2.2.2.2.2.2.2.2.2.1, .string p0.2.2.2.2.2.2.2.2.2.2.2.2.1, .slice p0.2.2.2.2.2.2.2.2.2.2.2.2.2.1.a p0.2.2.2.2.2.2.2.2.2.2.2.2.2.1.len p0.2.2.2.2.2.2.2.2.2.2.2.2.2.1.cap, .int .i64 p0.2.2.2.2.2.2.2.2.2.2.2.2.2.2.1] T_api_Event fun b1 =>
 L.load eI6 ((⟨b1, 0, none⟩ : Addr).add 0) fun (x2 : Int) =>
 L.join (Y := Bool × Unit) (fun k3 =>
  L.ite (x2 == 1) (
   k3 (x2 == 1, ())) <|
  k3 (x2 == 2, ())) fun z4 =>
 L.ite z4.1 (
  L.load eI6 ((⟨b1, 0, none⟩ : Addr).add 3) fun (x5 : Int) =>
  L.call Pr n_event_within [.int .i64 x5, .int .i64 0, .int .i64 2147483647] rB fun (x6 : Bool) =>
  K (.bool x6)) <|
 L.ite (x2 == 3) (
  L.load eI6 ((⟨b1, 0, none⟩ : Addr).add 3) fun (x7 : Int) =>
  L.call Pr n_event_within [.int .i64 x7, .int .i64 1, .int .i64 2] rB fun (x8 : Bool) =>
  K (.bool x8)) <|
 L.load eI6 ((⟨b1, 0, none⟩ : Addr).add 3) fun (x9 : Int) =>
 L.call Pr n_event_within [.int .i64 x9, .int .i64 1, .int .i64 2147483647] rB fun (x10 : Bool) =>
 K (.bool x10)
theorem C_event_number (p0 : ht1) {K : Value → PT} {w : World} (h : F_event_number p0 K w) : CT Pr n_event_number [(.ag (qc1 p0) : SV).toV] K w :=
 C_of (fn := Tryz.f55) (an := A_event_number) (args := [.ag (qc1 p0)]) (by kernel_rfl) (by kernel_rfl) (by kernel_rfl) h
def F_event_named (p0 : ht1) (K : Value → PT) : PT :=
 L.new [.int .i64 p0.1, .string p0.2.1, .string p0.2.2.1, .int .i64 p0.2.2.2.1, .int .i64 p0.2.2.2.2.1, .string p0.2.2.2.2.2.1, .int .i64 p0.2.2.2.2.2.2.1, .int .i64 p0.2.2.2.2.2.2.2.1, .int .i64 p0.2.2.2.2.2.2.2.2.1, .int .i64 p0.2.2.2.2.2.2.2.2.2.1, .int .i64 p0.2.2.2.2.2.2.2.2.2.2.1, .string p0.2.2.2.2.2.2.2.2.2.2.2.1, .string p0.2.2.2.2.2.2.2.2.2.2.2.2.1, .slice p0.2.2.2.2.2.2.2.2.2.2.2.2.2.1.a p0.2.2.2.2.2.2.2.2.2.2.2.2.2.1.len p0.2.2.2.2.2.2.2.2.2.2.2.2.2.1.cap, .int .i64 p0.2.2.2.2.2.2.2.2.2.2.2.2.2.2.1] T_api_Event fun b1 =>
 L.load eI6 ((⟨b1, 0, none⟩ : Addr).add 0) fun (x2 : Int) =>
 L.ite (x2 == 12) (
  L.load eS6 ((⟨b1, 0, none⟩ : Addr).add 1) fun (x3 : ByteArray) =>
  L.call Pr n_label_Split [.string x3] (.tup [eS6, eI6, eB6]) fun (x4 : ByteArray × Int × Bool × Unit) =>
  K (.bool x4.2.2.1)) <|
 L.load eI6 ((⟨b1, 0, none⟩ : Addr).add 0) fun (x5 : Int) =>
 L.ite (x5 == 13) (
  L.load eS6 ((⟨b1, 0, none⟩ : Addr).add 1) fun (x6 : ByteArray) =>
  L.call Pr n_label_Split [.string x6] (.tup [eS6, eI6, eB6]) fun (x7 : ByteArray × Int × Bool × Unit) =>
  K (.bool x7.2.2.1)) <|
 L.load eS6 ((⟨b1, 0, none⟩ : Addr).add 1) fun (x8 : ByteArray) =>
 L.call Pr n_label_Name [.string x8] rB fun (x9 : Bool) =>
 K (.bool x9)
theorem C_event_named (p0 : ht1) {K : Value → PT} {w : World} (h : F_event_named p0 K w) : CT Pr n_event_named [(.ag (qc1 p0) : SV).toV] K w :=
 C_of (fn := Tryz.f56) (an := .auto) (args := [.ag (qc1 p0)]) (by kernel_rfl) (by kernel_rfl) (by kernel_rfl) h
def F_label_Tag (p0 : ByteArray) (K : Value → PT) : PT :=
 L.call Pr n_label_short [.string p0, .int .i64 8] rB fun (x1 : Bool) =>
 K (.bool x1)
theorem C_label_Tag (p0 : ByteArray) {K : Value → PT} {w : World} (h : F_label_Tag p0 K w) : CT Pr n_label_Tag [.string p0] K w :=
 C_of (fn := Tryz.f57) (an := .auto) (args := [.v (.string p0)]) (by kernel_rfl) (by kernel_rfl) (by kernel_rfl) h
def F_event_within (p0 : Int) (p1 : Int) (p2 : Int) (K : Value → PT) : PT :=
 L.ite (decide (p0 ≥ p1)) (
  K (.bool (decide (p0 ≤ p2)))) <|
 K (.bool false)
theorem C_event_within (p0 : Int) (p1 : Int) (p2 : Int) {K : Value → PT} {w : World} (h : F_event_within p0 p1 p2 K w) : CT Pr n_event_within [.int .i64 p0, .int .i64 p1, .int .i64 p2] K w :=
 C_of (fn := Tryz.f58) (an := .auto) (args := [.v (.int .i64 p0), .v (.int .i64 p1), .v (.int .i64 p2)]) (by kernel_rfl) (by kernel_rfl) (by kernel_rfl) h
def A_spec_Config : Ann := (.seq .auto (.seq (.seq .auto (.cond .auto (.seq .auto .auto (some [(8, (.one (.bool)))]))) none) .auto none) none)
def F_spec_Config (p0 : ht0) (K : Value → PT) : PT :=
 L.new [.string p0.1, .int .i64 p0.2.1, .int .i64 p0.2.2.1, .int .i64 p0.2.2.2.1, .int .i64 p0.2.2.2.2.1, .int .i64 p0.2.2.2.2.2.1] T_api_Config fun b1 =>
 L.load eS6 ((⟨b1, 0, none⟩ : Addr).add 0) fun (x2 : ByteArray) =>
 L.call Pr n_label_Name [.string x2] rB fun (x3 : Bool) =>
 L.ite (!x3) (
  K (.int .i64 1)) <|
 L.join (Y := Bool × Unit) (fun k4 =>
  L.load eI6 ((⟨b1, 0, none⟩ : Addr).add 1) fun (x6 : Int) =>
  L.call Pr n_spec_span_has [.agg #[.int .i64 0, .int .i64 255], .int .i64 x6] rB fun (x7 : Bool) =>
  L.ite (!x7) (
   k4 (!x7, ())) <|
  L.load eI6 ((⟨b1, 0, none⟩ : Addr).add 2) fun (x8 : Int) =>
  L.call Pr n_spec_span_has [.agg #[.int .i64 1, .int .i64 8], .int .i64 x8] rB fun (x9 : Bool) =>
  L.ite (!x9) (
   k4 (!x9, ())) <|
  L.load eI6 ((⟨b1, 0, none⟩ : Addr).add 4) fun (x10 : Int) =>
  L.call Pr n_spec_span_has [.agg #[.int .i64 1, .int .i64 10], .int .i64 x10] rB fun (x11 : Bool) =>
  L.ite (!x11) (
   k4 (!x11, ())) <|
  L.load eI6 ((⟨b1, 0, none⟩ : Addr).add 4) fun (x12 : Int) =>
  L.load eI6 ((⟨b1, 0, none⟩ : Addr).add 3) fun (x13 : Int) =>
  L.call Pr n_spec_span_has [.agg #[.int .i64 0, .int .i64 x12], .int .i64 x13] rB fun (x14 : Bool) =>
  L.ite (!x14) (
   k4 (!x14, ())) <|
  L.load eI6 ((⟨b1, 0, none⟩ : Addr).add 5) fun (x15 : Int) =>
  L.call Pr n_spec_span_has [.agg #[.int .i64 0, .int .i64 30], .int .i64 x15] rB fun (x16 : Bool) =>
  k4 (!x16, ())) fun z5 =>
 L.ite z5.1 (
  K (.int .i64 2)) <|
 K (.int .i64 0)
theorem C_spec_Config (p0 : ht0) {K : Value → PT} {w : World} (h : F_spec_Config p0 K w) : CT Pr n_spec_Config [(.ag (qc0 p0) : SV).toV] K w :=
 C_of (fn := Tryz.f59) (an := A_spec_Config) (args := [.ag (qc0 p0)]) (by kernel_rfl) (by kernel_rfl) (by kernel_rfl) h
def A_spec_Route : Ann := (.seq .auto (.seq (.seq .auto .auto (some [(6, (.one (.bool)))])) (.seq (.seq .auto (.one [(31, (.one (.int .i64)))] .auto) none) .auto none) none) none)
def F_spec_Route (p0 : ht2) (K : Value → PT) : PT :=
 L.new [.string p0.1, .string p0.2.1, .slice p0.2.2.1.a p0.2.2.1.len p0.2.2.1.cap, .int .i64 p0.2.2.2.1] T_api_Route fun b1 =>
 L.join (Y := Bool × Unit) (fun k2 =>
  L.load eS6 ((⟨b1, 0, none⟩ : Addr).add 0) fun (x4 : ByteArray) =>
  L.call Pr n_label_Name [.string x4] rB fun (x5 : Bool) =>
  L.ite (!x5) (
   k2 (!x5, ())) <|
  L.load eS6 ((⟨b1, 0, none⟩ : Addr).add 1) fun (x6 : ByteArray) =>
  L.call Pr n_label_Name [.string x6] rB fun (x7 : Bool) =>
  k2 (!x7, ())) fun z3 =>
 L.ite z3.1 (
  K (.int .i64 1)) <|
 L.load eI6 ((⟨b1, 0, none⟩ : Addr).add 3) fun (x8 : Int) =>
 L.call Pr n_spec_span_has [.agg #[.int .i64 0, .int .i64 60], .int .i64 x8] rB fun (x9 : Bool) =>
 L.ite (!x9) (
  K (.int .i64 2)) <|
 L.load eL6 ((⟨b1, 0, none⟩ : Addr).add 2) fun (x10 : Sl) =>
 L.call Pr n_spec_span_has [.agg #[.int .i64 1, .int .i64 6], .int .i64 ((x10.len : Nat) : Int)] rB fun (x11 : Bool) =>
 L.ite (!x11) (
  K (.int .i64 3)) <|
 L.load eL6 ((⟨b1, 0, none⟩ : Addr).add 2) fun (x12 : Sl) =>
 L.loop (Y := Int × Unit) (0, ()) fun y13 again14 =>
 L.ite (decide (y13.1 < ((x12.len : Nat) : Int))) (
  L.idx x12.a y13.1 x12.len 3 fun a15 =>
  L.load (.agg [.str, .str, .int .i64]) a15 fun (x16 : pt9) =>
  L.new [.string s_, .string s_, .int .i64 0] T_api_Target fun b17 =>
  L.store (⟨b17, 0, none⟩) [.string x16.1, .string x16.2.1, .int .i64 x16.2.2.1] <|
  L.load (.agg [.str, .str, .int .i64]) (⟨b17, 0, none⟩) fun (x18 : pt9) =>
  L.call Pr n_spec_target [.agg #[.string x18.1, .string x18.2.1, .int .i64 x18.2.2.1]] rI fun (x19 : Int) =>
  L.ite (x19 != 0) (
   K (.int .i64 x19)) <|
  again14 (IntKind.wrap .i64 (y13.1 + 1), ())) <|
 L.load eL6 ((⟨b1, 0, none⟩ : Addr).add 2) fun (x20 : Sl) =>
 L.call Pr n_spec_all [.slice x20.a x20.len x20.cap] rI fun (x21 : Int) =>
 K (.int .i64 x21)
theorem C_spec_Route (p0 : ht2) {K : Value → PT} {w : World} (h : F_spec_Route p0 K w) : CT Pr n_spec_Route [(.ag (qc2 p0) : SV).toV] K w :=
 C_of (fn := Tryz.f60) (an := A_spec_Route) (args := [.ag (qc2 p0)]) (by kernel_rfl) (by kernel_rfl) (by kernel_rfl) h
def F_api_early (p0 : Int) (K : Value → PT) : PT :=
 L.ite (p0 == 0) (
  K (.string s_ok)) <|
 L.ite (p0 == 1) (
  K (.string s_name)) <|
 L.ite (p0 == 2) (
  K (.string s_arg)) <|
 L.ite (p0 == 3) (
  K (.string s_long)) <|
 L.ite (p0 == 4) (
  K (.string s_sum)) <|
 L.ite (p0 == 5) (
  K (.string s_twice)) <|
 L.ite (p0 == 6) (
  K (.string s_none)) <|
 K (.string s_error)
theorem C_api_early (p0 : Int) {K : Value → PT} {w : World} (h : F_api_early p0 K w) : CT Pr n_api_early [.int .i64 p0] K w :=
 C_of (fn := Tryz.f63) (an := .auto) (args := [.v (.int .i64 p0)]) (by kernel_rfl) (by kernel_rfl) (by kernel_rfl) h
def F_api_late (p0 : Int) (K : Value → PT) : PT :=
 L.ite (p0 == 7) (
  K (.string s_stale)) <|
 L.ite (p0 == 8) (
  K (.string s_full)) <|
 L.ite (p0 == 9) (
  K (.string s_state)) <|
 L.ite (p0 == 10) (
  K (.string s_cut)) <|
 L.ite (p0 == 11) (
  K (.string s_more)) <|
 L.ite (p0 == 12) (
  K (.string s_kind)) <|
 K (.string s_error)
theorem C_api_late (p0 : Int) {K : Value → PT} {w : World} (h : F_api_late p0 K w) : CT Pr n_api_late [.int .i64 p0] K w :=
 C_of (fn := Tryz.f64) (an := .auto) (args := [.v (.int .i64 p0)]) (by kernel_rfl) (by kernel_rfl) (by kernel_rfl) h
def A_shelf_Shelf_PutConfig : Ann := (.seq .auto (.seq .auto (.seq .auto .auto (some [(8, (.one (.int .i64)))])) none) none)
def F_shelf_Shelf_PutConfig (p0 : Option Addr) (p1 : ht0) (p2 : Int) (K : Value → PT) : PT :=
 L.new [.string p1.1, .int .i64 p1.2.1, .int .i64 p1.2.2.1, .int .i64 p1.2.2.2.1, .int .i64 p1.2.2.2.2.1, .int .i64 p1.2.2.2.2.2.1] T_api_Config fun b1 =>
 L.load (.agg lf0) (⟨b1, 0, none⟩) fun (x2 : pt0) =>
 L.call Pr n_spec_Config [(qa0 x2)] rI fun (x3 : Int) =>
 L.join (Y := Int × Unit) (fun k4 =>
  L.ite (x3 == 0) (
   L.draw <|
   L.nonnil p0 fun a6 =>
   L.load eP6 (a6.add 0) fun (x7 : Option Addr) =>
   L.load eS6 ((⟨b1, 0, none⟩ : Addr).add 0) fun (x8 : ByteArray) =>
   L.call Pr n_shelf_rack_api_Config_may [.pointer x7, .string x8, .int .i64 p2, .bool true] rI fun (x9 : Int) =>
   k4 (x9, ())) <|
  k4 (x3, ())) fun z5 =>
 L.ite (z5.1 != 0) (
  K (.tuple #[.int .i64 0, .int .i64 z5.1])) <|
 L.nonnil p0 fun a10 =>
 L.load eI6 (a10.add 2) fun (x11 : Int) =>
 L.nonnil p0 fun a12 =>
 L.store (a12.add 2) [.int .i64 (IntKind.wrap .i64 (x11 + 1))] <|
 L.draw <|
 L.nonnil p0 fun a13 =>
 L.load eP6 (a13.add 0) fun (x14 : Option Addr) =>
 L.load eS6 ((⟨b1, 0, none⟩ : Addr).add 0) fun (x15 : ByteArray) =>
 L.load (.agg lf0) (⟨b1, 0, none⟩) fun (x16 : pt0) =>
 L.nonnil p0 fun a17 =>
 L.load eI6 (a17.add 2) fun (x18 : Int) =>
 L.call Pr n_shelf_rack_api_Config_put [.pointer x14, .string x15, (qa0 x16), .int .i64 x18] (.tup []) fun (x19 : Unit) =>
 L.nonnil p0 fun a20 =>
 L.load eI6 (a20.add 2) fun (x21 : Int) =>
 K (.tuple #[.int .i64 x21, .int .i64 0])
theorem C_shelf_Shelf_PutConfig (p0 : Option Addr) (p1 : ht0) (p2 : Int) {K : Value → PT} {w : World} (h : F_shelf_Shelf_PutConfig p0 p1 p2 K w) : CT Pr n_shelf_Shelf_PutConfig [.pointer p0, (.ag (qc0 p1) : SV).toV, .int .i64 p2] K w :=
 C_of (fn := Tryz.f65) (an := A_shelf_Shelf_PutConfig) (args := [.v (.pointer p0), .ag (qc0 p1), .v (.int .i64 p2)]) (by kernel_rfl) (by kernel_rfl) (by kernel_rfl) h
def F_system_put (p0 : ByteArray) (p1 : ByteArray) (p2 : Int) (p3 : Int) (K : Value → PT) : PT :=
 L.ite (p3 != 0) (
  L.call Pr n_system_refused [.int .i64 p3] rL fun (x1 : Sl) =>
  K (.slice x1.a x1.len x1.cap)) <|
 L.new [.string p1] T_string fun b2 =>
 L.call Pr n_system_line_string [.string p0, .slice (some ⟨b2, 0, none⟩) 1 1] rS fun (x3 : ByteArray) =>
 L.new [.int .i64 p2] T_int fun b4 =>
 L.call Pr n_system_line_int [.string x3, .slice (some ⟨b4, 0, none⟩) 1 1] rS fun (x5 : ByteArray) =>
 L.new [.string x5] T_string fun b6 =>
 K (.slice (some ⟨b6, 0, none⟩) 1 1)
theorem C_system_put (p0 : ByteArray) (p1 : ByteArray) (p2 : Int) (p3 : Int) {K : Value → PT} {w : World} (h : F_system_put p0 p1 p2 p3 K w) : CT Pr n_system_put [.string p0, .string p1, .int .i64 p2, .int .i64 p3] K w :=
 C_of (fn := Tryz.f66) (an := .auto) (args := [.v (.string p0), .v (.string p1), .v (.int .i64 p2), .v (.int .i64 p3)]) (by kernel_rfl) (by kernel_rfl) (by kernel_rfl) h
def A_shelf_Shelf_PutRoute : Ann := (.seq .auto (.seq .auto (.seq .auto .auto (some [(8, (.one (.int .i64)))])) none) none)
def F_shelf_Shelf_PutRoute (p0 : Option Addr) (p1 : ht2) (p2 : Int) (K : Value → PT) : PT :=
 L.new [.string p1.1, .string p1.2.1, .slice p1.2.2.1.a p1.2.2.1.len p1.2.2.1.cap, .int .i64 p1.2.2.2.1] T_api_Route fun b1 =>
 L.load (.agg [.str, .str, .slice, .int .i64]) (⟨b1, 0, none⟩) fun (x2 : pt3) =>
 L.call Pr n_spec_Route [.agg #[.string x2.1, .string x2.2.1, .slice x2.2.2.1.a x2.2.2.1.len x2.2.2.1.cap, .int .i64 x2.2.2.2.1]] rI fun (x3 : Int) =>
 L.join (Y := Int × Unit) (fun k4 =>
  L.ite (x3 == 0) (
   L.draw <|
   L.nonnil p0 fun a6 =>
   L.load eP6 (a6.add 1) fun (x7 : Option Addr) =>
   L.load eS6 ((⟨b1, 0, none⟩ : Addr).add 0) fun (x8 : ByteArray) =>
   L.call Pr n_shelf_rack_api_Route_may [.pointer x7, .string x8, .int .i64 p2, .bool true] rI fun (x9 : Int) =>
   k4 (x9, ())) <|
  k4 (x3, ())) fun z5 =>
 L.ite (z5.1 != 0) (
  K (.tuple #[.int .i64 0, .int .i64 z5.1])) <|
 L.nonnil p0 fun a10 =>
 L.load eI6 (a10.add 2) fun (x11 : Int) =>
 L.nonnil p0 fun a12 =>
 L.store (a12.add 2) [.int .i64 (IntKind.wrap .i64 (x11 + 1))] <|
 L.draw <|
 L.nonnil p0 fun a13 =>
 L.load eP6 (a13.add 1) fun (x14 : Option Addr) =>
 L.load eS6 ((⟨b1, 0, none⟩ : Addr).add 0) fun (x15 : ByteArray) =>
 L.load (.agg [.str, .str, .slice, .int .i64]) (⟨b1, 0, none⟩) fun (x16 : pt3) =>
 L.nonnil p0 fun a17 =>
 L.load eI6 (a17.add 2) fun (x18 : Int) =>
 L.call Pr n_shelf_own [.agg #[.string x16.1, .string x16.2.1, .slice x16.2.2.1.a x16.2.2.1.len x16.2.2.1.cap, .int .i64 x16.2.2.2.1]] (.one (.agg [.str, .str, .slice, .int .i64])) fun (x19 : pt3) =>
 L.chk (a17.add 2) [.int .i64 x18] <|
 L.chk ((⟨b1, 0, none⟩ : Addr).add 0) [.string x15] <|
 L.chk (a13.add 1) [.pointer x14] <|
 L.call Pr n_shelf_rack_api_Route_put [.pointer x14, .string x15, .agg #[.string x19.1, .string x19.2.1, .slice x19.2.2.1.a x19.2.2.1.len x19.2.2.1.cap, .int .i64 x19.2.2.2.1], .int .i64 x18] (.tup []) fun (x20 : Unit) =>
 L.nonnil p0 fun a21 =>
 L.load eI6 (a21.add 2) fun (x22 : Int) =>
 K (.tuple #[.int .i64 x22, .int .i64 0])
theorem C_shelf_Shelf_PutRoute (p0 : Option Addr) (p1 : ht2) (p2 : Int) {K : Value → PT} {w : World} (h : F_shelf_Shelf_PutRoute p0 p1 p2 K w) : CT Pr n_shelf_Shelf_PutRoute [.pointer p0, (.ag (qc2 p1) : SV).toV, .int .i64 p2] K w :=
 C_of (fn := Tryz.f67) (an := A_shelf_Shelf_PutRoute) (args := [.v (.pointer p0), .ag (qc2 p1), .v (.int .i64 p2)]) (by kernel_rfl) (by kernel_rfl) (by kernel_rfl) h
def F_system_refused (p0 : Int) (K : Value → PT) : PT :=
 L.call Pr n_api_Errno_Error [.int .i64 p0] rS fun (x1 : ByteArray) =>
 L.new [.string x1] T_string fun b2 =>
 L.call Pr n_system_line_string [.string s_refused, .slice (some ⟨b2, 0, none⟩) 1 1] rS fun (x3 : ByteArray) =>
 L.new [.string x3] T_string fun b4 =>
 K (.slice (some ⟨b4, 0, none⟩) 1 1)
theorem C_system_refused (p0 : Int) {K : Value → PT} {w : World} (h : F_system_refused p0 K w) : CT Pr n_system_refused [.int .i64 p0] K w :=
 C_of (fn := Tryz.f69) (an := .auto) (args := [.v (.int .i64 p0)]) (by kernel_rfl) (by kernel_rfl) (by kernel_rfl) h
def A_system_told : Ann := (.seq .auto (.seq (.seq .auto (.seq .auto .auto (some [(8, (.one (.str)))])) none) .auto none) none)
def F_system_told (p0 : Sl) (p1 : Sl) (K : Value → PT) : PT :=
 L.new [.slice p1.a p1.len p1.cap] T_s_string fun b1 =>
 L.call Pr n_system_lines [.slice p0.a p0.len p0.cap] (.one (.one (.func))) fun (x2 : FV) =>
 L.range Pr none (.func x2.fn x2.fs x2.cs) [eS6] (fun l3 (y4 : ByteArray × Unit) R5 =>
  L.begin Pr l3 <|
  L.load eL6 (⟨b1, 0, none⟩) fun (x8 : Sl) =>
  L.new [.string y4.1] T_string fun b9 =>
  L.sem Pr (.one (.one .slice)) (Builtin.append_ #[T_s_string, T_s_string] T_s_string #[.slice x8.a x8.len x8.cap, .slice (some ⟨b9, 0, none⟩) 1 1]) fun (s10 : Sl) =>
  L.store (⟨b1, 0, none⟩) [.slice s10.a s10.len s10.cap] <|
  L.endRound Pr l3 none R5) fun d6 j7 =>
 L.jump j7 (
  L.load eL6 (⟨b1, 0, none⟩) fun (x11 : Sl) =>
  L.call Pr n_slices_Clone_string_string [.slice x11.a x11.len x11.cap] rL fun (x12 : Sl) =>
  L.unmark Pr (d6 ++ []) <|
  K (.slice x12.a x12.len x12.cap)) (
  L.unmark Pr (d6 ++ []) <|
  K (.slice none 0 0)) []
theorem C_system_told (p0 : Sl) (p1 : Sl) {K : Value → PT} {w : World} (h : F_system_told p0 p1 K w) : CT Pr n_system_told [.slice p0.a p0.len p0.cap, .slice p1.a p1.len p1.cap] K w :=
 C_of (fn := Tryz.f73) (an := A_system_told) (args := [.v (.slice p0.a p0.len p0.cap), .v (.slice p1.a p1.len p1.cap)]) (by kernel_rfl) (by kernel_rfl) (by kernel_rfl) h
def F_system_things_system_beside_at (p0 : Option Nat) (p1 : ByteArray) (K : Value → PT) : PT :=
 L.semR Pr (.tup [eP6, .one .bool]) (Instr.lookup T_system_things_p_system_beside (.map p0) (.string p1) true) fun (x1 : Option Addr × Bool × Unit) =>
 K (.tuple #[.pointer x1.1, .bool x1.2.1])
theorem C_system_things_system_beside_at (p0 : Option Nat) (p1 : ByteArray) {K : Value → PT} {w : World} (h : F_system_things_system_beside_at p0 p1 K w) : CT Pr n_system_things_system_beside_at [.map p0, .string p1] K w :=
 C_of (fn := Tryz.f74) (an := .auto) (args := [.v (.map p0), .v (.string p1)]) (by kernel_rfl) (by kernel_rfl) (by kernel_rfl) h
def A_system_line_int : Ann := (.seq .auto (.seq .auto (.seq (.seq .auto (.one [(5, (.one (.slice))), (14, (.one (.int .i64)))] (.seq .auto (.seq .auto (.seq .auto .auto (some [(5, (.one (.slice)))])) none) none)) none) .auto none) none) none)
def F_system_line_int (p0 : ByteArray) (p1 : Sl) (K : Value → PT) : PT :=
 L.new [.string p0] T_string fun b1 =>
 L.loop (Y := Sl × Int × Unit) (⟨some ⟨b1, 0, none⟩, 1, 1⟩, 0, ()) fun y2 again3 =>
 L.ite (decide (y2.2.1 < ((p1.len : Nat) : Int))) (
  L.join (Y := Sl × Unit) (fun k4 =>
   L.idx p1.a y2.2.1 p1.len 1 fun a6 =>
   L.load eI6 a6 fun (x7 : Int) =>
   L.semR Pr (.tup [eS6, .one .bool]) (Instr.typeAssert (.iface T_int (.int .i64 x7)) T_interface T_string true) fun (x8 : ByteArray × Bool × Unit) =>
   L.ite x8.2.1 (
    L.new [.string x8.1] T_string fun b9 =>
    L.sem Pr (.one (.one .slice)) (Builtin.append_ #[T_s_string, T_s_string] T_s_string #[.slice y2.1.a y2.1.len y2.1.cap, .slice (some ⟨b9, 0, none⟩) 1 1]) fun (s10 : Sl) =>
    k4 (⟨s10.a, s10.len, s10.cap⟩, ())) <|
   L.ite true (
    L.call Pr n_strconv_Itoa [.int .i64 x7] rS fun (x11 : ByteArray) =>
    L.new [.string x11] T_string fun b12 =>
    L.sem Pr (.one (.one .slice)) (Builtin.append_ #[T_s_string, T_s_string] T_s_string #[.slice y2.1.a y2.1.len y2.1.cap, .slice (some ⟨b12, 0, none⟩) 1 1]) fun (s13 : Sl) =>
    k4 (⟨s13.a, s13.len, s13.cap⟩, ())) <|
   k4 (⟨y2.1.a, y2.1.len, y2.1.cap⟩, ())) fun z5 =>
  again3 (⟨z5.1.a, z5.1.len, z5.1.cap⟩, IntKind.wrap .i64 (y2.2.1 + 1), ())) <|
 L.call Pr n_strings_Join [.slice y2.1.a y2.1.len y2.1.cap, .string s___b5c5] rS fun (x14 : ByteArray) =>
 K (.string x14)
theorem C_system_line_int (p0 : ByteArray) (p1 : Sl) {K : Value → PT} {w : World} (h : F_system_line_int p0 p1 K w) : CT Pr n_system_line_int [.string p0, .slice p1.a p1.len p1.cap] K w :=
 C_of (fn := Tryz.f75) (an := A_system_line_int) (args := [.v (.string p0), .v (.slice p1.a p1.len p1.cap)]) (by kernel_rfl) (by kernel_rfl) (by kernel_rfl) h
def F_fleet_Fleet_Up (p0 : Option Addr) (p1 : Int) (K : Value → PT) : PT :=
 L.nonnil p0 fun a1 =>
 L.load (.one (.map)) (a1.add 0) fun (x2 : Option Nat) =>
 L.semR Pr (.tup [(.agg [.str, .ptr]), .one .bool]) (Instr.lookup T_map_int_fleet_one (.map x2) (.int .i64 p1) true) fun (x3 : pt12) =>
 L.new [.string s_, .pointer none] T_fleet_one fun b4 =>
 L.store (⟨b4, 0, none⟩) [.string x3.1.1, .pointer x3.1.2.1] <|
 L.ite (!x3.2.1) (
  K (.int .i64 6)) <|
 L.load eP6 ((⟨b4, 0, none⟩ : Addr).add 1) fun (x5 : Option Addr) =>
 L.call Pr n_pod_Pod_Up [.pointer x5] rI fun (x6 : Int) =>
 K (.int .i64 x6)
theorem C_fleet_Fleet_Up (p0 : Option Addr) (p1 : Int) {K : Value → PT} {w : World} (h : F_fleet_Fleet_Up p0 p1 K w) : CT Pr n_fleet_Fleet_Up [.pointer p0, .int .i64 p1] K w :=
 C_of (fn := Tryz.f77) (an := .auto) (args := [.v (.pointer p0), .v (.int .i64 p1)]) (by kernel_rfl) (by kernel_rfl) (by kernel_rfl) h
def F_fleet_Fleet_Of (p0 : Option Addr) (p1 : Int) (K : Value → PT) : PT :=
 L.nonnil p0 fun a1 =>
 L.load (.one (.map)) (a1.add 0) fun (x2 : Option Nat) =>
 L.semR Pr (.one (.agg [.str, .ptr])) (Instr.lookup T_map_int_fleet_one (.map x2) (.int .i64 p1) false) fun (x3 : ByteArray × Option Addr × Unit) =>
 K (.string x3.1)
theorem C_fleet_Fleet_Of (p0 : Option Addr) (p1 : Int) {K : Value → PT} {w : World} (h : F_fleet_Fleet_Of p0 p1 K w) : CT Pr n_fleet_Fleet_Of [.pointer p0, .int .i64 p1] K w :=
 C_of (fn := Tryz.f78) (an := .auto) (args := [.v (.pointer p0), .v (.int .i64 p1)]) (by kernel_rfl) (by kernel_rfl) (by kernel_rfl) h
def F_stamp_Book_Proved (p0 : Option Addr) (p1 : ByteArray) (K : Value → PT) : PT :=
 L.nonnil p0 fun a1 =>
 L.load (.one (.map)) (a1.add 1) fun (x2 : Option Nat) =>
 L.semR Pr rB (Instr.lookup T_stamp_shelf_bool (.map x2) (.string p1) false) fun (x3 : Bool) =>
 K (.bool x3)
theorem C_stamp_Book_Proved (p0 : Option Addr) (p1 : ByteArray) {K : Value → PT} {w : World} (h : F_stamp_Book_Proved p0 p1 K w) : CT Pr n_stamp_Book_Proved [.pointer p0, .string p1] K w :=
 C_of (fn := Tryz.f79) (an := .auto) (args := [.v (.pointer p0), .v (.string p1)]) (by kernel_rfl) (by kernel_rfl) (by kernel_rfl) h
theorem E_stamp_Book_Proved : Enters Pr n_stamp_Book_Proved := enters_of_B (by kernel_rfl)
def F_stamp_Book_Prove (p0 : Option Addr) (p1 : ByteArray) (K : Value → PT) : PT :=
 L.nonnil p0 fun a1 =>
 L.load (.one (.map)) (a1.add 0) fun (x2 : Option Nat) =>
 L.semR Pr (.tup [(.agg lf5), .one .bool]) (Instr.lookup T_stamp_shelf_api_Revision (.map x2) (.string p1) true) fun (x3 : pt6) =>
 L.new [.string s_, .int .i64 0, .string s_, .int .i64 0, .int .i64 0, .int .i64 0, .int .i64 0, .int .i64 0] T_api_Revision fun b4 =>
 L.store (⟨b4, 0, none⟩) [.string x3.1.1, .int .i64 x3.1.2.1, .string x3.1.2.2.1, .int .i64 x3.1.2.2.2.1, .int .i64 x3.1.2.2.2.2.1, .int .i64 x3.1.2.2.2.2.2.1, .int .i64 x3.1.2.2.2.2.2.2.1, .int .i64 x3.1.2.2.2.2.2.2.2.1] <|
 L.ite (!x3.2.1) (
  K (.int .i64 6)) <|
 L.nonnil p0 fun a5 =>
 L.load (.one (.map)) (a5.add 1) fun (x6 : Option Nat) =>
 L.semU Pr (Instr.mapUpdate T_stamp_shelf_bool (.map x6) (.string p1) (.bool true)) <|
 K (.int .i64 0)
theorem C_stamp_Book_Prove (p0 : Option Addr) (p1 : ByteArray) {K : Value → PT} {w : World} (h : F_stamp_Book_Prove p0 p1 K w) : CT Pr n_stamp_Book_Prove [.pointer p0, .string p1] K w :=
 C_of (fn := Tryz.f80) (an := .auto) (args := [.v (.pointer p0), .v (.string p1)]) (by kernel_rfl) (by kernel_rfl) (by kernel_rfl) h
def A_gate_Gate_Flow : Ann := (.seq .auto (.seq .auto (.seq .auto (.seq (.seq .auto (.one [(5, (.one (.slice))), (19, (.one (.int .i64)))] .auto) none) .auto (some [(5, (.one (.slice)))])) none) none) none)
def F_gate_Gate_Flow (p0 : Option Addr) (p1 : ByteArray) (K : Value → PT) : PT :=
 L.nonnil p0 fun a1 =>
 L.call Pr n_gate_book_wait_Line_at [.pointer (some (a1.add 2)), .string p1] rP fun (x2 : Option Addr) =>
 L.join (Y := Sl × Unit) (fun k3 =>
  L.call Pr n_wait_Line_All [.pointer x2] rL fun (x5 : Sl) =>
  L.loop (Y := Sl × Int × Unit) (⟨none, 0, 0⟩, 0, ()) fun y6 again7 =>
  L.ite (decide (y6.2.1 < ((x5.len : Nat) : Int))) (
   L.idx x5.a y6.2.1 x5.len 1 fun a8 =>
   L.load eI6 a8 fun (x9 : Int) =>
   L.call Pr n_gate_Gate_send [.pointer p0, .int .i64 x9, .string p1] (.tup [(.agg [.int .i64, .int .i64, .int .i64, .str]), eB6]) fun (x10 : pt11) =>
   L.new [.int .i64 0, .int .i64 0, .int .i64 0, .string s_] T_gate_Fate fun b11 =>
   L.store (⟨b11, 0, none⟩) [.int .i64 x10.1.1, .int .i64 x10.1.2.1, .int .i64 x10.1.2.2.1, .string x10.1.2.2.2.1] <|
   L.ite (!x10.2.1) (
    k3 (⟨y6.1.a, y6.1.len, y6.1.cap⟩, ())) <|
   L.call Pr n_wait_Line_Pop [.pointer x2] (.tup [eI6, eB6]) fun (x12 : Int × Bool × Unit) =>
   L.load (.agg [.int .i64, .int .i64, .int .i64, .str]) (⟨b11, 0, none⟩) fun (x13 : pt10) =>
   L.new [.int .i64 x13.1, .int .i64 x13.2.1, .int .i64 x13.2.2.1, .string x13.2.2.2.1] T_gate_Fate fun b14 =>
   L.sem Pr (.one (.one .slice)) (Builtin.append_ #[T_s_gate_Fate, T_s_gate_Fate] T_s_gate_Fate #[.slice y6.1.a y6.1.len y6.1.cap, .slice (some ⟨b14, 0, none⟩) 1 1]) fun (s15 : Sl) =>
   again7 (⟨s15.a, s15.len, s15.cap⟩, IntKind.wrap .i64 (y6.2.1 + 1), ())) <|
  k3 (⟨y6.1.a, y6.1.len, y6.1.cap⟩, ())) fun z4 =>
 L.call Pr n_slices_Clone_gate_Fate_gate_Fate [.slice z4.1.a z4.1.len z4.1.cap] rL fun (x16 : Sl) =>
 K (.slice x16.a x16.len x16.cap)
theorem C_gate_Gate_Flow (p0 : Option Addr) (p1 : ByteArray) {K : Value → PT} {w : World} (h : F_gate_Gate_Flow p0 p1 K w) : CT Pr n_gate_Gate_Flow [.pointer p0, .string p1] K w :=
 C_of (fn := Tryz.f81) (an := A_gate_Gate_Flow) (args := [.v (.pointer p0), .v (.string p1)]) (by kernel_rfl) (by kernel_rfl) (by kernel_rfl) h
def A_gate_Gate_Tick : Ann := (.seq .auto (.seq .auto (.seq (.seq .auto (.seq .auto (.seq .auto (.one [(20, (.one (.int .i64)))] .auto) none) (some [(14, (.one (.str))), (15, (.one (.ptr)))])) none) .auto none) none) none)
def F_gate_Gate_Tick (p0 : Option Addr) (p1 : Int) (K : Value → PT) : PT :=
 L.new [.pointer p0] T_p_gate_Gate fun b1 =>
 L.new [.int .i64 p1] T_int fun b2 =>
 L.new [.slice none 0 0] T_s_gate_Fate fun b3 =>
 L.load eP6 (⟨b1, 0, none⟩) fun (x4 : Option Addr) =>
 L.nonnil x4 fun a5 =>
 L.call Pr n_gate_book_wait_Line_each [.pointer (some (a5.add 2))] (.one (.one (.func))) fun (x6 : FV) =>
 L.range Pr none (.func x6.fn x6.fs x6.cs) [eS6, eP6] (fun l7 (y8 : ByteArray × Option Addr × Unit) R9 =>
  L.begin Pr l7 <|
  L.load eI6 (⟨b2, 0, none⟩) fun (x12 : Int) =>
  L.call Pr n_wait_Line_Late [.pointer y8.2.1, .int .i64 x12] rL fun (x13 : Sl) =>
  L.loop (Y := Int × Unit) (0, ()) fun y14 again15 =>
  L.ite (decide (y14.1 < ((x13.len : Nat) : Int))) (
   L.idx x13.a y14.1 x13.len 1 fun a16 =>
   L.load eI6 a16 fun (x17 : Int) =>
   L.draw <|
   L.load eL6 (⟨b3, 0, none⟩) fun (x18 : Sl) =>
   L.load eP6 (⟨b1, 0, none⟩) fun (x19 : Option Addr) =>
   L.call Pr n_gate_why [.string s_timeout] (.one (.agg [.int .i64, .int .i64, .int .i64, .str])) fun (x20 : pt10) =>
   L.chk (⟨b1, 0, none⟩) [.pointer x19] <|
   L.chk (⟨b3, 0, none⟩) [.slice x18.a x18.len x18.cap] <|
   L.call Pr n_gate_Gate_set [.pointer x19, .int .i64 x17, .string y8.1, .agg #[.int .i64 x20.1, .int .i64 x20.2.1, .int .i64 x20.2.2.1, .string x20.2.2.2.1]] (.one (.agg [.int .i64, .int .i64, .int .i64, .str])) fun (x21 : pt10) =>
   L.chk (⟨b3, 0, none⟩) [.slice x18.a x18.len x18.cap] <|
   L.new [.int .i64 x21.1, .int .i64 x21.2.1, .int .i64 x21.2.2.1, .string x21.2.2.2.1] T_gate_Fate fun b22 =>
   L.chk (⟨b3, 0, none⟩) [.slice x18.a x18.len x18.cap] <|
   L.sem Pr (.one (.one .slice)) (Builtin.append_ #[T_s_gate_Fate, T_s_gate_Fate] T_s_gate_Fate #[.slice x18.a x18.len x18.cap, .slice (some ⟨b22, 0, none⟩) 1 1]) fun (s23 : Sl) =>
   L.store (⟨b3, 0, none⟩) [.slice s23.a s23.len s23.cap] <|
   again15 (IntKind.wrap .i64 (y14.1 + 1), ())) <|
  L.endRound Pr l7 none R9) fun d10 j11 =>
 L.jump j11 (
  L.load eL6 (⟨b3, 0, none⟩) fun (x24 : Sl) =>
  L.call Pr n_slices_Clone_gate_Fate_gate_Fate [.slice x24.a x24.len x24.cap] rL fun (x25 : Sl) =>
  L.unmark Pr (d10 ++ []) <|
  K (.slice x25.a x25.len x25.cap)) (
  L.unmark Pr (d10 ++ []) <|
  K (.slice none 0 0)) []
theorem C_gate_Gate_Tick (p0 : Option Addr) (p1 : Int) {K : Value → PT} {w : World} (h : F_gate_Gate_Tick p0 p1 K w) : CT Pr n_gate_Gate_Tick [.pointer p0, .int .i64 p1] K w :=
 C_of (fn := Tryz.f84) (an := A_gate_Gate_Tick) (args := [.v (.pointer p0), .v (.int .i64 p1)]) (by kernel_rfl) (by kernel_rfl) (by kernel_rfl) h
def F_gauge_Gauge_Add (p0 : Option Addr) (p1 : Int) (K : Value → PT) : PT :=
 L.nonnil p0 fun a1 =>
 L.call Pr n_gauge_ring_int_add [.pointer (some (a1.add 0)), .int .i64 (if 0 > p1 then 0 else p1)] (.tup []) fun (x2 : Unit) =>
 L.nonnil p0 fun a3 =>
 L.load eI6 (a3.add 61) fun (x4 : Int) =>
 L.nonnil p0 fun a5 =>
 L.store (a5.add 61) [.int .i64 (IntKind.wrap .i64 (x4 + 1))] <|
 L.ite (decide ((if 0 > p1 then 0 else p1) > 0)) (
  L.nonnil p0 fun a6 =>
  L.store (a6.add 61) [.int .i64 0] <|
  K (.tuple #[])) <|
 K (.tuple #[])
theorem C_gauge_Gauge_Add (p0 : Option Addr) (p1 : Int) {K : Value → PT} {w : World} (h : F_gauge_Gauge_Add p0 p1 K w) : CT Pr n_gauge_Gauge_Add [.pointer p0, .int .i64 p1] K w :=
 C_of (fn := Tryz.f85) (an := .auto) (args := [.v (.pointer p0), .v (.int .i64 p1)]) (by kernel_rfl) (by kernel_rfl) (by kernel_rfl) h
def F_gate_Gate_Busy (p0 : Option Addr) (p1 : ByteArray) (K : Value → PT) : PT :=
 L.call Pr n_gate_Gate_Inside [.pointer p0, .string p1] (.tup [eL6, eL6]) fun (x1 : Sl × Sl × Unit) =>
 K (.int .i64 (IntKind.wrap .i64 (((x1.1.len : Nat) : Int) + ((x1.2.1.len : Nat) : Int))))
theorem C_gate_Gate_Busy (p0 : Option Addr) (p1 : ByteArray) {K : Value → PT} {w : World} (h : F_gate_Gate_Busy p0 p1 K w) : CT Pr n_gate_Gate_Busy [.pointer p0, .string p1] K w :=
 C_of (fn := Tryz.f86) (an := .auto) (args := [.v (.pointer p0), .v (.string p1)]) (by kernel_rfl) (by kernel_rfl) (by kernel_rfl) h
def F_shelf_Shelf_Config (p0 : Option Addr) (p1 : ByteArray) (K : Value → PT) : PT :=
 L.new [.string s_, .int .i64 0, .int .i64 0, .int .i64 0, .int .i64 0, .int .i64 0] T_api_Config fun b1 =>
 L.nonnil p0 fun a2 =>
 L.load eP6 (a2.add 0) fun (x3 : Option Addr) =>
 L.call Pr n_shelf_rack_api_Config_get [.pointer x3, .string p1] (.tup [(.agg lf10), eB6]) fun (x4 : pt13) =>
 L.new [.string s_, .int .i64 0, .int .i64 0, .int .i64 0, .int .i64 0, .int .i64 0, .int .i64 0, .int .i64 0, .bool false] T_shelf_thing_api_Config fun b5 =>
 L.store (⟨b5, 0, none⟩) [.string x4.1.1, .int .i64 x4.1.2.1, .int .i64 x4.1.2.2.1, .int .i64 x4.1.2.2.2.1, .int .i64 x4.1.2.2.2.2.1, .int .i64 x4.1.2.2.2.2.2.1, .int .i64 x4.1.2.2.2.2.2.2.1, .int .i64 x4.1.2.2.2.2.2.2.2.1, .bool x4.1.2.2.2.2.2.2.2.2.1] <|
 L.ite (!x4.2.1) (
  L.store (⟨b1, 0, none⟩) [.string s_, .int .i64 0, .int .i64 0, .int .i64 0, .int .i64 0, .int .i64 0] <|
  L.load (.agg lf0) (⟨b1, 0, none⟩) fun (x6 : pt0) =>
  K (.tuple #[(qa0 x6), .int .i64 0, .int .i64 0, .bool false])) <|
 L.draw <|
 L.load (.agg lf0) ((⟨b5, 0, none⟩ : Addr).add 0) fun (x7 : pt0) =>
 L.load eI6 ((⟨b5, 0, none⟩ : Addr).add 6) fun (x8 : Int) =>
 L.load eI6 ((⟨b5, 0, none⟩ : Addr).add 7) fun (x9 : Int) =>
 L.store (⟨b1, 0, none⟩) [.string x7.1, .int .i64 x7.2.1, .int .i64 x7.2.2.1, .int .i64 x7.2.2.2.1, .int .i64 x7.2.2.2.2.1, .int .i64 x7.2.2.2.2.2.1] <|
 L.chk ((⟨b5, 0, none⟩ : Addr).add 7) [.int .i64 x9] <|
 L.chk ((⟨b5, 0, none⟩ : Addr).add 6) [.int .i64 x8] <|
 L.chk ((⟨b5, 0, none⟩ : Addr).add 7) [.int .i64 x9] <|
 L.load (.agg lf0) (⟨b1, 0, none⟩) fun (x10 : pt0) =>
 K (.tuple #[(qa0 x10), .int .i64 x8, .int .i64 x9, .bool true])
theorem C_shelf_Shelf_Config (p0 : Option Addr) (p1 : ByteArray) {K : Value → PT} {w : World} (h : F_shelf_Shelf_Config p0 p1 K w) : CT Pr n_shelf_Shelf_Config [.pointer p0, .string p1] K w :=
 C_of (fn := Tryz.f87) (an := .auto) (args := [.v (.pointer p0), .v (.string p1)]) (by kernel_rfl) (by kernel_rfl) (by kernel_rfl) h
def F_stamp_Book_Stamp (p0 : Option Addr) (p1 : ht0) (p2 : Int) (K : Value → PT) : PT :=
 L.new [.string p1.1, .int .i64 p1.2.1, .int .i64 p1.2.2.1, .int .i64 p1.2.2.2.1, .int .i64 p1.2.2.2.2.1, .int .i64 p1.2.2.2.2.2.1] T_api_Config fun b1 =>
 L.load eS6 ((⟨b1, 0, none⟩ : Addr).add 0) fun (x2 : ByteArray) =>
 L.call Pr n_label_Rev [.string x2, .int .i64 p2] rS fun (x3 : ByteArray) =>
 L.ite (x3.toList == s_.toList) (
  K (.tuple #[.string x3, .bool false])) <|
 L.nonnil p0 fun a4 =>
 L.load (.one (.map)) (a4.add 0) fun (x5 : Option Nat) =>
 L.semR Pr (.one (.agg lf5)) (Instr.lookup T_stamp_shelf_api_Revision (.map x5) (.string x3) false) fun (x6 : pt14) =>
 L.chkSem Pr (do eqGuard .neq T_api_Revision (.tmp 0) (.tmp 0) ((qa3 x6)) (.agg #[.string s_, .int .i64 0, .string s_, .int .i64 0, .int .i64 0, .int .i64 0, .int .i64 0, .int .i64 0]); binOp .neq T_api_Revision ((qa3 x6)) (.agg #[.string s_, .int .i64 0, .string s_, .int .i64 0, .int .i64 0, .int .i64 0, .int .i64 0, .int .i64 0])) (.bool (!((x6.1 == s_) && ((x6.2.1 == 0) && ((x6.2.2.1 == s_) && ((x6.2.2.2.1 == 0) && ((x6.2.2.2.2.1 == 0) && ((x6.2.2.2.2.2.1 == 0) && ((x6.2.2.2.2.2.2.1 == 0) && ((x6.2.2.2.2.2.2.2.1 == 0) && true)))))))))) <|
 L.ite (!((x6.1 == s_) && ((x6.2.1 == 0) && ((x6.2.2.1 == s_) && ((x6.2.2.2.1 == 0) && ((x6.2.2.2.2.1 == 0) && ((x6.2.2.2.2.2.1 == 0) && ((x6.2.2.2.2.2.2.1 == 0) && ((x6.2.2.2.2.2.2.2.1 == 0) && true))))))))) (
  K (.tuple #[.string x3, .bool false])) <|
 L.draw <|
 L.nonnil p0 fun a7 =>
 L.load (.one (.map)) (a7.add 0) fun (x8 : Option Nat) =>
 L.load (.agg lf0) (⟨b1, 0, none⟩) fun (x9 : pt0) =>
 L.semU Pr (Instr.mapUpdate T_stamp_shelf_api_Revision (.map x8) (.string x3) (.agg #[.string x3, .int .i64 p2, .string x9.1, .int .i64 x9.2.1, .int .i64 x9.2.2.1, .int .i64 x9.2.2.2.1, .int .i64 x9.2.2.2.2.1, .int .i64 x9.2.2.2.2.2.1])) <|
 K (.tuple #[.string x3, .bool true])
theorem C_stamp_Book_Stamp (p0 : Option Addr) (p1 : ht0) (p2 : Int) {K : Value → PT} {w : World} (h : F_stamp_Book_Stamp p0 p1 p2 K w) : CT Pr n_stamp_Book_Stamp [.pointer p0, (.ag (qc0 p1) : SV).toV, .int .i64 p2] K w :=
 C_of (fn := Tryz.f88) (an := .auto) (args := [.v (.pointer p0), .ag (qc0 p1), .v (.int .i64 p2)]) (by kernel_rfl) (by kernel_rfl) (by kernel_rfl) h
def F_gauge_New  (K : Value → PT) : PT :=
 L.new [.int .i64 0, .int .i64 0, .int .i64 0, .int .i64 0, .int .i64 0, .int .i64 0, .int .i64 0, .int .i64 0, .int .i64 0, .int .i64 0, .int .i64 0, .int .i64 0, .int .i64 0, .int .i64 0, .int .i64 0, .int .i64 0, .int .i64 0, .int .i64 0, .int .i64 0, .int .i64 0, .int .i64 0, .int .i64 0, .int .i64 0, .int .i64 0, .int .i64 0, .int .i64 0, .int .i64 0, .int .i64 0, .int .i64 0, .int .i64 0, .int .i64 0, .int .i64 0, .int .i64 0, .int .i64 0, .int .i64 0, .int .i64 0, .int .i64 0, .int .i64 0, .int .i64 0, .int .i64 0, .int .i64 0, .int .i64 0, .int .i64 0, .int .i64 0, .int .i64 0, .int .i64 0, .int .i64 0, .int .i64 0, .int .i64 0, .int .i64 0, .int .i64 0, .int .i64 0, .int .i64 0, .int .i64 0, .int .i64 0, .int .i64 0, .int .i64 0, .int .i64 0, .int .i64 0, .int .i64 0, .int .i64 0, .int .i64 0] T_gauge_Gauge fun b1 =>
 K (.pointer (some (⟨b1, 0, none⟩)))
theorem C_gauge_New  {K : Value → PT} {w : World} (h : F_gauge_New  K w) : CT Pr n_gauge_New [] K w :=
 C_of (fn := Tryz.f89) (an := .auto) (args := []) (by kernel_rfl) (by kernel_rfl) (by kernel_rfl) h
def F_shelf_Shelf_Route (p0 : Option Addr) (p1 : ByteArray) (K : Value → PT) : PT :=
 L.new [.string s_, .string s_, .slice none 0 0, .int .i64 0] T_api_Route fun b1 =>
 L.nonnil p0 fun a2 =>
 L.load eP6 (a2.add 1) fun (x3 : Option Addr) =>
 L.call Pr n_shelf_rack_api_Route_get [.pointer x3, .string p1] (.tup [(.agg lf11), eB6]) fun (x4 : pt15) =>
 L.new [.string s_, .string s_, .slice none 0 0, .int .i64 0, .int .i64 0, .int .i64 0, .bool false] T_shelf_thing_api_Route fun b5 =>
 L.store (⟨b5, 0, none⟩) [.string x4.1.1, .string x4.1.2.1, .slice x4.1.2.2.1.a x4.1.2.2.1.len x4.1.2.2.1.cap, .int .i64 x4.1.2.2.2.1, .int .i64 x4.1.2.2.2.2.1, .int .i64 x4.1.2.2.2.2.2.1, .bool x4.1.2.2.2.2.2.2.1] <|
 L.ite (!x4.2.1) (
  L.store (⟨b1, 0, none⟩) [.string s_, .string s_, .slice none 0 0, .int .i64 0] <|
  L.load (.agg [.str, .str, .slice, .int .i64]) (⟨b1, 0, none⟩) fun (x6 : pt3) =>
  K (.tuple #[.agg #[.string x6.1, .string x6.2.1, .slice x6.2.2.1.a x6.2.2.1.len x6.2.2.1.cap, .int .i64 x6.2.2.2.1], .int .i64 0, .bool false])) <|
 L.draw <|
 L.load (.agg [.str, .str, .slice, .int .i64]) ((⟨b5, 0, none⟩ : Addr).add 0) fun (x7 : pt3) =>
 L.load eI6 ((⟨b5, 0, none⟩ : Addr).add 4) fun (x8 : Int) =>
 L.call Pr n_shelf_own [.agg #[.string x7.1, .string x7.2.1, .slice x7.2.2.1.a x7.2.2.1.len x7.2.2.1.cap, .int .i64 x7.2.2.2.1]] (.one (.agg [.str, .str, .slice, .int .i64])) fun (x9 : pt3) =>
 L.chk ((⟨b5, 0, none⟩ : Addr).add 4) [.int .i64 x8] <|
 L.store (⟨b1, 0, none⟩) [.string x9.1, .string x9.2.1, .slice x9.2.2.1.a x9.2.2.1.len x9.2.2.1.cap, .int .i64 x9.2.2.2.1] <|
 L.chk ((⟨b5, 0, none⟩ : Addr).add 4) [.int .i64 x8] <|
 L.load (.agg [.str, .str, .slice, .int .i64]) (⟨b1, 0, none⟩) fun (x10 : pt3) =>
 K (.tuple #[.agg #[.string x10.1, .string x10.2.1, .slice x10.2.2.1.a x10.2.2.1.len x10.2.2.1.cap, .int .i64 x10.2.2.2.1], .int .i64 x8, .bool true])
theorem C_shelf_Shelf_Route (p0 : Option Addr) (p1 : ByteArray) {K : Value → PT} {w : World} (h : F_shelf_Shelf_Route p0 p1 K w) : CT Pr n_shelf_Shelf_Route [.pointer p0, .string p1] K w :=
 C_of (fn := Tryz.f90) (an := .auto) (args := [.v (.pointer p0), .v (.string p1)]) (by kernel_rfl) (by kernel_rfl) (by kernel_rfl) h
def A_lead_Resolve : Ann := (.seq .auto (.seq .auto (.seq (.seq .auto (.one [(5, (.one (.int .i64))), (22, (.one (.int .i64)))] (.seq .auto (.seq .auto (.seq .auto .auto (some [(5, (.one (.int .i64)))])) none) none)) none) (.seq .auto (.seq (.seq .auto (.seq .auto .auto (some [(53, (.one (.str))), (54, (.one (.int .i64)))])) none) (.seq (.seq .auto (.seq .auto .auto (some [(67, (.one (.str))), (68, (.one (.str)))])) none) .auto none) none) none) none) none) none)
def F_lead_Resolve (p0 : ht2) (p1 : Option Addr) (K : Value → PT) : PT :=
 L.new [.string p0.1, .string p0.2.1, .slice p0.2.2.1.a p0.2.2.1.len p0.2.2.1.cap, .int .i64 p0.2.2.2.1] T_api_Route fun b1 =>
 L.new [.slice none 0 0, .slice none 0 0] T_api_Table fun b2 =>
 L.sem Pr (.one (.one .map)) (Instr.makeMap T_map_string_int none) fun (m3 : Option Nat) =>
 L.sem Pr (.one (.one .map)) (Instr.makeMap T_map_string_string none) fun (m4 : Option Nat) =>
 L.load eL6 ((⟨b1, 0, none⟩ : Addr).add 2) fun (x5 : Sl) =>
 L.loop (Y := Int × Int × Unit) (0, 0, ()) fun y6 again7 =>
 L.ite (decide (y6.2.1 < ((x5.len : Nat) : Int))) (
  L.join (Y := Int × Unit) (fun k8 =>
   L.idx x5.a y6.2.1 x5.len 3 fun a10 =>
   L.load (.agg [.str, .str, .int .i64]) a10 fun (x11 : pt9) =>
   L.new [.string s_, .string s_, .int .i64 0] T_api_Target fun b12 =>
   L.store (⟨b12, 0, none⟩) [.string x11.1, .string x11.2.1, .int .i64 x11.2.2.1] <|
   L.load (.agg [.str, .str, .int .i64]) (⟨b12, 0, none⟩) fun (x13 : pt9) =>
   L.load (.agg [.str, .str, .slice, .int .i64]) (⟨b1, 0, none⟩) fun (x14 : pt3) =>
   L.call Pr n_lead_target [.agg #[.string x13.1, .string x13.2.1, .int .i64 x13.2.2.1], .agg #[.string x14.1, .string x14.2.1, .slice x14.2.2.1.a x14.2.2.1.len x14.2.2.1.cap, .int .i64 x14.2.2.2.1], .pointer p1] (.tup [eS6, eI6]) fun (x15 : ByteArray × Int × Unit) =>
   L.ite (x15.2.1 != 0) (
    L.store (⟨b2, 0, none⟩) [.slice none 0 0, .slice none 0 0] <|
    L.load (.agg [.slice, .slice]) (⟨b2, 0, none⟩) fun (x16 : Sl × Sl × Unit) =>
    K (.tuple #[.agg #[.slice x16.1.a x16.1.len x16.1.cap, .slice x16.2.1.a x16.2.1.len x16.2.1.cap], .int .i64 x15.2.1])) <|
   L.semR Pr rI (Instr.lookup T_map_string_int (.map m3) (.string x15.1) false) fun (x17 : Int) =>
   L.load eI6 ((⟨b12, 0, none⟩ : Addr).add 2) fun (x18 : Int) =>
   L.semU Pr (Instr.mapUpdate T_map_string_int (.map m3) (.string x15.1) (.int .i64 (IntKind.wrap .i64 (x17 + x18)))) <|
   L.load eS6 ((⟨b12, 0, none⟩ : Addr).add 1) fun (x19 : ByteArray) =>
   L.ite (!(x19.toList == s_.toList)) (
    L.load eS6 ((⟨b12, 0, none⟩ : Addr).add 1) fun (x20 : ByteArray) =>
    L.semU Pr (Instr.mapUpdate T_map_string_string (.map m4) (.string x20) (.string x15.1)) <|
    k8 (y6.1, ())) <|
   k8 (y6.1, ())) fun z9 =>
  again7 (z9.1, IntKind.wrap .i64 (y6.2.1 + 1), ())) <|
 L.new [.slice none 0 0, .slice none 0 0] T_api_Table fun b21 =>
 L.call Pr n_lead_inOrder_string_int [.map m3] (.one (.one (.func))) fun (x22 : FV) =>
 L.range Pr none (.func x22.fn x22.fs x22.cs) [eS6, eI6] (fun l23 (y24 : ByteArray × Int × Unit) R25 =>
  L.begin Pr l23 <|
  L.ite (decide (y24.2.1 > 0)) (
   L.load eL6 ((⟨b21, 0, none⟩ : Addr).add 0) fun (x28 : Sl) =>
   L.new [.string y24.1, .int .i64 y24.2.1] T_api_Share fun b29 =>
   L.sem Pr (.one (.one .slice)) (Builtin.append_ #[T_s_api_Share, T_s_api_Share] T_s_api_Share #[.slice x28.a x28.len x28.cap, .slice (some ⟨b29, 0, none⟩) 1 1]) fun (s30 : Sl) =>
   L.store ((⟨b21, 0, none⟩ : Addr).add 0) [.slice s30.a s30.len s30.cap] <|
   L.endRound Pr l23 none R25) <|
  L.endRound Pr l23 none R25) fun d26 j27 =>
 L.jump j27 (
  L.call Pr n_lead_inOrder_string_string [.map m4] (.one (.one (.func))) fun (x31 : FV) =>
  L.range Pr none (.func x31.fn x31.fs x31.cs) [eS6, eS6] (fun l32 (y33 : ByteArray × ByteArray × Unit) R34 =>
   L.begin Pr l32 <|
   L.load eL6 ((⟨b21, 0, none⟩ : Addr).add 1) fun (x37 : Sl) =>
   L.new [.string y33.1, .string y33.2.1] T_api_TagTo fun b38 =>
   L.sem Pr (.one (.one .slice)) (Builtin.append_ #[T_s_api_TagTo, T_s_api_TagTo] T_s_api_TagTo #[.slice x37.a x37.len x37.cap, .slice (some ⟨b38, 0, none⟩) 1 1]) fun (s39 : Sl) =>
   L.store ((⟨b21, 0, none⟩ : Addr).add 1) [.slice s39.a s39.len s39.cap] <|
   L.endRound Pr l32 none R34) fun d35 j36 =>
  L.jump j36 (
   L.load (.agg [.slice, .slice]) (⟨b21, 0, none⟩) fun (x40 : Sl × Sl × Unit) =>
   L.call Pr n_lead_own [.agg #[.slice x40.1.a x40.1.len x40.1.cap, .slice x40.2.1.a x40.2.1.len x40.2.1.cap]] (.one (.agg [.slice, .slice])) fun (x41 : Sl × Sl × Unit) =>
   L.store (⟨b2, 0, none⟩) [.slice x41.1.a x41.1.len x41.1.cap, .slice x41.2.1.a x41.2.1.len x41.2.1.cap] <|
   L.unmark Pr (d35 ++ (d26 ++ [])) <|
   L.load (.agg [.slice, .slice]) (⟨b2, 0, none⟩) fun (x42 : Sl × Sl × Unit) =>
   K (.tuple #[.agg #[.slice x42.1.a x42.1.len x42.1.cap, .slice x42.2.1.a x42.2.1.len x42.2.1.cap], .int .i64 0])) (
   L.unmark Pr (d35 ++ (d26 ++ [])) <|
   L.load (.agg [.slice, .slice]) (⟨b2, 0, none⟩) fun (x43 : Sl × Sl × Unit) =>
   K (.tuple #[.agg #[.slice x43.1.a x43.1.len x43.1.cap, .slice x43.2.1.a x43.2.1.len x43.2.1.cap], .int .i64 y6.1])) []) (
  L.unmark Pr (d26 ++ []) <|
  L.load (.agg [.slice, .slice]) (⟨b2, 0, none⟩) fun (x44 : Sl × Sl × Unit) =>
  K (.tuple #[.agg #[.slice x44.1.a x44.1.len x44.1.cap, .slice x44.2.1.a x44.2.1.len x44.2.1.cap], .int .i64 y6.1])) []
theorem C_lead_Resolve (p0 : ht2) (p1 : Option Addr) {K : Value → PT} {w : World} (h : F_lead_Resolve p0 p1 K w) : CT Pr n_lead_Resolve [(.ag (qc2 p0) : SV).toV, .pointer p1] K w :=
 C_of (fn := Tryz.f91) (an := A_lead_Resolve) (args := [.ag (qc2 p0), .v (.pointer p1)]) (by kernel_rfl) (by kernel_rfl) (by kernel_rfl) h
def A_table_Text : Ann := (.seq .auto (.seq .auto (.seq .auto (.seq (.seq .auto (.one [(5, (.one (.slice))), (17, (.one (.int .i64)))] .auto) none) (.seq (.seq .auto (.one [(5, (.one (.slice))), (33, (.one (.int .i64)))] .auto) none) .auto none) none) none) none) none)
def F_table_Text (p0 : HT [.slice, .slice]) (K : Value → PT) : PT :=
 L.new [.slice p0.1.a p0.1.len p0.1.cap, .slice p0.2.1.a p0.2.1.len p0.2.1.cap] T_api_Table fun b1 =>
 L.load (.agg [.slice, .slice]) (⟨b1, 0, none⟩) fun (x2 : Sl × Sl × Unit) =>
 L.call Pr n_table_texts [.agg #[.slice x2.1.a x2.1.len x2.1.cap, .slice x2.2.1.a x2.2.1.len x2.2.1.cap]] (.tup [eL6, eL6]) fun (x3 : Sl × Sl × Unit) =>
 L.loop (Y := Sl × Int × Unit) (⟨none, 0, 0⟩, 0, ()) fun y4 again5 =>
 L.ite (decide (y4.2.1 < ((x3.1.len : Nat) : Int))) (
  L.idx x3.1.a y4.2.1 x3.1.len 2 fun a6 =>
  L.load (.agg [.str, .str]) a6 fun (x7 : ByteArray × ByteArray × Unit) =>
  L.new [.string s_, .string s_] T_table_pair fun b8 =>
  L.store (⟨b8, 0, none⟩) [.string x7.1, .string x7.2.1] <|
  L.idx (some (⟨b8, 0, none⟩)) 0 2 1 fun a9 =>
  L.load eS6 a9 fun (x10 : ByteArray) =>
  L.guard (((x10.size + s___b5df.size : Nat) : Int) ≤ maxI64) <|
  L.idx (some (⟨b8, 0, none⟩)) 1 2 1 fun a11 =>
  L.load eS6 a11 fun (x12 : ByteArray) =>
  L.guard ((((x10 ++ s___b5df).size + x12.size : Nat) : Int) ≤ maxI64) <|
  L.new [.string ((x10 ++ s___b5df) ++ x12)] T_string fun b13 =>
  L.sem Pr (.one (.one .slice)) (Builtin.append_ #[T_s_string, T_s_string] T_s_string #[.slice y4.1.a y4.1.len y4.1.cap, .slice (some ⟨b13, 0, none⟩) 1 1]) fun (s14 : Sl) =>
  again5 (⟨s14.a, s14.len, s14.cap⟩, IntKind.wrap .i64 (y4.2.1 + 1), ())) <|
 L.loop (Y := Sl × Int × Unit) (⟨y4.1.a, y4.1.len, y4.1.cap⟩, 0, ()) fun y15 again16 =>
 L.ite (decide (y15.2.1 < ((x3.2.1.len : Nat) : Int))) (
  L.idx x3.2.1.a y15.2.1 x3.2.1.len 2 fun a17 =>
  L.load (.agg [.str, .str]) a17 fun (x18 : ByteArray × ByteArray × Unit) =>
  L.new [.string s_, .string s_] T_table_pair fun b19 =>
  L.store (⟨b19, 0, none⟩) [.string x18.1, .string x18.2.1] <|
  L.idx (some (⟨b19, 0, none⟩)) 0 2 1 fun a20 =>
  L.load eS6 a20 fun (x21 : ByteArray) =>
  L.guard (((x21.size + s___b5e2.size : Nat) : Int) ≤ maxI64) <|
  L.idx (some (⟨b19, 0, none⟩)) 1 2 1 fun a22 =>
  L.load eS6 a22 fun (x23 : ByteArray) =>
  L.guard ((((x21 ++ s___b5e2).size + x23.size : Nat) : Int) ≤ maxI64) <|
  L.new [.string ((x21 ++ s___b5e2) ++ x23)] T_string fun b24 =>
  L.sem Pr (.one (.one .slice)) (Builtin.append_ #[T_s_string, T_s_string] T_s_string #[.slice y15.1.a y15.1.len y15.1.cap, .slice (some ⟨b24, 0, none⟩) 1 1]) fun (s25 : Sl) =>
  again16 (⟨s25.a, s25.len, s25.cap⟩, IntKind.wrap .i64 (y15.2.1 + 1), ())) <|
 L.call Pr n_strings_Join [.slice y15.1.a y15.1.len y15.1.cap, .string s___b5c5] rS fun (x26 : ByteArray) =>
 K (.string x26)
theorem C_table_Text (p0 : HT [.slice, .slice]) {K : Value → PT} {w : World} (h : F_table_Text p0 K w) : CT Pr n_table_Text [(.ag [.slice p0.1.a p0.1.len p0.1.cap, .slice p0.2.1.a p0.2.1.len p0.2.1.cap] : SV).toV] K w :=
 C_of (fn := Tryz.f92) (an := A_table_Text) (args := [.ag [.slice p0.1.a p0.1.len p0.1.cap, .slice p0.2.1.a p0.2.1.len p0.2.1.cap]]) (by kernel_rfl) (by kernel_rfl) (by kernel_rfl) h
def A_lead_Roller_Turn : Ann := (.seq .auto (.seq .auto (.seq .auto .auto (some [])) none) none)
def F_lead_Roller_Turn (p0 : Option Addr) (p1 : ByteArray) (p2 : HT [.slice, .slice]) (p3 : Int) (p4 : Int) (K : Value → PT) : PT :=
 L.new [.slice p2.1.a p2.1.len p2.1.cap, .slice p2.2.1.a p2.2.1.len p2.2.1.cap] T_api_Table fun b1 =>
 L.new [.slice none 0 0, .slice none 0 0] T_api_Table fun b2 =>
 L.nonnil p0 fun a3 =>
 L.load (.one (.map)) (a3.add 0) fun (x4 : Option Nat) =>
 L.semR Pr (.tup [(.agg lf6), .one .bool]) (Instr.lookup T_map_string_lead_way (.map x4) (.string p1) true) fun (x5 : pt7) =>
 L.new [.slice none 0 0, .slice none 0 0, .int .i64 0, .int .i64 0, .slice none 0 0, .slice none 0 0] T_lead_way fun b6 =>
 L.store (⟨b6, 0, none⟩) [.slice x5.1.1.a x5.1.1.len x5.1.1.cap, .slice x5.1.2.1.a x5.1.2.1.len x5.1.2.1.cap, .int .i64 x5.1.2.2.1, .int .i64 x5.1.2.2.2.1, .slice x5.1.2.2.2.2.1.a x5.1.2.2.2.2.1.len x5.1.2.2.2.2.1.cap, .slice x5.1.2.2.2.2.2.1.a x5.1.2.2.2.2.2.1.len x5.1.2.2.2.2.2.1.cap] <|
 L.join (Y := Unit) (fun k7 =>
  L.ite (!x5.2.1) (
   L.draw <|
   L.load (.agg [.slice, .slice]) (⟨b1, 0, none⟩) fun (x9 : Sl × Sl × Unit) =>
   L.load (.agg [.slice, .slice]) (⟨b1, 0, none⟩) fun (x10 : Sl × Sl × Unit) =>
   L.call Pr n_lead_own [.agg #[.slice x9.1.a x9.1.len x9.1.cap, .slice x9.2.1.a x9.2.1.len x9.2.1.cap]] (.one (.agg [.slice, .slice])) fun (x11 : Sl × Sl × Unit) =>
   L.chk (⟨b1, 0, none⟩) [.slice x10.1.a x10.1.len x10.1.cap, .slice x10.2.1.a x10.2.1.len x10.2.1.cap] <|
   L.call Pr n_lead_own [.agg #[.slice x10.1.a x10.1.len x10.1.cap, .slice x10.2.1.a x10.2.1.len x10.2.1.cap]] (.one (.agg [.slice, .slice])) fun (x12 : Sl × Sl × Unit) =>
   L.store (⟨b6, 0, none⟩) [.slice x11.1.a x11.1.len x11.1.cap, .slice x12.1.a x12.1.len x12.1.cap, .int .i64 p3, .int .i64 p4, .slice none 0 0, .slice none 0 0] <|
   k7 (())) <|
  L.load eL6 ((⟨b6, 0, none⟩ : Addr).add 1) fun (x13 : Sl) =>
  L.load eL6 ((⟨b1, 0, none⟩ : Addr).add 0) fun (x14 : Sl) =>
  L.call Pr n_slices_Equal_api_Share_api_Share [.slice x13.a x13.len x13.cap, .slice x14.a x14.len x14.cap] rB fun (x15 : Bool) =>
  L.ite (!x15) (
   L.draw <|
   L.load eL6 (((⟨b6, 0, none⟩ : Addr).add 4).add 0) fun (x16 : Sl) =>
   L.load (.agg [.slice, .slice]) (⟨b1, 0, none⟩) fun (x17 : Sl × Sl × Unit) =>
   L.call Pr n_lead_own [.agg #[.slice x17.1.a x17.1.len x17.1.cap, .slice x17.2.1.a x17.2.1.len x17.2.1.cap]] (.one (.agg [.slice, .slice])) fun (x18 : Sl × Sl × Unit) =>
   L.chk (((⟨b6, 0, none⟩ : Addr).add 4).add 0) [.slice x16.a x16.len x16.cap] <|
   L.store (⟨b6, 0, none⟩) [.slice x16.a x16.len x16.cap, .slice x18.1.a x18.1.len x18.1.cap, .int .i64 p3, .int .i64 p4, .slice none 0 0, .slice none 0 0] <|
   k7 (())) <|
  L.load eI6 ((⟨b6, 0, none⟩ : Addr).add 3) fun (x19 : Int) =>
  L.ite (x19 != p4) (
   L.draw <|
   L.load eL6 (((⟨b6, 0, none⟩ : Addr).add 4).add 0) fun (x20 : Sl) =>
   L.load (.agg [.slice, .slice]) (⟨b1, 0, none⟩) fun (x21 : Sl × Sl × Unit) =>
   L.call Pr n_lead_own [.agg #[.slice x21.1.a x21.1.len x21.1.cap, .slice x21.2.1.a x21.2.1.len x21.2.1.cap]] (.one (.agg [.slice, .slice])) fun (x22 : Sl × Sl × Unit) =>
   L.chk (((⟨b6, 0, none⟩ : Addr).add 4).add 0) [.slice x20.a x20.len x20.cap] <|
   L.store (⟨b6, 0, none⟩) [.slice x20.a x20.len x20.cap, .slice x22.1.a x22.1.len x22.1.cap, .int .i64 p3, .int .i64 p4, .slice none 0 0, .slice none 0 0] <|
   k7 (())) <|
  k7 (())) fun z8 =>
 L.draw <|
 L.load eL6 ((⟨b6, 0, none⟩ : Addr).add 0) fun (x23 : Sl) =>
 L.load eL6 ((⟨b6, 0, none⟩ : Addr).add 1) fun (x24 : Sl) =>
 L.load eI6 ((⟨b6, 0, none⟩ : Addr).add 2) fun (x25 : Int) =>
 L.load (.agg [.slice, .slice]) (⟨b1, 0, none⟩) fun (x26 : Sl × Sl × Unit) =>
 L.call Pr n_roll_Shares [.slice x23.a x23.len x23.cap, .slice x24.a x24.len x24.cap, .int .i64 (IntKind.wrap .i64 (p3 - x25)), .int .i64 p4] rL fun (x27 : Sl) =>
 L.chk (⟨b1, 0, none⟩) [.slice x26.1.a x26.1.len x26.1.cap, .slice x26.2.1.a x26.2.1.len x26.2.1.cap] <|
 L.call Pr n_lead_own [.agg #[.slice x26.1.a x26.1.len x26.1.cap, .slice x26.2.1.a x26.2.1.len x26.2.1.cap]] (.one (.agg [.slice, .slice])) fun (x28 : Sl × Sl × Unit) =>
 L.store ((⟨b6, 0, none⟩ : Addr).add 4) [.slice x27.a x27.len x27.cap, .slice x28.2.1.a x28.2.1.len x28.2.1.cap] <|
 L.draw <|
 L.nonnil p0 fun a29 =>
 L.load (.one (.map)) (a29.add 0) fun (x30 : Option Nat) =>
 L.load (.agg lf6) (⟨b6, 0, none⟩) fun (x31 : pt16) =>
 L.semU Pr (Instr.mapUpdate T_map_string_lead_way (.map x30) (.string p1) ((qa4 x31))) <|
 L.load (.agg [.slice, .slice]) ((⟨b6, 0, none⟩ : Addr).add 4) fun (x32 : Sl × Sl × Unit) =>
 L.call Pr n_lead_own [.agg #[.slice x32.1.a x32.1.len x32.1.cap, .slice x32.2.1.a x32.2.1.len x32.2.1.cap]] (.one (.agg [.slice, .slice])) fun (x33 : Sl × Sl × Unit) =>
 L.store (⟨b2, 0, none⟩) [.slice x33.1.a x33.1.len x33.1.cap, .slice x33.2.1.a x33.2.1.len x33.2.1.cap] <|
 L.load (.agg [.slice, .slice]) (⟨b2, 0, none⟩) fun (x34 : Sl × Sl × Unit) =>
 K (.agg #[.slice x34.1.a x34.1.len x34.1.cap, .slice x34.2.1.a x34.2.1.len x34.2.1.cap])
theorem C_lead_Roller_Turn (p0 : Option Addr) (p1 : ByteArray) (p2 : HT [.slice, .slice]) (p3 : Int) (p4 : Int) {K : Value → PT} {w : World} (h : F_lead_Roller_Turn p0 p1 p2 p3 p4 K w) : CT Pr n_lead_Roller_Turn [.pointer p0, .string p1, (.ag [.slice p2.1.a p2.1.len p2.1.cap, .slice p2.2.1.a p2.2.1.len p2.2.1.cap] : SV).toV, .int .i64 p3, .int .i64 p4] K w :=
 C_of (fn := Tryz.f93) (an := A_lead_Roller_Turn) (args := [.v (.pointer p0), .v (.string p1), .ag [.slice p2.1.a p2.1.len p2.1.cap, .slice p2.2.1.a p2.2.1.len p2.2.1.cap], .v (.int .i64 p3), .v (.int .i64 p4)]) (by kernel_rfl) (by kernel_rfl) (by kernel_rfl) h
def F_stamp_Book_Get (p0 : Option Addr) (p1 : ByteArray) (K : Value → PT) : PT :=
 L.new [.string s_, .int .i64 0, .string s_, .int .i64 0, .int .i64 0, .int .i64 0, .int .i64 0, .int .i64 0] T_api_Revision fun b1 =>
 L.nonnil p0 fun a2 =>
 L.load (.one (.map)) (a2.add 0) fun (x3 : Option Nat) =>
 L.semR Pr (.tup [(.agg lf5), .one .bool]) (Instr.lookup T_stamp_shelf_api_Revision (.map x3) (.string p1) true) fun (x4 : pt6) =>
 L.new [.string s_, .int .i64 0, .string s_, .int .i64 0, .int .i64 0, .int .i64 0, .int .i64 0, .int .i64 0] T_api_Revision fun b5 =>
 L.store (⟨b5, 0, none⟩) [.string x4.1.1, .int .i64 x4.1.2.1, .string x4.1.2.2.1, .int .i64 x4.1.2.2.2.1, .int .i64 x4.1.2.2.2.2.1, .int .i64 x4.1.2.2.2.2.2.1, .int .i64 x4.1.2.2.2.2.2.2.1, .int .i64 x4.1.2.2.2.2.2.2.2.1] <|
 L.load (.agg lf5) (⟨b5, 0, none⟩) fun (x6 : pt14) =>
 L.store (⟨b1, 0, none⟩) [.string x6.1, .int .i64 x6.2.1, .string x6.2.2.1, .int .i64 x6.2.2.2.1, .int .i64 x6.2.2.2.2.1, .int .i64 x6.2.2.2.2.2.1, .int .i64 x6.2.2.2.2.2.2.1, .int .i64 x6.2.2.2.2.2.2.2.1] <|
 L.load (.agg lf5) (⟨b1, 0, none⟩) fun (x7 : pt14) =>
 K (.tuple #[(qa3 x7), .bool x4.2.1])
theorem C_stamp_Book_Get (p0 : Option Addr) (p1 : ByteArray) {K : Value → PT} {w : World} (h : F_stamp_Book_Get p0 p1 K w) : CT Pr n_stamp_Book_Get [.pointer p0, .string p1] K w :=
 C_of (fn := Tryz.f94) (an := .auto) (args := [.v (.pointer p0), .v (.string p1)]) (by kernel_rfl) (by kernel_rfl) (by kernel_rfl) h
def A_system_System_count : Ann := (.seq .auto (.seq .auto (.seq (.seq .auto (.one [(7, (.one (.int .i64))), (14, (.one (.int .i64)))] (.seq .auto (.seq .auto (.seq .auto .auto (some [(7, (.one (.int .i64)))])) none) none)) none) .auto none) none) none)
def F_system_System_count (p0 : Option Addr) (p1 : ByteArray) (p2 : FV) (K : Value → PT) : PT :=
 L.call Pr n_system_System_Pods [.pointer p0, .string p1] rL fun (x1 : Sl) =>
 L.loop (Y := Int × Int × Unit) (0, 0, ()) fun y2 again3 =>
 L.ite (decide (y2.2.1 < ((x1.len : Nat) : Int))) (
  L.join (Y := Int × Unit) (fun k4 =>
   L.idx x1.a y2.2.1 x1.len 3 fun a6 =>
   L.load (.agg [.int .i64, .int .i64, .int .i64]) a6 fun (x7 : Int × Int × Int × Unit) =>
   L.new [.int .i64 0, .int .i64 0, .int .i64 0] T_fleet_Look fun b8 =>
   L.store (⟨b8, 0, none⟩) [.int .i64 x7.1, .int .i64 x7.2.1, .int .i64 x7.2.2.1] <|
   L.load eI6 ((⟨b8, 0, none⟩ : Addr).add 1) fun (x9 : Int) =>
   L.callV Pr (.func p2.fn p2.fs p2.cs) [.int .i64 x9] rB fun (x10 : Bool) =>
   L.ite x10 (
    k4 (IntKind.wrap .i64 (y2.1 + 1), ())) <|
   k4 (y2.1, ())) fun z5 =>
  again3 (z5.1, IntKind.wrap .i64 (y2.2.1 + 1), ())) <|
 K (.int .i64 y2.1)
theorem C_system_System_count (p0 : Option Addr) (p1 : ByteArray) (p2 : FV) {K : Value → PT} {w : World} (h : F_system_System_count p0 p1 p2 K w) : CT Pr n_system_System_count [.pointer p0, .string p1, .func p2.fn p2.fs p2.cs] K w :=
 C_of (fn := Tryz.f95) (an := A_system_System_count) (args := [.v (.pointer p0), .v (.string p1), .v (.func p2.fn p2.fs p2.cs)]) (by kernel_rfl) (by kernel_rfl) (by kernel_rfl) h
def A_fleet_Fleet_Scale : Ann := (.seq .auto (.seq .auto (.seq (.one [(8, (.one (.slice))), (10, (.one (.int .i64)))] (.seq (.seq .auto (.cond .auto .auto) none) .auto none)) (.seq (.one [(9, (.one (.slice))), (10, (.one (.int .i64)))] .auto) .auto none) (some [(8, (.one (.slice))), (10, (.one (.int .i64)))])) none) none)
def F_fleet_Fleet_Scale (p0 : Option Addr) (p1 : ByteArray) (p2 : Int) (p3 : Int) (K : Value → PT) : PT :=
 L.call Pr n_fleet_Fleet_up [.pointer p0, .string p1] rI fun (x1 : Int) =>
 L.join (Y := Sl × Int × Unit) (fun k2 =>
  L.loop (Y := Sl × Int × Unit) (⟨none, 0, 0⟩, x1, ()) fun y4 again5 =>
  L.draw <|
  L.ite (decide (y4.2.1 < p3)) (
   L.nonnil p0 fun a6 =>
   L.load (.one (.map)) (a6.add 0) fun (x7 : Option Nat) =>
   L.semR Pr rI (Builtin.len_ #[T_map_int_fleet_one] T_int #[.map x7]) fun (x8 : Int) =>
   L.nonnil p0 fun a9 =>
   L.load eI6 (a9.add 2) fun (x10 : Int) =>
   L.ite (decide (x8 < x10)) (
    L.nonnil p0 fun a11 =>
    L.load eI6 (a11.add 3) fun (x12 : Int) =>
    L.nonnil p0 fun a13 =>
    L.store (a13.add 3) [.int .i64 (IntKind.wrap .i64 (x12 + 1))] <|
    L.draw <|
    L.nonnil p0 fun a14 =>
    L.load (.one (.map)) (a14.add 0) fun (x15 : Option Nat) =>
    L.nonnil p0 fun a16 =>
    L.load eI6 (a16.add 3) fun (x17 : Int) =>
    L.call Pr n_pod_New [.int .i64 p2] rP fun (x18 : Option Addr) =>
    L.chk (a16.add 3) [.int .i64 x17] <|
    L.chk (a14.add 0) [.map x15] <|
    L.semU Pr (Instr.mapUpdate T_map_int_fleet_one (.map x15) (.int .i64 x17) (.agg #[.string p1, .pointer x18])) <|
    L.nonnil p0 fun a19 =>
    L.load eI6 (a19.add 3) fun (x20 : Int) =>
    L.new [.int .i64 x20] T_int fun b21 =>
    L.sem Pr (.one (.one .slice)) (Builtin.append_ #[T_s_int, T_s_int] T_s_int #[.slice y4.1.a y4.1.len y4.1.cap, .slice (some ⟨b21, 0, none⟩) 1 1]) fun (s22 : Sl) =>
    again5 (⟨s22.a, s22.len, s22.cap⟩, IntKind.wrap .i64 (y4.2.1 + 1), ())) <|
   k2 (⟨y4.1.a, y4.1.len, y4.1.cap⟩, y4.2.1, ())) <|
  k2 (⟨y4.1.a, y4.1.len, y4.1.cap⟩, y4.2.1, ())) fun z3 =>
 L.loop (Y := Sl × Int × Unit) (⟨none, 0, 0⟩, z3.2.1, ()) fun y23 again24 =>
 L.ite (decide (y23.2.1 > (if 0 > p3 then 0 else p3))) (
  L.call Pr n_fleet_Fleet_spare [.pointer p0, .string p1] rI fun (x25 : Int) =>
  L.nonnil p0 fun a26 =>
  L.load (.one (.map)) (a26.add 0) fun (x27 : Option Nat) =>
  L.semR Pr (.one (.agg [.str, .ptr])) (Instr.lookup T_map_int_fleet_one (.map x27) (.int .i64 x25) false) fun (x28 : ByteArray × Option Addr × Unit) =>
  L.call Pr n_pod_Pod_Drain [.pointer x28.2.1] rI fun (x29 : Int) =>
  L.call Pr n_fleet_Fleet_end [.pointer p0, .int .i64 x25] (.tup []) fun (x30 : Unit) =>
  L.new [.int .i64 x25] T_int fun b31 =>
  L.sem Pr (.one (.one .slice)) (Builtin.append_ #[T_s_int, T_s_int] T_s_int #[.slice y23.1.a y23.1.len y23.1.cap, .slice (some ⟨b31, 0, none⟩) 1 1]) fun (s32 : Sl) =>
  again24 (⟨s32.a, s32.len, s32.cap⟩, IntKind.wrap .i64 (y23.2.1 - 1), ())) <|
 L.call Pr n_slices_Clone_int_int [.slice z3.1.a z3.1.len z3.1.cap] rL fun (x33 : Sl) =>
 L.call Pr n_slices_Clone_int_int [.slice y23.1.a y23.1.len y23.1.cap] rL fun (x34 : Sl) =>
 K (.tuple #[.slice x33.a x33.len x33.cap, .slice x34.a x34.len x34.cap])
theorem C_fleet_Fleet_Scale (p0 : Option Addr) (p1 : ByteArray) (p2 : Int) (p3 : Int) {K : Value → PT} {w : World} (h : F_fleet_Fleet_Scale p0 p1 p2 p3 K w) : CT Pr n_fleet_Fleet_Scale [.pointer p0, .string p1, .int .i64 p2, .int .i64 p3] K w :=
 C_of (fn := Tryz.f100) (an := A_fleet_Fleet_Scale) (args := [.v (.pointer p0), .v (.string p1), .v (.int .i64 p2), .v (.int .i64 p3)]) (by kernel_rfl) (by kernel_rfl) (by kernel_rfl) h
def F_system_System_Want (p0 : Option Addr) (p1 : ByteArray) (K : Value → PT) : PT :=
 L.nonnil p0 fun a1 =>
 L.load (.one (.map)) (a1.add 5) fun (x2 : Option Nat) =>
 L.call Pr n_system_things_system_beside_at [.map x2, .string p1] (.tup [eP6, eB6]) fun (x3 : Option Addr × Bool × Unit) =>
 L.ite x3.2.1 (
  L.nonnil x3.1 fun a4 =>
  L.load eI6 ((a4.add 1).add 0) fun (x5 : Int) =>
  K (.int .i64 x5)) <|
 K (.int .i64 0)
theorem C_system_System_Want (p0 : Option Addr) (p1 : ByteArray) {K : Value → PT} {w : World} (h : F_system_System_Want p0 p1 K w) : CT Pr n_system_System_Want [.pointer p0, .string p1] K w :=
 C_of (fn := Tryz.f101) (an := .auto) (args := [.v (.pointer p0), .v (.string p1)]) (by kernel_rfl) (by kernel_rfl) (by kernel_rfl) h
def F_system_System_pods_1 (p0 : Int) (K : Value → PT) : PT :=
 K (.bool (p0 != 3))
theorem C_system_System_pods_1 (p0 : Int) {K : Value → PT} {w : World} (h : F_system_System_pods_1 p0 K w) : CT Pr n_system_System_pods_1 [.int .i64 p0] K w :=
 C_of (fn := Tryz.f102) (an := .auto) (args := [.v (.int .i64 p0)]) (by kernel_rfl) (by kernel_rfl) (by kernel_rfl) h
theorem E_system_System_pods_1 : Enters Pr n_system_System_pods_1 := enters_of_B (by kernel_rfl)
def F_lead_own (p0 : HT [.slice, .slice]) (K : Value → PT) : PT :=
 L.new [.slice p0.1.a p0.1.len p0.1.cap, .slice p0.2.1.a p0.2.1.len p0.2.1.cap] T_api_Table fun b1 =>
 L.new [.slice none 0 0, .slice none 0 0] T_api_Table fun b2 =>
 L.draw <|
 L.load eL6 ((⟨b1, 0, none⟩ : Addr).add 0) fun (x3 : Sl) =>
 L.load eL6 ((⟨b1, 0, none⟩ : Addr).add 1) fun (x4 : Sl) =>
 L.call Pr n_slices_Clone_api_Share_api_Share [.slice x3.a x3.len x3.cap] rL fun (x5 : Sl) =>
 L.chk ((⟨b1, 0, none⟩ : Addr).add 1) [.slice x4.a x4.len x4.cap] <|
 L.call Pr n_slices_Clone_api_TagTo_api_TagTo [.slice x4.a x4.len x4.cap] rL fun (x6 : Sl) =>
 L.store (⟨b2, 0, none⟩) [.slice x5.a x5.len x5.cap, .slice x6.a x6.len x6.cap] <|
 L.load (.agg [.slice, .slice]) (⟨b2, 0, none⟩) fun (x7 : Sl × Sl × Unit) =>
 K (.agg #[.slice x7.1.a x7.1.len x7.1.cap, .slice x7.2.1.a x7.2.1.len x7.2.1.cap])
theorem C_lead_own (p0 : HT [.slice, .slice]) {K : Value → PT} {w : World} (h : F_lead_own p0 K w) : CT Pr n_lead_own [(.ag [.slice p0.1.a p0.1.len p0.1.cap, .slice p0.2.1.a p0.2.1.len p0.2.1.cap] : SV).toV] K w :=
 C_of (fn := Tryz.f103) (an := .auto) (args := [.ag [.slice p0.1.a p0.1.len p0.1.cap, .slice p0.2.1.a p0.2.1.len p0.2.1.cap]]) (by kernel_rfl) (by kernel_rfl) (by kernel_rfl) h
def F_slices_Clone_string_string (p0 : Sl) (K : Value → PT) : PT :=
 L.ite ((p0.a).isNone) (
  K (.slice none 0 0)) <|
 L.new [] T_string fun b1 =>
 L.sem Pr (.one (.one .slice)) (Builtin.append_ #[T_s_string, T_s_string] T_s_string #[.slice (some ⟨b1, 0, none⟩) 0 0, .slice p0.a p0.len p0.cap]) fun (s2 : Sl) =>
 K (.slice s2.a s2.len s2.cap)
theorem C_slices_Clone_string_string (p0 : Sl) {K : Value → PT} {w : World} (h : F_slices_Clone_string_string p0 K w) : CT Pr n_slices_Clone_string_string [.slice p0.a p0.len p0.cap] K w :=
 C_of (fn := Tryz.f105) (an := .auto) (args := [.v (.slice p0.a p0.len p0.cap)]) (by kernel_rfl) (by kernel_rfl) (by kernel_rfl) h
def F_stamp_shelf_api_Revision_names (p0 : Option Nat) (K : Value → PT) : PT :=
 L.call Pr n_maps_Keys_stamp_shelf_api_Revision_string_api_Revision [.map p0] (.one (.one (.func))) fun (x1 : FV) =>
 L.call Pr n_slices_Sorted_string [.func x1.fn x1.fs x1.cs] rL fun (x2 : Sl) =>
 K (.slice x2.a x2.len x2.cap)
theorem C_stamp_shelf_api_Revision_names (p0 : Option Nat) {K : Value → PT} {w : World} (h : F_stamp_shelf_api_Revision_names p0 K w) : CT Pr n_stamp_shelf_api_Revision_names [.map p0] K w :=
 C_of (fn := Tryz.f106) (an := .auto) (args := [.v (.map p0)]) (by kernel_rfl) (by kernel_rfl) (by kernel_rfl) h
def A_slices_EqualFunc_api_Target_api_Target_api_Target_api_Target : Ann := (.seq .auto (.seq .auto (.seq (.seq .auto (.one [(17, (.one (.int .i64)))] .auto) none) .auto none) none) none)
def F_slices_EqualFunc_api_Target_api_Target_api_Target_api_Target (p0 : Sl) (p1 : Sl) (p2 : FV) (K : Value → PT) : PT :=
 L.ite (((p0.len : Nat) : Int) != ((p1.len : Nat) : Int)) (
  K (.bool false)) <|
 L.loop (Y := Int × Unit) (0, ()) fun y1 again2 =>
 L.ite (decide (y1.1 < ((p0.len : Nat) : Int))) (
  L.idx p0.a y1.1 p0.len 3 fun a3 =>
  L.load (.agg [.str, .str, .int .i64]) a3 fun (x4 : pt9) =>
  L.new [.string s_, .string s_, .int .i64 0] T_api_Target fun b5 =>
  L.store (⟨b5, 0, none⟩) [.string x4.1, .string x4.2.1, .int .i64 x4.2.2.1] <|
  L.idx p1.a y1.1 p1.len 3 fun a6 =>
  L.load (.agg [.str, .str, .int .i64]) a6 fun (x7 : pt9) =>
  L.new [.string s_, .string s_, .int .i64 0] T_api_Target fun b8 =>
  L.store (⟨b8, 0, none⟩) [.string x7.1, .string x7.2.1, .int .i64 x7.2.2.1] <|
  L.load (.agg [.str, .str, .int .i64]) (⟨b5, 0, none⟩) fun (x9 : pt9) =>
  L.load (.agg [.str, .str, .int .i64]) (⟨b8, 0, none⟩) fun (x10 : pt9) =>
  L.callV Pr (.func p2.fn p2.fs p2.cs) [.agg #[.string x9.1, .string x9.2.1, .int .i64 x9.2.2.1], .agg #[.string x10.1, .string x10.2.1, .int .i64 x10.2.2.1]] rB fun (x11 : Bool) =>
  L.ite (!x11) (
   K (.bool false)) <|
  again2 (IntKind.wrap .i64 (y1.1 + 1), ())) <|
 K (.bool true)
theorem C_slices_EqualFunc_api_Target_api_Target_api_Target_api_Target (p0 : Sl) (p1 : Sl) (p2 : FV) {K : Value → PT} {w : World} (h : F_slices_EqualFunc_api_Target_api_Target_api_Target_api_Target p0 p1 p2 K w) : CT Pr n_slices_EqualFunc_api_Target_api_Target_api_Target_api_Target [.slice p0.a p0.len p0.cap, .slice p1.a p1.len p1.cap, .func p2.fn p2.fs p2.cs] K w :=
 C_of (fn := Tryz.f107) (an := A_slices_EqualFunc_api_Target_api_Target_api_Target_api_Target) (args := [.v (.slice p0.a p0.len p0.cap), .v (.slice p1.a p1.len p1.cap), .v (.func p2.fn p2.fs p2.cs)]) (by kernel_rfl) (by kernel_rfl) (by kernel_rfl) h
def F_spec_same (p0 : HT [.str, .str, .int .i64]) (p1 : HT [.str, .str, .int .i64]) (K : Value → PT) : PT :=
 L.new [.string p0.1, .string p0.2.1, .int .i64 p0.2.2.1] T_api_Target fun b1 =>
 L.new [.string p1.1, .string p1.2.1, .int .i64 p1.2.2.1] T_api_Target fun b2 =>
 L.load (.agg [.str, .str, .int .i64]) (⟨b1, 0, none⟩) fun (x3 : pt9) =>
 L.load (.agg [.str, .str, .int .i64]) (⟨b2, 0, none⟩) fun (x4 : pt9) =>
 L.chkSem Pr (do eqGuard .eql T_api_Target (.tmp 0) (.tmp 0) (.agg #[.string x3.1, .string x3.2.1, .int .i64 x3.2.2.1]) (.agg #[.string x4.1, .string x4.2.1, .int .i64 x4.2.2.1]); binOp .eql T_api_Target (.agg #[.string x3.1, .string x3.2.1, .int .i64 x3.2.2.1]) (.agg #[.string x4.1, .string x4.2.1, .int .i64 x4.2.2.1])) (.bool ((x3.1 == x4.1) && ((x3.2.1 == x4.2.1) && ((x3.2.2.1 == x4.2.2.1) && true)))) <|
 K (.bool ((x3.1 == x4.1) && ((x3.2.1 == x4.2.1) && ((x3.2.2.1 == x4.2.2.1) && true))))
theorem C_spec_same (p0 : HT [.str, .str, .int .i64]) (p1 : HT [.str, .str, .int .i64]) {K : Value → PT} {w : World} (h : F_spec_same p0 p1 K w) : CT Pr n_spec_same [(.ag [.string p0.1, .string p0.2.1, .int .i64 p0.2.2.1] : SV).toV, (.ag [.string p1.1, .string p1.2.1, .int .i64 p1.2.2.1] : SV).toV] K w :=
 C_of (fn := Tryz.f108) (an := .auto) (args := [.ag [.string p0.1, .string p0.2.1, .int .i64 p0.2.2.1], .ag [.string p1.1, .string p1.2.1, .int .i64 p1.2.2.1]]) (by kernel_rfl) (by kernel_rfl) (by kernel_rfl) h
theorem E_spec_same : Enters Pr n_spec_same := enters_of_B (by kernel_rfl)
def F_label_Split (p0 : ByteArray) (K : Value → PT) : PT :=
 L.call Pr n_strings_LastIndex [.string p0, .string s___b5d2] rI fun (x1 : Int) =>
 L.ite (decide (x1 < 0)) (
  K (.tuple #[.string s_, .int .i64 0, .bool false])) <|
 L.guard ((0 : Int) ≤ (IntKind.wrap .i64 (x1 + 1)) ∧ (IntKind.wrap .i64 (x1 + 1)) ≤ (p0.size : Int) ∧ (p0.size : Int) ≤ p0.size) <|
 L.call Pr n_strconv_Atoi [.string (p0.extract (Int.toNat (IntKind.wrap .i64 (x1 + 1))) (Int.toNat (p0.size : Int)))] (.tup [eI6, (.one (.iface))]) fun (x2 : pt17) =>
 L.ite (!(x2.2.1).isNone) (
  K (.tuple #[.string s_, .int .i64 0, .bool false])) <|
 L.guard ((0 : Int) ≤ 0 ∧ 0 ≤ x1 ∧ x1 ≤ p0.size) <|
 L.call Pr n_label_Rev [.string (p0.extract (Int.toNat 0) (Int.toNat x1)), .int .i64 x2.1] rS fun (x3 : ByteArray) =>
 L.ite (!(x3.toList == p0.toList)) (
  K (.tuple #[.string s_, .int .i64 0, .bool false])) <|
 L.guard ((0 : Int) ≤ 0 ∧ 0 ≤ x1 ∧ x1 ≤ p0.size) <|
 K (.tuple #[.string (p0.extract (Int.toNat 0) (Int.toNat x1)), .int .i64 x2.1, .bool true])
theorem C_label_Split (p0 : ByteArray) {K : Value → PT} {w : World} (h : F_label_Split p0 K w) : CT Pr n_label_Split [.string p0] K w :=
 C_of (fn := Tryz.f109) (an := .auto) (args := [.v (.string p0)]) (by kernel_rfl) (by kernel_rfl) (by kernel_rfl) h
def F_label_Name (p0 : ByteArray) (K : Value → PT) : PT :=
 L.call Pr n_label_short [.string p0, .int .i64 16] rB fun (x1 : Bool) =>
 K (.bool x1)
theorem C_label_Name (p0 : ByteArray) {K : Value → PT} {w : World} (h : F_label_Name p0 K w) : CT Pr n_label_Name [.string p0] K w :=
 C_of (fn := Tryz.f110) (an := .auto) (args := [.v (.string p0)]) (by kernel_rfl) (by kernel_rfl) (by kernel_rfl) h
def A_label_short : Ann := (.seq .auto (.seq .auto (.seq (.seq .auto (.one [(5, (.one (.int .i32)))] (.seq .auto (.seq (.cond .auto .auto) (.seq .auto (.seq (.seq .auto (.cond .auto .auto) none) .auto (some [])) none) none) none)) none) .auto none) none) none)
def F_label_short (p0 : ByteArray) (p1 : Int) (K : Value → PT) : PT :=
 L.sem Pr (.one (.one .ptr)) (Instr.range T_string (.string p0)) fun (it1 : Option Addr) =>
 L.loop (Y := Int × Unit) (45, ()) fun y2 again3 =>
 L.next Pr [eI6, (.one (.int .i32))] (Instr.next (.pointer it1) true T_) (
  L.ite (y2.1 != 45) (
   K (.bool (decide ((p0.size : Int) ≤ p1)))) <|
  K (.bool false)) fun (x4 : Int × Int × Unit) =>
 L.join (Y := Unit) (fun k5 =>
  L.call Pr n_label_sign [.int .i32 x4.2.1] rB fun (x7 : Bool) =>
  L.ite (!x7) (
   K (.bool false)) <|
  L.ite (x4.1 == 0) (
   L.call Pr n_label_letter [.int .i32 x4.2.1] rB fun (x8 : Bool) =>
   L.ite (!x8) (
    K (.bool false)) <|
   k5 (())) <|
  k5 (())) fun z6 =>
 again3 (x4.2.1, ())
theorem C_label_short (p0 : ByteArray) (p1 : Int) {K : Value → PT} {w : World} (h : F_label_short p0 p1 K w) : CT Pr n_label_short [.string p0, .int .i64 p1] K w :=
 C_of (fn := Tryz.f111) (an := A_label_short) (args := [.v (.string p0), .v (.int .i64 p1)]) (by kernel_rfl) (by kernel_rfl) (by kernel_rfl) h
def F_spec_span_has (p0 : HT [.int .i64, .int .i64]) (p1 : Int) (K : Value → PT) : PT :=
 L.new [.int .i64 p0.1, .int .i64 p0.2.1] T_spec_span fun b1 =>
 L.load eI6 ((⟨b1, 0, none⟩ : Addr).add 0) fun (x2 : Int) =>
 L.ite (decide (p1 ≥ x2)) (
  L.load eI6 ((⟨b1, 0, none⟩ : Addr).add 1) fun (x3 : Int) =>
  K (.bool (decide (p1 ≤ x3)))) <|
 K (.bool false)
theorem C_spec_span_has (p0 : HT [.int .i64, .int .i64]) (p1 : Int) {K : Value → PT} {w : World} (h : F_spec_span_has p0 p1 K w) : CT Pr n_spec_span_has [(.ag [.int .i64 p0.1, .int .i64 p0.2.1] : SV).toV, .int .i64 p1] K w :=
 C_of (fn := Tryz.f112) (an := .auto) (args := [.ag [.int .i64 p0.1, .int .i64 p0.2.1], .v (.int .i64 p1)]) (by kernel_rfl) (by kernel_rfl) (by kernel_rfl) h
theorem E_spec_span_has : Enters Pr n_spec_span_has := enters_of_B (by kernel_rfl)
def A_spec_target : Ann := (.seq .auto (.seq .auto (.seq .auto (.seq (.seq (.seq .auto (.cond .auto .auto) none) .auto (some [(16, (.one (.bool)))])) .auto none) none) none) none)
def F_spec_target (p0 : HT [.str, .str, .int .i64]) (K : Value → PT) : PT :=
 L.new [.string p0.1, .string p0.2.1, .int .i64 p0.2.2.1] T_api_Target fun b1 =>
 L.load eS6 ((⟨b1, 0, none⟩ : Addr).add 0) fun (x2 : ByteArray) =>
 L.call Pr n_label_Split [.string x2] (.tup [eS6, eI6, eB6]) fun (x3 : ByteArray × Int × Bool × Unit) =>
 L.join (Y := Bool × Unit) (fun k4 =>
  L.load eS6 ((⟨b1, 0, none⟩ : Addr).add 0) fun (x6 : ByteArray) =>
  L.ite (!(x6.toList == s_.toList)) (
   L.ite (!x3.2.2.1) (
    k4 (!x3.2.2.1, ())) <|
   L.load eS6 ((⟨b1, 0, none⟩ : Addr).add 1) fun (x7 : ByteArray) =>
   L.ite (!(x7.toList == s_.toList)) (
    L.load eS6 ((⟨b1, 0, none⟩ : Addr).add 1) fun (x8 : ByteArray) =>
    L.call Pr n_label_Tag [.string x8] rB fun (x9 : Bool) =>
    k4 (!x9, ())) <|
   k4 (false, ())) <|
  L.load eS6 ((⟨b1, 0, none⟩ : Addr).add 1) fun (x10 : ByteArray) =>
  L.ite (!(x10.toList == s_.toList)) (
   L.load eS6 ((⟨b1, 0, none⟩ : Addr).add 1) fun (x11 : ByteArray) =>
   L.call Pr n_label_Tag [.string x11] rB fun (x12 : Bool) =>
   k4 (!x12, ())) <|
  k4 (false, ())) fun z5 =>
 L.ite z5.1 (
  K (.int .i64 1)) <|
 L.load eI6 ((⟨b1, 0, none⟩ : Addr).add 2) fun (x13 : Int) =>
 L.callV Pr (.func (.func n_spec_span_has) #[.agg #[.int .i64 0, .int .i64 100]] #[]) [.int .i64 x13] rB fun (x14 : Bool) =>
 L.ite (!x14) (
  K (.int .i64 2)) <|
 K (.int .i64 0)
theorem C_spec_target (p0 : HT [.str, .str, .int .i64]) {K : Value → PT} {w : World} (h : F_spec_target p0 K w) : CT Pr n_spec_target [(.ag [.string p0.1, .string p0.2.1, .int .i64 p0.2.2.1] : SV).toV] K w :=
 C_of (fn := Tryz.f113) (an := A_spec_target) (args := [.ag [.string p0.1, .string p0.2.1, .int .i64 p0.2.2.1]]) (by kernel_rfl) (by kernel_rfl) (by kernel_rfl) h
def A_spec_all : Ann := (.seq .auto (.seq .auto (.seq (.seq .auto (.one [(3, (.one (.int .i64))), (8, (.one (.int .i64)))] (.seq .auto (.seq .auto (.seq (.seq .auto (.seq .auto (.seq .auto (.cond .auto .auto) none) none) none) .auto (some [(3, (.one (.int .i64)))])) none) none)) none) .auto none) none) none)
def F_spec_all (p0 : Sl) (K : Value → PT) : PT :=
 L.loop (Y := Int × Int × Unit) (0, 0, ()) fun y1 again2 =>
 L.ite (decide (y1.2.1 < ((p0.len : Nat) : Int))) (
  L.join (Y := Int × Unit) (fun k3 =>
   L.idx p0.a y1.2.1 p0.len 3 fun a5 =>
   L.load (.agg [.str, .str, .int .i64]) a5 fun (x6 : pt9) =>
   L.new [.string s_, .string s_, .int .i64 0] T_api_Target fun b7 =>
   L.store (⟨b7, 0, none⟩) [.string x6.1, .string x6.2.1, .int .i64 x6.2.2.1] <|
   L.load eI6 ((⟨b7, 0, none⟩ : Addr).add 2) fun (x8 : Int) =>
   L.load eS6 ((⟨b7, 0, none⟩ : Addr).add 1) fun (x9 : ByteArray) =>
   L.ite (!(x9.toList == s_.toList)) (
    L.guard (0 ≤ (0 : Int) ∧ (0 : Int) ≤ y1.2.1 ∧ y1.2.1 ≤ ((p0.cap : Nat) : Int) ∧ ((p0.cap : Nat) : Int) ≤ p0.cap) <|
    L.call Pr n_slices_ContainsFunc_api_Target_api_Target [.slice (if Int.toNat ((p0.cap : Nat) : Int) = Int.toNat (0 : Int) then p0.a else Option.map (fun a : Addr => a.add (Int.toNat (0 : Int) * 3)) p0.a) (Int.toNat y1.2.1 - Int.toNat (0 : Int)) (Int.toNat ((p0.cap : Nat) : Int) - Int.toNat (0 : Int)), .func (.func n_spec_all_1) #[] #[.pointer (some (⟨b7, 0, none⟩))]] rB fun (x10 : Bool) =>
    L.ite x10 (
     K (.int .i64 5)) <|
    k3 (IntKind.wrap .i64 (y1.1 + x8), ())) <|
   k3 (IntKind.wrap .i64 (y1.1 + x8), ())) fun z4 =>
  again2 (z4.1, IntKind.wrap .i64 (y1.2.1 + 1), ())) <|
 L.ite (y1.1 != 100) (
  K (.int .i64 4)) <|
 K (.int .i64 0)
theorem C_spec_all (p0 : Sl) {K : Value → PT} {w : World} (h : F_spec_all p0 K w) : CT Pr n_spec_all [.slice p0.a p0.len p0.cap] K w :=
 C_of (fn := Tryz.f114) (an := A_spec_all) (args := [.v (.slice p0.a p0.len p0.cap)]) (by kernel_rfl) (by kernel_rfl) (by kernel_rfl) h
def A_shelf_rack_api_Config_may : Ann := (.seq .auto (.seq .auto (.seq (.seq .auto (.cond .auto (.seq .auto (.cond .auto .auto) none)) none) .auto (some [])) none) none)
def F_shelf_rack_api_Config_may (p0 : Option Addr) (p1 : ByteArray) (p2 : Int) (p3 : Bool) (K : Value → PT) : PT :=
 L.nonnil p0 fun a1 =>
 L.load (.one (.map)) (a1.add 0) fun (x2 : Option Nat) =>
 L.semR Pr (.one (.agg lf10)) (Instr.lookup T_map_string_shelf_thing_api_Config (.map x2) (.string p1) false) fun (x3 : pt18) =>
 L.new [.string s_, .int .i64 0, .int .i64 0, .int .i64 0, .int .i64 0, .int .i64 0, .int .i64 0, .int .i64 0, .bool false] T_shelf_thing_api_Config fun b4 =>
 L.store (⟨b4, 0, none⟩) [.string x3.1, .int .i64 x3.2.1, .int .i64 x3.2.2.1, .int .i64 x3.2.2.2.1, .int .i64 x3.2.2.2.2.1, .int .i64 x3.2.2.2.2.2.1, .int .i64 x3.2.2.2.2.2.2.1, .int .i64 x3.2.2.2.2.2.2.2.1, .bool x3.2.2.2.2.2.2.2.2.1] <|
 L.join (Y := Unit) (fun k5 =>
  L.ite p3 (
   L.ite (p2 == 0) (
    L.load eB6 ((⟨b4, 0, none⟩ : Addr).add 8) fun (x7 : Bool) =>
    L.ite x7 (
     K (.int .i64 5)) <|
    L.ite p3 (
     L.ite (p2 == 0) (
      K (.int .i64 0)) <|
     L.load eB6 ((⟨b4, 0, none⟩ : Addr).add 8) fun (x8 : Bool) =>
     L.ite (!x8) (
      K (.int .i64 6)) <|
     L.load eI6 ((⟨b4, 0, none⟩ : Addr).add 6) fun (x9 : Int) =>
     L.ite (x9 != p2) (
      K (.int .i64 7)) <|
     k5 (())) <|
    L.load eB6 ((⟨b4, 0, none⟩ : Addr).add 8) fun (x10 : Bool) =>
    L.ite (!x10) (
     K (.int .i64 6)) <|
    L.load eI6 ((⟨b4, 0, none⟩ : Addr).add 6) fun (x11 : Int) =>
    L.ite (x11 != p2) (
     K (.int .i64 7)) <|
    k5 (())) <|
   L.ite p3 (
    L.ite (p2 == 0) (
     K (.int .i64 0)) <|
    L.load eB6 ((⟨b4, 0, none⟩ : Addr).add 8) fun (x12 : Bool) =>
    L.ite (!x12) (
     K (.int .i64 6)) <|
    L.load eI6 ((⟨b4, 0, none⟩ : Addr).add 6) fun (x13 : Int) =>
    L.ite (x13 != p2) (
     K (.int .i64 7)) <|
    k5 (())) <|
   L.load eB6 ((⟨b4, 0, none⟩ : Addr).add 8) fun (x14 : Bool) =>
   L.ite (!x14) (
    K (.int .i64 6)) <|
   L.load eI6 ((⟨b4, 0, none⟩ : Addr).add 6) fun (x15 : Int) =>
   L.ite (x15 != p2) (
    K (.int .i64 7)) <|
   k5 (())) <|
  L.ite p3 (
   L.ite (p2 == 0) (
    K (.int .i64 0)) <|
   L.load eB6 ((⟨b4, 0, none⟩ : Addr).add 8) fun (x16 : Bool) =>
   L.ite (!x16) (
    K (.int .i64 6)) <|
   L.load eI6 ((⟨b4, 0, none⟩ : Addr).add 6) fun (x17 : Int) =>
   L.ite (x17 != p2) (
    K (.int .i64 7)) <|
   k5 (())) <|
  L.load eB6 ((⟨b4, 0, none⟩ : Addr).add 8) fun (x18 : Bool) =>
  L.ite (!x18) (
   K (.int .i64 6)) <|
  L.load eI6 ((⟨b4, 0, none⟩ : Addr).add 6) fun (x19 : Int) =>
  L.ite (x19 != p2) (
   K (.int .i64 7)) <|
  k5 (())) fun z6 =>
 K (.int .i64 0)
theorem C_shelf_rack_api_Config_may (p0 : Option Addr) (p1 : ByteArray) (p2 : Int) (p3 : Bool) {K : Value → PT} {w : World} (h : F_shelf_rack_api_Config_may p0 p1 p2 p3 K w) : CT Pr n_shelf_rack_api_Config_may [.pointer p0, .string p1, .int .i64 p2, .bool p3] K w :=
 C_of (fn := Tryz.f119) (an := A_shelf_rack_api_Config_may) (args := [.v (.pointer p0), .v (.string p1), .v (.int .i64 p2), .v (.bool p3)]) (by kernel_rfl) (by kernel_rfl) (by kernel_rfl) h
def A_shelf_rack_api_Config_put : Ann := (.seq .auto (.seq .auto (.seq .auto .auto (some [])) none) none)
def F_shelf_rack_api_Config_put (p0 : Option Addr) (p1 : ByteArray) (p2 : ht0) (p3 : Int) (K : Value → PT) : PT :=
 L.new [.string p2.1, .int .i64 p2.2.1, .int .i64 p2.2.2.1, .int .i64 p2.2.2.2.1, .int .i64 p2.2.2.2.2.1, .int .i64 p2.2.2.2.2.2.1] T_api_Config fun b1 =>
 L.nonnil p0 fun a2 =>
 L.load (.one (.map)) (a2.add 0) fun (x3 : Option Nat) =>
 L.semR Pr (.one (.agg lf10)) (Instr.lookup T_map_string_shelf_thing_api_Config (.map x3) (.string p1) false) fun (x4 : pt18) =>
 L.new [.string s_, .int .i64 0, .int .i64 0, .int .i64 0, .int .i64 0, .int .i64 0, .int .i64 0, .int .i64 0, .bool false] T_shelf_thing_api_Config fun b5 =>
 L.store (⟨b5, 0, none⟩) [.string x4.1, .int .i64 x4.2.1, .int .i64 x4.2.2.1, .int .i64 x4.2.2.2.1, .int .i64 x4.2.2.2.2.1, .int .i64 x4.2.2.2.2.2.1, .int .i64 x4.2.2.2.2.2.2.1, .int .i64 x4.2.2.2.2.2.2.2.1, .bool x4.2.2.2.2.2.2.2.2.1] <|
 L.join (Y := Unit) (fun k6 =>
  L.draw <|
  L.load eB6 ((⟨b5, 0, none⟩ : Addr).add 8) fun (x8 : Bool) =>
  L.ite (!x8) (
   L.load eI6 ((⟨b5, 0, none⟩ : Addr).add 7) fun (x9 : Int) =>
   L.store ((⟨b5, 0, none⟩ : Addr).add 7) [.int .i64 (IntKind.wrap .i64 (x9 + 1))] <|
   k6 (())) <|
  L.nonnil p0 fun a10 =>
  L.load (.one (.func)) (a10.add 1) fun (x11 : FV) =>
  L.load (.agg lf0) ((⟨b5, 0, none⟩ : Addr).add 0) fun (x12 : pt0) =>
  L.load (.agg lf0) (⟨b1, 0, none⟩) fun (x13 : pt0) =>
  L.callV Pr (.func x11.fn x11.fs x11.cs) [(qa0 x12), (qa0 x13)] rB fun (x14 : Bool) =>
  L.ite (!x14) (
   L.load eI6 ((⟨b5, 0, none⟩ : Addr).add 7) fun (x15 : Int) =>
   L.store ((⟨b5, 0, none⟩ : Addr).add 7) [.int .i64 (IntKind.wrap .i64 (x15 + 1))] <|
   k6 (())) <|
  k6 (())) fun z7 =>
 L.draw <|
 L.nonnil p0 fun a16 =>
 L.load (.one (.map)) (a16.add 0) fun (x17 : Option Nat) =>
 L.load (.agg lf0) (⟨b1, 0, none⟩) fun (x18 : pt0) =>
 L.load eI6 ((⟨b5, 0, none⟩ : Addr).add 7) fun (x19 : Int) =>
 L.semU Pr (Instr.mapUpdate T_map_string_shelf_thing_api_Config (.map x17) (.string p1) (.agg #[.string x18.1, .int .i64 x18.2.1, .int .i64 x18.2.2.1, .int .i64 x18.2.2.2.1, .int .i64 x18.2.2.2.2.1, .int .i64 x18.2.2.2.2.2.1, .int .i64 p3, .int .i64 x19, .bool true])) <|
 K (.tuple #[])
theorem C_shelf_rack_api_Config_put (p0 : Option Addr) (p1 : ByteArray) (p2 : ht0) (p3 : Int) {K : Value → PT} {w : World} (h : F_shelf_rack_api_Config_put p0 p1 p2 p3 K w) : CT Pr n_shelf_rack_api_Config_put [.pointer p0, .string p1, (.ag (qc0 p2) : SV).toV, .int .i64 p3] K w :=
 C_of (fn := Tryz.f120) (an := A_shelf_rack_api_Config_put) (args := [.v (.pointer p0), .v (.string p1), .ag (qc0 p2), .v (.int .i64 p3)]) (by kernel_rfl) (by kernel_rfl) (by kernel_rfl) h
def A_shelf_rack_api_Route_may : Ann := (.seq .auto (.seq .auto (.seq (.seq .auto (.cond .auto (.seq .auto (.cond .auto .auto) none)) none) .auto (some [])) none) none)
def F_shelf_rack_api_Route_may (p0 : Option Addr) (p1 : ByteArray) (p2 : Int) (p3 : Bool) (K : Value → PT) : PT :=
 L.nonnil p0 fun a1 =>
 L.load (.one (.map)) (a1.add 0) fun (x2 : Option Nat) =>
 L.semR Pr (.one (.agg lf11)) (Instr.lookup T_map_string_shelf_thing_api_Route (.map x2) (.string p1) false) fun (x3 : pt19) =>
 L.new [.string s_, .string s_, .slice none 0 0, .int .i64 0, .int .i64 0, .int .i64 0, .bool false] T_shelf_thing_api_Route fun b4 =>
 L.store (⟨b4, 0, none⟩) [.string x3.1, .string x3.2.1, .slice x3.2.2.1.a x3.2.2.1.len x3.2.2.1.cap, .int .i64 x3.2.2.2.1, .int .i64 x3.2.2.2.2.1, .int .i64 x3.2.2.2.2.2.1, .bool x3.2.2.2.2.2.2.1] <|
 L.join (Y := Unit) (fun k5 =>
  L.ite p3 (
   L.ite (p2 == 0) (
    L.load eB6 ((⟨b4, 0, none⟩ : Addr).add 6) fun (x7 : Bool) =>
    L.ite x7 (
     K (.int .i64 5)) <|
    L.ite p3 (
     L.ite (p2 == 0) (
      K (.int .i64 0)) <|
     L.load eB6 ((⟨b4, 0, none⟩ : Addr).add 6) fun (x8 : Bool) =>
     L.ite (!x8) (
      K (.int .i64 6)) <|
     L.load eI6 ((⟨b4, 0, none⟩ : Addr).add 4) fun (x9 : Int) =>
     L.ite (x9 != p2) (
      K (.int .i64 7)) <|
     k5 (())) <|
    L.load eB6 ((⟨b4, 0, none⟩ : Addr).add 6) fun (x10 : Bool) =>
    L.ite (!x10) (
     K (.int .i64 6)) <|
    L.load eI6 ((⟨b4, 0, none⟩ : Addr).add 4) fun (x11 : Int) =>
    L.ite (x11 != p2) (
     K (.int .i64 7)) <|
    k5 (())) <|
   L.ite p3 (
    L.ite (p2 == 0) (
     K (.int .i64 0)) <|
    L.load eB6 ((⟨b4, 0, none⟩ : Addr).add 6) fun (x12 : Bool) =>
    L.ite (!x12) (
     K (.int .i64 6)) <|
    L.load eI6 ((⟨b4, 0, none⟩ : Addr).add 4) fun (x13 : Int) =>
    L.ite (x13 != p2) (
     K (.int .i64 7)) <|
    k5 (())) <|
   L.load eB6 ((⟨b4, 0, none⟩ : Addr).add 6) fun (x14 : Bool) =>
   L.ite (!x14) (
    K (.int .i64 6)) <|
   L.load eI6 ((⟨b4, 0, none⟩ : Addr).add 4) fun (x15 : Int) =>
   L.ite (x15 != p2) (
    K (.int .i64 7)) <|
   k5 (())) <|
  L.ite p3 (
   L.ite (p2 == 0) (
    K (.int .i64 0)) <|
   L.load eB6 ((⟨b4, 0, none⟩ : Addr).add 6) fun (x16 : Bool) =>
   L.ite (!x16) (
    K (.int .i64 6)) <|
   L.load eI6 ((⟨b4, 0, none⟩ : Addr).add 4) fun (x17 : Int) =>
   L.ite (x17 != p2) (
    K (.int .i64 7)) <|
   k5 (())) <|
  L.load eB6 ((⟨b4, 0, none⟩ : Addr).add 6) fun (x18 : Bool) =>
  L.ite (!x18) (
   K (.int .i64 6)) <|
  L.load eI6 ((⟨b4, 0, none⟩ : Addr).add 4) fun (x19 : Int) =>
  L.ite (x19 != p2) (
   K (.int .i64 7)) <|
  k5 (())) fun z6 =>
 K (.int .i64 0)
theorem C_shelf_rack_api_Route_may (p0 : Option Addr) (p1 : ByteArray) (p2 : Int) (p3 : Bool) {K : Value → PT} {w : World} (h : F_shelf_rack_api_Route_may p0 p1 p2 p3 K w) : CT Pr n_shelf_rack_api_Route_may [.pointer p0, .string p1, .int .i64 p2, .bool p3] K w :=
 C_of (fn := Tryz.f121) (an := A_shelf_rack_api_Route_may) (args := [.v (.pointer p0), .v (.string p1), .v (.int .i64 p2), .v (.bool p3)]) (by kernel_rfl) (by kernel_rfl) (by kernel_rfl) h
def A_shelf_rack_api_Route_put : Ann := (.seq .auto (.seq .auto (.seq .auto .auto (some [])) none) none)
def F_shelf_rack_api_Route_put (p0 : Option Addr) (p1 : ByteArray) (p2 : ht2) (p3 : Int) (K : Value → PT) : PT :=
 L.new [.string p2.1, .string p2.2.1, .slice p2.2.2.1.a p2.2.2.1.len p2.2.2.1.cap, .int .i64 p2.2.2.2.1] T_api_Route fun b1 =>
 L.nonnil p0 fun a2 =>
 L.load (.one (.map)) (a2.add 0) fun (x3 : Option Nat) =>
 L.semR Pr (.one (.agg lf11)) (Instr.lookup T_map_string_shelf_thing_api_Route (.map x3) (.string p1) false) fun (x4 : pt19) =>
 L.new [.string s_, .string s_, .slice none 0 0, .int .i64 0, .int .i64 0, .int .i64 0, .bool false] T_shelf_thing_api_Route fun b5 =>
 L.store (⟨b5, 0, none⟩) [.string x4.1, .string x4.2.1, .slice x4.2.2.1.a x4.2.2.1.len x4.2.2.1.cap, .int .i64 x4.2.2.2.1, .int .i64 x4.2.2.2.2.1, .int .i64 x4.2.2.2.2.2.1, .bool x4.2.2.2.2.2.2.1] <|
 L.join (Y := Unit) (fun k6 =>
  L.draw <|
  L.load eB6 ((⟨b5, 0, none⟩ : Addr).add 6) fun (x8 : Bool) =>
  L.ite (!x8) (
   L.load eI6 ((⟨b5, 0, none⟩ : Addr).add 5) fun (x9 : Int) =>
   L.store ((⟨b5, 0, none⟩ : Addr).add 5) [.int .i64 (IntKind.wrap .i64 (x9 + 1))] <|
   k6 (())) <|
  L.nonnil p0 fun a10 =>
  L.load (.one (.func)) (a10.add 1) fun (x11 : FV) =>
  L.load (.agg [.str, .str, .slice, .int .i64]) ((⟨b5, 0, none⟩ : Addr).add 0) fun (x12 : pt3) =>
  L.load (.agg [.str, .str, .slice, .int .i64]) (⟨b1, 0, none⟩) fun (x13 : pt3) =>
  L.callV Pr (.func x11.fn x11.fs x11.cs) [.agg #[.string x12.1, .string x12.2.1, .slice x12.2.2.1.a x12.2.2.1.len x12.2.2.1.cap, .int .i64 x12.2.2.2.1], .agg #[.string x13.1, .string x13.2.1, .slice x13.2.2.1.a x13.2.2.1.len x13.2.2.1.cap, .int .i64 x13.2.2.2.1]] rB fun (x14 : Bool) =>
  L.ite (!x14) (
   L.load eI6 ((⟨b5, 0, none⟩ : Addr).add 5) fun (x15 : Int) =>
   L.store ((⟨b5, 0, none⟩ : Addr).add 5) [.int .i64 (IntKind.wrap .i64 (x15 + 1))] <|
   k6 (())) <|
  k6 (())) fun z7 =>
 L.draw <|
 L.nonnil p0 fun a16 =>
 L.load (.one (.map)) (a16.add 0) fun (x17 : Option Nat) =>
 L.load (.agg [.str, .str, .slice, .int .i64]) (⟨b1, 0, none⟩) fun (x18 : pt3) =>
 L.load eI6 ((⟨b5, 0, none⟩ : Addr).add 5) fun (x19 : Int) =>
 L.semU Pr (Instr.mapUpdate T_map_string_shelf_thing_api_Route (.map x17) (.string p1) (.agg #[.string x18.1, .string x18.2.1, .slice x18.2.2.1.a x18.2.2.1.len x18.2.2.1.cap, .int .i64 x18.2.2.2.1, .int .i64 p3, .int .i64 x19, .bool true])) <|
 K (.tuple #[])
theorem C_shelf_rack_api_Route_put (p0 : Option Addr) (p1 : ByteArray) (p2 : ht2) (p3 : Int) {K : Value → PT} {w : World} (h : F_shelf_rack_api_Route_put p0 p1 p2 p3 K w) : CT Pr n_shelf_rack_api_Route_put [.pointer p0, .string p1, (.ag (qc2 p2) : SV).toV, .int .i64 p3] K w :=
 C_of (fn := Tryz.f122) (an := A_shelf_rack_api_Route_put) (args := [.v (.pointer p0), .v (.string p1), .ag (qc2 p2), .v (.int .i64 p3)]) (by kernel_rfl) (by kernel_rfl) (by kernel_rfl) h
def F_shelf_own (p0 : ht2) (K : Value → PT) : PT :=
 L.new [.string p0.1, .string p0.2.1, .slice p0.2.2.1.a p0.2.2.1.len p0.2.2.1.cap, .int .i64 p0.2.2.2.1] T_api_Route fun b1 =>
 L.new [.string s_, .string s_, .slice none 0 0, .int .i64 0] T_api_Route fun b2 =>
 L.load eL6 ((⟨b1, 0, none⟩ : Addr).add 2) fun (x3 : Sl) =>
 L.call Pr n_slices_Clone_api_Target_api_Target [.slice x3.a x3.len x3.cap] rL fun (x4 : Sl) =>
 L.store ((⟨b1, 0, none⟩ : Addr).add 2) [.slice x4.a x4.len x4.cap] <|
 L.load (.agg [.str, .str, .slice, .int .i64]) (⟨b1, 0, none⟩) fun (x5 : pt3) =>
 L.store (⟨b2, 0, none⟩) [.string x5.1, .string x5.2.1, .slice x5.2.2.1.a x5.2.2.1.len x5.2.2.1.cap, .int .i64 x5.2.2.2.1] <|
 L.load (.agg [.str, .str, .slice, .int .i64]) (⟨b2, 0, none⟩) fun (x6 : pt3) =>
 K (.agg #[.string x6.1, .string x6.2.1, .slice x6.2.2.1.a x6.2.2.1.len x6.2.2.1.cap, .int .i64 x6.2.2.2.1])
theorem C_shelf_own (p0 : ht2) {K : Value → PT} {w : World} (h : F_shelf_own p0 K w) : CT Pr n_shelf_own [(.ag (qc2 p0) : SV).toV] K w :=
 C_of (fn := Tryz.f123) (an := .auto) (args := [.ag (qc2 p0)]) (by kernel_rfl) (by kernel_rfl) (by kernel_rfl) h
def F_gate_why (p0 : ByteArray) (K : Value → PT) : PT :=
 L.new [.int .i64 0, .int .i64 0, .int .i64 0, .string s_] T_gate_Fate fun b1 =>
 L.store (⟨b1, 0, none⟩) [.int .i64 0, .int .i64 4, .int .i64 0, .string p0] <|
 L.load (.agg [.int .i64, .int .i64, .int .i64, .str]) (⟨b1, 0, none⟩) fun (x2 : pt10) =>
 K (.agg #[.int .i64 x2.1, .int .i64 x2.2.1, .int .i64 x2.2.2.1, .string x2.2.2.2.1])
theorem C_gate_why (p0 : ByteArray) {K : Value → PT} {w : World} (h : F_gate_why p0 K w) : CT Pr n_gate_why [.string p0] K w :=
 C_of (fn := Tryz.f129) (an := .auto) (args := [.v (.string p0)]) (by kernel_rfl) (by kernel_rfl) (by kernel_rfl) h
def F_gate_Gate_set (p0 : Option Addr) (p1 : Int) (p2 : ByteArray) (p3 : ht3) (K : Value → PT) : PT :=
 L.new [.int .i64 p3.1, .int .i64 p3.2.1, .int .i64 p3.2.2.1, .string p3.2.2.2.1] T_gate_Fate fun b1 =>
 L.new [.int .i64 0, .int .i64 0, .int .i64 0, .string s_] T_gate_Fate fun b2 =>
 L.store ((⟨b1, 0, none⟩ : Addr).add 0) [.int .i64 p1] <|
 L.draw <|
 L.nonnil p0 fun a3 =>
 L.load (.one (.map)) (a3.add 1) fun (x4 : Option Nat) =>
 L.load eI6 ((⟨b1, 0, none⟩ : Addr).add 1) fun (x5 : Int) =>
 L.semU Pr (Instr.mapUpdate T_map_int_gate_request (.map x4) (.int .i64 p1) (.agg #[.string p2, .int .i64 x5])) <|
 L.load (.agg [.int .i64, .int .i64, .int .i64, .str]) (⟨b1, 0, none⟩) fun (x6 : pt10) =>
 L.store (⟨b2, 0, none⟩) [.int .i64 x6.1, .int .i64 x6.2.1, .int .i64 x6.2.2.1, .string x6.2.2.2.1] <|
 L.load (.agg [.int .i64, .int .i64, .int .i64, .str]) (⟨b2, 0, none⟩) fun (x7 : pt10) =>
 K (.agg #[.int .i64 x7.1, .int .i64 x7.2.1, .int .i64 x7.2.2.1, .string x7.2.2.2.1])
theorem C_gate_Gate_set (p0 : Option Addr) (p1 : Int) (p2 : ByteArray) (p3 : ht3) {K : Value → PT} {w : World} (h : F_gate_Gate_set p0 p1 p2 p3 K w) : CT Pr n_gate_Gate_set [.pointer p0, .int .i64 p1, .string p2, (.ag (qc3 p3) : SV).toV] K w :=
 C_of (fn := Tryz.f130) (an := .auto) (args := [.v (.pointer p0), .v (.int .i64 p1), .v (.string p2), .ag (qc3 p3)]) (by kernel_rfl) (by kernel_rfl) (by kernel_rfl) h
def A_gate_book_wait_Line_at : Ann := (.seq .auto (.seq .auto .auto (some [])) none)
def F_gate_book_wait_Line_at (p0 : Option Addr) (p1 : ByteArray) (K : Value → PT) : PT :=
 L.join (Y := Unit) (fun k1 =>
  L.nonnil p0 fun a3 =>
  L.load (.one (.map)) (a3.add 0) fun (x4 : Option Nat) =>
  L.semR Pr (.tup [eP6, .one .bool]) (Instr.lookup T_map_string_p_wait_Line (.map x4) (.string p1) true) fun (x5 : Option Addr × Bool × Unit) =>
  L.ite (!x5.2.1) (
   L.draw <|
   L.nonnil p0 fun a6 =>
   L.load (.one (.map)) (a6.add 0) fun (x7 : Option Nat) =>
   L.nonnil p0 fun a8 =>
   L.load (.one (.func)) (a8.add 1) fun (x9 : FV) =>
   L.callV Pr (.func x9.fn x9.fs x9.cs) [] rP fun (x10 : Option Addr) =>
   L.chk (a6.add 0) [.map x7] <|
   L.semU Pr (Instr.mapUpdate T_map_string_p_wait_Line (.map x7) (.string p1) (.pointer x10)) <|
   k1 (())) <|
  k1 (())) fun z2 =>
 L.nonnil p0 fun a11 =>
 L.load (.one (.map)) (a11.add 0) fun (x12 : Option Nat) =>
 L.semR Pr rP (Instr.lookup T_map_string_p_wait_Line (.map x12) (.string p1) false) fun (x13 : Option Addr) =>
 K (.pointer x13)
theorem C_gate_book_wait_Line_at (p0 : Option Addr) (p1 : ByteArray) {K : Value → PT} {w : World} (h : F_gate_book_wait_Line_at p0 p1 K w) : CT Pr n_gate_book_wait_Line_at [.pointer p0, .string p1] K w :=
 C_of (fn := Tryz.f131) (an := A_gate_book_wait_Line_at) (args := [.v (.pointer p0), .v (.string p1)]) (by kernel_rfl) (by kernel_rfl) (by kernel_rfl) h
def F_wait_Line_Len (p0 : Option Addr) (K : Value → PT) : PT :=
 L.nonnil p0 fun a1 =>
 L.load eL6 ((a1.add 0).add 0) fun (x2 : Sl) =>
 K (.int .i64 ((x2.len : Nat) : Int))
theorem C_wait_Line_Len (p0 : Option Addr) {K : Value → PT} {w : World} (h : F_wait_Line_Len p0 K w) : CT Pr n_wait_Line_Len [.pointer p0] K w :=
 C_of (fn := Tryz.f132) (an := .auto) (args := [.v (.pointer p0)]) (by kernel_rfl) (by kernel_rfl) (by kernel_rfl) h
def F_gate_Gate_send (p0 : Option Addr) (p1 : Int) (p2 : ByteArray) (K : Value → PT) : PT :=
 L.new [.int .i64 0, .int .i64 0, .int .i64 0, .string s_] T_gate_Fate fun b1 =>
 L.nonnil p0 fun a2 =>
 L.load eP6 (a2.add 0) fun (x3 : Option Addr) =>
 L.call Pr n_fleet_Fleet_Take [.pointer x3, .string p2, .int .i64 p1] (.tup [eI6, eB6]) fun (x4 : Int × Bool × Unit) =>
 L.ite (!x4.2.1) (
  L.store (⟨b1, 0, none⟩) [.int .i64 0, .int .i64 0, .int .i64 0, .string s_] <|
  L.load (.agg [.int .i64, .int .i64, .int .i64, .str]) (⟨b1, 0, none⟩) fun (x5 : pt10) =>
  K (.tuple #[.agg #[.int .i64 x5.1, .int .i64 x5.2.1, .int .i64 x5.2.2.1, .string x5.2.2.2.1], .bool false])) <|
 L.call Pr n_gate_Gate_set [.pointer p0, .int .i64 p1, .string p2, .agg #[.int .i64 0, .int .i64 1, .int .i64 x4.1, .string s_]] (.one (.agg [.int .i64, .int .i64, .int .i64, .str])) fun (x6 : pt10) =>
 L.store (⟨b1, 0, none⟩) [.int .i64 x6.1, .int .i64 x6.2.1, .int .i64 x6.2.2.1, .string x6.2.2.2.1] <|
 L.load (.agg [.int .i64, .int .i64, .int .i64, .str]) (⟨b1, 0, none⟩) fun (x7 : pt10) =>
 K (.tuple #[.agg #[.int .i64 x7.1, .int .i64 x7.2.1, .int .i64 x7.2.2.1, .string x7.2.2.2.1], .bool true])
theorem C_gate_Gate_send (p0 : Option Addr) (p1 : Int) (p2 : ByteArray) {K : Value → PT} {w : World} (h : F_gate_Gate_send p0 p1 p2 K w) : CT Pr n_gate_Gate_send [.pointer p0, .int .i64 p1, .string p2] K w :=
 C_of (fn := Tryz.f133) (an := .auto) (args := [.v (.pointer p0), .v (.int .i64 p1), .v (.string p2)]) (by kernel_rfl) (by kernel_rfl) (by kernel_rfl) h
def F_system_lines (p0 : Sl) (K : Value → PT) : PT :=
 L.new [.slice p0.a p0.len p0.cap] T_s_gate_Fate fun b1 =>
 K (.func (.func n_system_lines_1) #[] #[.pointer (some (⟨b1, 0, none⟩))])
theorem C_system_lines (p0 : Sl) {K : Value → PT} {w : World} (h : F_system_lines p0 K w) : CT Pr n_system_lines [.slice p0.a p0.len p0.cap] K w :=
 C_of (fn := Tryz.f135) (an := .auto) (args := [.v (.slice p0.a p0.len p0.cap)]) (by kernel_rfl) (by kernel_rfl) (by kernel_rfl) h
def F_pod_Pod_Up (p0 : Option Addr) (K : Value → PT) : PT :=
 L.nonnil p0 fun a1 =>
 L.load eI6 (a1.add 0) fun (x2 : Int) =>
 L.ite (x2 != 1) (
  K (.int .i64 9)) <|
 L.nonnil p0 fun a3 =>
 L.store (a3.add 0) [.int .i64 2] <|
 K (.int .i64 0)
theorem C_pod_Pod_Up (p0 : Option Addr) {K : Value → PT} {w : World} (h : F_pod_Pod_Up p0 K w) : CT Pr n_pod_Pod_Up [.pointer p0] K w :=
 C_of (fn := Tryz.f137) (an := .auto) (args := [.v (.pointer p0)]) (by kernel_rfl) (by kernel_rfl) (by kernel_rfl) h
def A_wait_Line_All : Ann := (.seq .auto (.seq .auto (.seq (.seq .auto (.seq .auto .auto (some [(12, (.one (.int .i64))), (13, (.one (.int .i64)))])) none) .auto none) none) none)
def F_wait_Line_All (p0 : Option Addr) (K : Value → PT) : PT :=
 L.call Pr n_wait_Line_Len [.pointer p0] rI fun (x1 : Int) =>
 L.sem Pr (.one (.one .slice)) (Instr.makeSlice T_s_int (.int .i64 0) (.int .i64 x1)) fun (s2 : Sl) =>
 L.new [.slice none 0 0] T_s_int fun b3 =>
 L.store (⟨b3, 0, none⟩) [.slice s2.a s2.len s2.cap] <|
 L.nonnil p0 fun a4 =>
 L.call Pr n_wait_row_int_each [.pointer (some (a4.add 0))] (.one (.one (.func))) fun (x5 : FV) =>
 L.range Pr none (.func x5.fn x5.fs x5.cs) [eI6, eI6] (fun l6 (y7 : Int × Int × Unit) R8 =>
  L.begin Pr l6 <|
  L.load eL6 (⟨b3, 0, none⟩) fun (x11 : Sl) =>
  L.new [.int .i64 y7.1] T_int fun b12 =>
  L.sem Pr (.one (.one .slice)) (Builtin.append_ #[T_s_int, T_s_int] T_s_int #[.slice x11.a x11.len x11.cap, .slice (some ⟨b12, 0, none⟩) 1 1]) fun (s13 : Sl) =>
  L.store (⟨b3, 0, none⟩) [.slice s13.a s13.len s13.cap] <|
  L.endRound Pr l6 none R8) fun d9 j10 =>
 L.jump j10 (
  L.load eL6 (⟨b3, 0, none⟩) fun (x14 : Sl) =>
  L.unmark Pr (d9 ++ []) <|
  K (.slice x14.a x14.len x14.cap)) (
  L.unmark Pr (d9 ++ []) <|
  K (.slice none 0 0)) []
theorem C_wait_Line_All (p0 : Option Addr) {K : Value → PT} {w : World} (h : F_wait_Line_All p0 K w) : CT Pr n_wait_Line_All [.pointer p0] K w :=
 C_of (fn := Tryz.f138) (an := A_wait_Line_All) (args := [.v (.pointer p0)]) (by kernel_rfl) (by kernel_rfl) (by kernel_rfl) h
def A_wait_Line_Pop : Ann := (.seq .auto (.seq (.seq .auto (.seq .auto .auto (some [(9, (.one (.int .i64))), (10, (.one (.int .i64)))])) none) .auto none) none)
def F_wait_Line_Pop (p0 : Option Addr) (K : Value → PT) : PT :=
 L.new [.pointer p0] T_p_wait_Line fun b1 =>
 L.new [.int .i64 0] T_int fun b2 =>
 L.new [.bool false] T_bool fun b3 =>
 L.load eP6 (⟨b1, 0, none⟩) fun (x4 : Option Addr) =>
 L.nonnil x4 fun a5 =>
 L.call Pr n_wait_row_int_each [.pointer (some (a5.add 0))] (.one (.one (.func))) fun (x6 : FV) =>
 L.range Pr none (.func x6.fn x6.fs x6.cs) [eI6, eI6] (fun l7 (y8 : Int × Int × Unit) R9 =>
  L.begin Pr l7 <|
  L.draw <|
  L.load eP6 (⟨b1, 0, none⟩) fun (x12 : Option Addr) =>
  L.load eP6 (⟨b1, 0, none⟩) fun (x13 : Option Addr) =>
  L.nonnil x13 fun a14 =>
  L.load eL6 ((a14.add 0).add 0) fun (x15 : Sl) =>
  L.guard (0 ≤ (1 : Int) ∧ (1 : Int) ≤ ((x15.len : Nat) : Int) ∧ ((x15.len : Nat) : Int) ≤ ((x15.cap : Nat) : Int) ∧ ((x15.cap : Nat) : Int) ≤ x15.cap) <|
  L.nonnil x12 fun a16 =>
  L.store ((a16.add 0).add 0) [.slice (if Int.toNat ((x15.cap : Nat) : Int) = Int.toNat (1 : Int) then x15.a else Option.map (fun a : Addr => a.add (Int.toNat (1 : Int) * 2)) x15.a) (Int.toNat ((x15.len : Nat) : Int) - Int.toNat (1 : Int)) (Int.toNat ((x15.cap : Nat) : Int) - Int.toNat (1 : Int))] <|
  L.store (⟨b2, 0, none⟩) [.int .i64 y8.1] <|
  L.store (⟨b3, 0, none⟩) [.bool true] <|
  L.endRound Pr l7 (some .ret) R9) fun d10 j11 =>
 L.jump j11 (
  L.store (⟨b2, 0, none⟩) [.int .i64 0] <|
  L.store (⟨b3, 0, none⟩) [.bool false] <|
  L.unmark Pr (d10 ++ []) <|
  L.load eI6 (⟨b2, 0, none⟩) fun (x17 : Int) =>
  L.load eB6 (⟨b3, 0, none⟩) fun (x18 : Bool) =>
  K (.tuple #[.int .i64 x17, .bool x18])) (
  L.unmark Pr (d10 ++ []) <|
  L.load eI6 (⟨b2, 0, none⟩) fun (x19 : Int) =>
  L.load eB6 (⟨b3, 0, none⟩) fun (x20 : Bool) =>
  K (.tuple #[.int .i64 x19, .bool x20])) []
theorem C_wait_Line_Pop (p0 : Option Addr) {K : Value → PT} {w : World} (h : F_wait_Line_Pop p0 K w) : CT Pr n_wait_Line_Pop [.pointer p0] K w :=
 C_of (fn := Tryz.f139) (an := A_wait_Line_Pop) (args := [.v (.pointer p0)]) (by kernel_rfl) (by kernel_rfl) (by kernel_rfl) h
def F_slices_Clone_gate_Fate_gate_Fate (p0 : Sl) (K : Value → PT) : PT :=
 L.ite ((p0.a).isNone) (
  K (.slice none 0 0)) <|
 L.new [] T_gate_Fate fun b1 =>
 L.sem Pr (.one (.one .slice)) (Builtin.append_ #[T_s_gate_Fate, T_s_gate_Fate] T_s_gate_Fate #[.slice (some ⟨b1, 0, none⟩) 0 0, .slice p0.a p0.len p0.cap]) fun (s2 : Sl) =>
 K (.slice s2.a s2.len s2.cap)
theorem C_slices_Clone_gate_Fate_gate_Fate (p0 : Sl) {K : Value → PT} {w : World} (h : F_slices_Clone_gate_Fate_gate_Fate p0 K w) : CT Pr n_slices_Clone_gate_Fate_gate_Fate [.slice p0.a p0.len p0.cap] K w :=
 C_of (fn := Tryz.f140) (an := .auto) (args := [.v (.slice p0.a p0.len p0.cap)]) (by kernel_rfl) (by kernel_rfl) (by kernel_rfl) h
def F_fleet_Fleet_end (p0 : Option Addr) (p1 : Int) (K : Value → PT) : PT :=
 L.nonnil p0 fun a1 =>
 L.load (.one (.map)) (a1.add 0) fun (x2 : Option Nat) =>
 L.semR Pr (.one (.agg [.str, .ptr])) (Instr.lookup T_map_int_fleet_one (.map x2) (.int .i64 p1) false) fun (x3 : ByteArray × Option Addr × Unit) =>
 L.call Pr n_pod_Pod_State [.pointer x3.2.1] rI fun (x4 : Int) =>
 L.ite (x4 == 4) (
  L.nonnil p0 fun a5 =>
  L.load (.one (.map)) (a5.add 0) fun (x6 : Option Nat) =>
  L.sem Pr (.tup []) (Builtin.delete_ #[T_map_int_fleet_one, T_int] T_ #[.map x6, .int .i64 p1]) fun _ =>
  K (.tuple #[])) <|
 K (.tuple #[])
theorem C_fleet_Fleet_end (p0 : Option Addr) (p1 : Int) {K : Value → PT} {w : World} (h : F_fleet_Fleet_end p0 p1 K w) : CT Pr n_fleet_Fleet_end [.pointer p0, .int .i64 p1] K w :=
 C_of (fn := Tryz.f142) (an := .auto) (args := [.v (.pointer p0), .v (.int .i64 p1)]) (by kernel_rfl) (by kernel_rfl) (by kernel_rfl) h
def F_gate_book_wait_Line_each (p0 : Option Addr) (K : Value → PT) : PT :=
 L.new [.pointer p0] T_p_gate_book_p_wait_Line fun b1 =>
 K (.func (.func n_gate_book_wait_Line_each_1) #[] #[.pointer (some (⟨b1, 0, none⟩))])
theorem C_gate_book_wait_Line_each (p0 : Option Addr) {K : Value → PT} {w : World} (h : F_gate_book_wait_Line_each p0 K w) : CT Pr n_gate_book_wait_Line_each [.pointer p0] K w :=
 C_of (fn := Tryz.f143) (an := .auto) (args := [.v (.pointer p0)]) (by kernel_rfl) (by kernel_rfl) (by kernel_rfl) h
def F_wait_Line_Late (p0 : Option Addr) (p1 : Int) (K : Value → PT) : PT :=
 L.nonnil p0 fun a1 =>
 L.call Pr n_wait_row_int_part [.pointer (some (a1.add 0)), .int .i64 p1] rL fun (x2 : Sl) =>
 K (.slice x2.a x2.len x2.cap)
end Go.Proofs.YtkebppklbobjcaaGreatDoor
