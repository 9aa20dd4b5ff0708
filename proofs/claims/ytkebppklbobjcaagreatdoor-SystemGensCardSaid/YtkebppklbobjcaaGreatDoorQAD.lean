/- What is proved on the way to a statement of the seat, pressed (text AD). No conditions beyond those its theorems state. -/
import Derived.Test.YtkebppklbobjcaaGreatDoorQAC
import Derived.Test.YtkebppklbobjcaaGreatDoorProg
set_option linter.all false
namespace Go.Proofs.YtkebppklbobjcaaGreatDoor
set_option maxRecDepth 100000
open Go.Dm
noncomputable abbrev Pr : Program := Tryz.prog
abbrev n_damperlaw15_SystemGens : Nat := 6
abbrev n_damperlaw15_known : Nat := 7
abbrev n_system_New : Nat := 9
abbrev n_damperlaw15_within : Nat := 10
abbrev n_damperref1_Digits : Nat := 11
abbrev n_system_System_Do : Nat := 12
abbrev n_system_System_Now : Nat := 16
abbrev n_damperref1_Rev : Nat := 17
abbrev n_system_System_Revisions : Nat := 18
abbrev n_system_within_int : Nat := 20
abbrev n_fleet_New : Nat := 21
abbrev n_shelf_New : Nat := 22
abbrev n_stamp_New : Nat := 23
abbrev n_lead_New : Nat := 24
abbrev n_gate_New : Nat := 25
abbrev n_event_Check : Nat := 26
abbrev n_system_line_string : Nat := 27
abbrev n_api_Errno_Error : Nat := 28
abbrev n_system_System_config : Nat := 29
abbrev n_system_System_route : Nat := 30
abbrev n_system_System_drop : Nat := 31
abbrev n_system_System_arrive : Nat := 32
abbrev n_system_System_done : Nat := 33
abbrev n_system_System_up : Nat := 34
abbrev n_system_System_down : Nat := 35
abbrev n_system_System_tick : Nat := 36
abbrev n_system_System_stamp : Nat := 37
abbrev n_system_System_lead : Nat := 38
abbrev n_system_System_scale : Nat := 39
abbrev n_system_System_pods : Nat := 40
abbrev n_damperref1_Name : Nat := 42
abbrev n_stamp_Book_All : Nat := 43
abbrev n_shelf_made_api_Config : Nat := 44
abbrev n_shelf_New_1 : Nat := 45
abbrev n_shelf_made_api_Route : Nat := 46
abbrev n_spec_SameRoute : Nat := 47
abbrev n_gate_New_1 : Nat := 48
abbrev n_event_shape : Nat := 50
abbrev n_event_none_int : Nat := 51
abbrev n_event_none_string : Nat := 52
abbrev n_event_none_api_Config : Nat := 53
abbrev n_event_bare : Nat := 54
abbrev n_event_number : Nat := 55
abbrev n_event_named : Nat := 56
abbrev n_label_Tag : Nat := 57
abbrev n_event_within : Nat := 58
abbrev n_spec_Config : Nat := 59
abbrev n_spec_Route : Nat := 60
abbrev n_strconv_Itoa : Nat := 61
abbrev n_strings_Join : Nat := 62
abbrev n_api_early : Nat := 63
abbrev n_api_late : Nat := 64
abbrev n_shelf_Shelf_PutConfig : Nat := 65
abbrev n_system_put : Nat := 66
abbrev n_system_refused : Nat := 69
abbrev n_system_told : Nat := 73
abbrev n_system_line_int : Nat := 75
abbrev n_gate_Gate_Tick : Nat := 84
abbrev n_gauge_Gauge_Add : Nat := 85
abbrev n_gate_Gate_Busy : Nat := 86
abbrev n_shelf_Shelf_Config : Nat := 87
abbrev n_stamp_Book_Stamp : Nat := 88
abbrev n_gauge_New : Nat := 89
abbrev n_damperref1_sign : Nat := 104
abbrev n_slices_Clone_string_string : Nat := 105
abbrev n_stamp_shelf_api_Revision_names : Nat := 106
abbrev n_label_Split : Nat := 109
abbrev n_label_Name : Nat := 110
abbrev n_label_short : Nat := 111
abbrev n_spec_span_has : Nat := 112
abbrev n_spec_target : Nat := 113
abbrev n_spec_all : Nat := 114
abbrev n_shelf_rack_api_Config_may : Nat := 119
abbrev n_shelf_rack_api_Config_put : Nat := 120
abbrev n_gate_why : Nat := 129
abbrev n_gate_Gate_set : Nat := 130
abbrev n_wait_Line_Len : Nat := 132
abbrev n_system_lines : Nat := 135
abbrev n_wait_Line_All : Nat := 138
abbrev n_slices_Clone_gate_Fate_gate_Fate : Nat := 140
abbrev n_gate_book_wait_Line_each : Nat := 143
abbrev n_wait_Line_Late : Nat := 144
abbrev n_gauge_ring_int_add : Nat := 145
abbrev n_gate_Gate_Inside : Nat := 146
abbrev n_shelf_rack_api_Config_get : Nat := 147
abbrev n_label_Rev : Nat := 148
abbrev n_slices_Clone_int_int : Nat := 166
abbrev n_slices_Sorted_string : Nat := 169
abbrev n_maps_Keys_stamp_shelf_api_Revision_string_api_Revision : Nat := 170
abbrev n_strings_LastIndex : Nat := 171
abbrev n_strconv_Atoi : Nat := 172
abbrev n_label_sign : Nat := 173
abbrev n_label_letter : Nat := 174
abbrev n_slices_ContainsFunc_api_Target_api_Target : Nat := 175
abbrev n_spec_all_1 : Nat := 176
abbrev n_system_lines_1 : Nat := 185
abbrev n_system_fate : Nat := 186
abbrev n_wait_row_int_each : Nat := 188
abbrev n_gate_book_wait_Line_each_1 : Nat := 193
abbrev n_maps_Keys_map_string_wait_Line_string_wait_Line : Nat := 194
abbrev n_wait_row_int_part : Nat := 195
abbrev n_slices_Sort_int_int : Nat := 196
abbrev n_slices_Collect_string : Nat := 210
abbrev n_slices_Sort_string_string : Nat := 211
abbrev n_maps_Keys_stamp_shelf_api_Revision_string_api_Revision_1 : Nat := 212
abbrev n_slices_IndexFunc_api_Target_api_Target : Nat := 217
abbrev n_wait_row_int_each_1 : Nat := 227
abbrev n_maps_Keys_map_string_wait_Line_string_wait_Line_1 : Nat := 230
abbrev n_slices_AppendSeq_string_string : Nat := 243
abbrev T_ : Nat := 0
abbrev T_int : Nat := 3
abbrev T_bool : Nat := 4
abbrev T_uint8 : Nat := 5
abbrev T_string : Nat := 9
abbrev T_interface : Nat := 20
abbrev T_api_Config : Nat := 23
abbrev T_api_Route : Nat := 34
abbrev T_api_Event : Nat := 36
abbrev T_api_Target : Nat := 38
abbrev T_s_string : Nat := 40
abbrev T_func_api_Event_s_string : Nat := 41
abbrev T_s_int : Nat := 43
abbrev T_p_gate_Gate : Nat := 69
abbrev T_system_things_p_system_beside : Nat := 72
abbrev T_system_System : Nat := 74
abbrev T_s_uint8 : Nat := 75
abbrev T_map_int_func_api_Event_s_string : Nat := 79
abbrev T_api_Share : Nat := 81
abbrev T_api_TagTo : Nat := 83
abbrev T_map_int_fleet_one : Nat := 85
abbrev T_map_int_int : Nat := 86
abbrev T_fleet_Fleet : Nat := 88
abbrev T_shelf_Shelf : Nat := 96
abbrev T_stamp_shelf_api_Revision : Nat := 98
abbrev T_stamp_shelf_bool : Nat := 100
abbrev T_stamp_Book : Nat := 102
abbrev T_map_string_lead_way : Nat := 103
abbrev T_lead_Roller : Nat := 105
abbrev T_map_int_gate_request : Nat := 106
abbrev T_map_string_p_wait_Line : Nat := 107
abbrev T_p_wait_Line : Nat := 108
abbrev T_gate_Gate : Nat := 114
abbrev T_event_has : Nat := 116
abbrev T_s_gate_Fate : Nat := 136
abbrev T_p_system_beside : Nat := 139
abbrev T_gate_Fate : Nat := 143
abbrev T_system_beside : Nat := 148
abbrev T_api_Revision : Nat := 172
abbrev T_map_string_shelf_thing_api_Config : Nat := 188
abbrev T_shelf_rack_api_Config : Nat := 190
abbrev T_map_string_shelf_thing_api_Route : Nat := 191
abbrev T_shelf_rack_api_Route : Nat := 193
abbrev T_s_wait_held_int : Nat := 196
abbrev T_wait_Line : Nat := 200
abbrev T_spec_span : Nat := 205
abbrev T_gate_request : Nat := 245
abbrev T_gauge_Gauge : Nat := 254
abbrev T_shelf_thing_api_Config : Nat := 257
abbrev T_p_gate_book_p_wait_Line : Nat := 308
abbrev T_wait_held_int : Nat := 312
abbrev T_pod_Pod : Nat := 318
abbrev T_p_wait_row_int : Nat := 357
def s_ : ByteArray := ⟨#[]⟩
def s_web : ByteArray := ⟨#[119, 101, 98]⟩
def s__1_6e96 : ByteArray := ⟨#[32, 49]⟩
def s___b5c5 : ByteArray := ⟨#[32]⟩
def s_config_web__7cf9 : ByteArray := ⟨#[99, 111, 110, 102, 105, 103, 32, 119, 101, 98, 32]⟩
def s_same__fab : ByteArray := ⟨#[115, 97, 109, 101, 32]⟩
def s_revision__114 : ByteArray := ⟨#[114, 101, 118, 105, 115, 105, 111, 110, 32]⟩
def s_scale__c84d : ByteArray := ⟨#[115, 99, 97, 108, 101, 32]⟩
def s_bad_kind : ByteArray := ⟨#[98, 97, 100, 32, 107, 105, 110, 100]⟩
def s_tick_1 : ByteArray := ⟨#[116, 105, 99, 107, 32, 49]⟩
def s___b5d2 : ByteArray := ⟨#[45]⟩
def s_bad : ByteArray := ⟨#[98, 97, 100]⟩
def s___b5df : ByteArray := ⟨#[58]⟩
def s___b5e2 : ByteArray := ⟨#[61]⟩
def s_config : ByteArray := ⟨#[99, 111, 110, 102, 105, 103]⟩
def s_scale : ByteArray := ⟨#[115, 99, 97, 108, 101]⟩
def s_tick : ByteArray := ⟨#[116, 105, 99, 107]⟩
def s_same : ByteArray := ⟨#[115, 97, 109, 101]⟩
def s_revision : ByteArray := ⟨#[114, 101, 118, 105, 115, 105, 111, 110]⟩
def s_ok : ByteArray := ⟨#[111, 107]⟩
def s_name : ByteArray := ⟨#[110, 97, 109, 101]⟩
def s_arg : ByteArray := ⟨#[97, 114, 103]⟩
def s_long : ByteArray := ⟨#[108, 111, 110, 103]⟩
def s_sum : ByteArray := ⟨#[115, 117, 109]⟩
def s_twice : ByteArray := ⟨#[116, 119, 105, 99, 101]⟩
def s_none : ByteArray := ⟨#[110, 111, 110, 101]⟩
def s_error : ByteArray := ⟨#[101, 114, 114, 111, 114]⟩
def s_stale : ByteArray := ⟨#[115, 116, 97, 108, 101]⟩
def s_full : ByteArray := ⟨#[102, 117, 108, 108]⟩
def s_state : ByteArray := ⟨#[115, 116, 97, 116, 101]⟩
def s_cut : ByteArray := ⟨#[99, 117, 116]⟩
def s_more : ByteArray := ⟨#[109, 111, 114, 101]⟩
def s_kind : ByteArray := ⟨#[107, 105, 110, 100]⟩
def s_refused : ByteArray := ⟨#[114, 101, 102, 117, 115, 101, 100]⟩
def s_timeout : ByteArray := ⟨#[116, 105, 109, 101, 111, 117, 116]⟩
def s_sent : ByteArray := ⟨#[115, 101, 110, 116]⟩
def s_waits : ByteArray := ⟨#[119, 97, 105, 116, 115]⟩
def s_done : ByteArray := ⟨#[100, 111, 110, 101]⟩
def ti_0 : TI := ⟨.tuple [], 1, none, none⟩
def ti_1 : TI := ⟨.func, 1, some (.one (.func)), some [.nilFunc]⟩
def ti_2 : TI := ⟨.int .i64, 1, some (.one (.int .i64)), some [.int .i64 0]⟩
def ti_3 : TI := ⟨.int .i64, 1, some (.one (.int .i64)), some [.int .i64 0]⟩
def ti_4 : TI := ⟨.bool, 1, some (.one (.bool)), some [.bool false]⟩
def ti_5 : TI := ⟨.int .u8, 1, some (.one (.int .u8)), some [.int .u8 0]⟩
def ti_6 : TI := ⟨.int .u8, 1, some (.one (.int .u8)), some [.int .u8 0]⟩
def ti_7 : TI := ⟨.struct [(2, 0), (3, 1), (4, 2), (6, 3)], 4, some (.agg [.int .i64, .int .i64, .bool, .int .u8]), some [.int .i64 0, .int .i64 0, .bool false, .int .u8 0]⟩
def ti_8 : TI := ⟨.struct [(2, 0), (3, 1), (4, 2), (6, 3)], 4, some (.agg [.int .i64, .int .i64, .bool, .int .u8]), some [.int .i64 0, .int .i64 0, .bool false, .int .u8 0]⟩
def ti_9 : TI := ⟨.str, 1, some (.one (.str)), some [.string s_]⟩
def ti_10 : TI := ⟨.str, 1, some (.one (.str)), some [.string s_]⟩
def ti_11 : TI := ⟨.str, 1, some (.one (.str)), some [.string s_]⟩
def ti_12 : TI := ⟨.int .u64, 1, some (.one (.int .u64)), some [.int .u64 0]⟩
def ti_13 : TI := ⟨.struct [(9, 0), (12, 1)], 2, some (.agg [.str, .int .u64]), some [.string s_, .int .u64 0]⟩
def ti_14 : TI := ⟨.struct [(9, 0), (12, 1)], 2, some (.agg [.str, .int .u64]), some [.string s_, .int .u64 0]⟩
def ti_15 : TI := ⟨.ptr, 1, some (.one (.ptr)), some [.pointer none]⟩
def ti_16 : TI := ⟨.ptr, 1, some (.one (.ptr)), some [.pointer none]⟩
def ti_17 : TI := ⟨.ptr, 1, some (.one (.ptr)), some [.pointer none]⟩
def ti_18 : TI := ⟨.struct [(17, 0)], 1, some (.agg [.ptr]), some [.pointer none]⟩
def ti_19 : TI := ⟨.struct [(17, 0)], 1, some (.agg [.ptr]), some [.pointer none]⟩
def ti_20 : TI := ⟨.iface, 1, some (.one (.iface)), some [.nilIface]⟩
def ti_21 : TI := ⟨.int .i32, 1, some (.one (.int .i32)), some [.int .i32 0]⟩
def ti_22 : TI := ⟨.struct [(9, 0), (3, 1), (3, 2), (3, 3), (3, 4), (3, 5)], 6, some (.agg [.str, .int .i64, .int .i64, .int .i64, .int .i64, .int .i64]), some [.string s_, .int .i64 0, .int .i64 0, .int .i64 0, .int .i64 0, .int .i64 0]⟩
def ti_23 : TI := ⟨.struct [(9, 0), (3, 1), (3, 2), (3, 3), (3, 4), (3, 5)], 6, some (.agg [.str, .int .i64, .int .i64, .int .i64, .int .i64, .int .i64]), some [.string s_, .int .i64 0, .int .i64 0, .int .i64 0, .int .i64 0, .int .i64 0]⟩
def ti_24 : TI := ⟨.func, 1, some (.one (.func)), some [.nilFunc]⟩
def ti_25 : TI := ⟨.func, 1, some (.one (.func)), some [.nilFunc]⟩
def ti_26 : TI := ⟨.ptr, 1, some (.one (.ptr)), some [.pointer none]⟩
def ti_27 : TI := ⟨.int .i64, 1, some (.one (.int .i64)), some [.int .i64 0]⟩
def ti_28 : TI := ⟨.tuple [26, 27], 1, none, none⟩
def ti_29 : TI := ⟨.func, 1, some (.one (.func)), some [.nilFunc]⟩
def ti_30 : TI := ⟨.func, 1, some (.one (.func)), some [.nilFunc]⟩
def ti_31 : TI := ⟨.func, 1, some (.one (.func)), some [.nilFunc]⟩
def ti_32 : TI := ⟨.slice 38, 1, some (.one (.slice)), some [.slice none 0 0]⟩
def ti_33 : TI := ⟨.struct [(9, 0), (9, 1), (32, 2), (3, 3)], 4, some (.agg [.str, .str, .slice, .int .i64]), some [.string s_, .string s_, .slice none 0 0, .int .i64 0]⟩
def ti_34 : TI := ⟨.struct [(9, 0), (9, 1), (32, 2), (3, 3)], 4, some (.agg [.str, .str, .slice, .int .i64]), some [.string s_, .string s_, .slice none 0 0, .int .i64 0]⟩
def ti_35 : TI := ⟨.struct [(3, 0), (9, 1), (9, 2), (3, 3), (3, 4), (23, 5), (34, 11)], 15, some (.agg [.int .i64, .str, .str, .int .i64, .int .i64, .str, .int .i64, .int .i64, .int .i64, .int .i64, .int .i64, .str, .str, .slice, .int .i64]), some [.int .i64 0, .string s_, .string s_, .int .i64 0, .int .i64 0, .string s_, .int .i64 0, .int .i64 0, .int .i64 0, .int .i64 0, .int .i64 0, .string s_, .string s_, .slice none 0 0, .int .i64 0]⟩
def ti_36 : TI := ⟨.struct [(3, 0), (9, 1), (9, 2), (3, 3), (3, 4), (23, 5), (34, 11)], 15, some (.agg [.int .i64, .str, .str, .int .i64, .int .i64, .str, .int .i64, .int .i64, .int .i64, .int .i64, .int .i64, .str, .str, .slice, .int .i64]), some [.int .i64 0, .string s_, .string s_, .int .i64 0, .int .i64 0, .string s_, .int .i64 0, .int .i64 0, .int .i64 0, .int .i64 0, .int .i64 0, .string s_, .string s_, .slice none 0 0, .int .i64 0]⟩
def ti_37 : TI := ⟨.struct [(9, 0), (9, 1), (3, 2)], 3, some (.agg [.str, .str, .int .i64]), some [.string s_, .string s_, .int .i64 0]⟩
def ti_38 : TI := ⟨.struct [(9, 0), (9, 1), (3, 2)], 3, some (.agg [.str, .str, .int .i64]), some [.string s_, .string s_, .int .i64 0]⟩
def ti_39 : TI := ⟨.slice 36, 1, some (.one (.slice)), some [.slice none 0 0]⟩
def ti_40 : TI := ⟨.slice 9, 1, some (.one (.slice)), some [.slice none 0 0]⟩
def ti_41 : TI := ⟨.func, 1, some (.one (.func)), some [.nilFunc]⟩
def ti_42 : TI := ⟨.func, 1, some (.one (.func)), some [.nilFunc]⟩
def ti_43 : TI := ⟨.slice 3, 1, some (.one (.slice)), some [.slice none 0 0]⟩
def ti_44 : TI := ⟨.slice 4, 1, some (.one (.slice)), some [.slice none 0 0]⟩
def ti_45 : TI := ⟨.tuple [26, 4], 1, none, none⟩
def ti_46 : TI := ⟨.func, 1, some (.one (.func)), some [.nilFunc]⟩
def ti_47 : TI := ⟨.slice 81, 1, some (.one (.slice)), some [.slice none 0 0]⟩
def ti_48 : TI := ⟨.slice 83, 1, some (.one (.slice)), some [.slice none 0 0]⟩
def ti_49 : TI := ⟨.struct [(47, 0), (48, 1)], 2, some (.agg [.slice, .slice]), some [.slice none 0 0, .slice none 0 0]⟩
def ti_50 : TI := ⟨.struct [(47, 0), (48, 1)], 2, some (.agg [.slice, .slice]), some [.slice none 0 0, .slice none 0 0]⟩
def ti_51 : TI := ⟨.tuple [50, 4], 1, none, none⟩
def ti_52 : TI := ⟨.func, 1, some (.one (.func)), some [.nilFunc]⟩
def ti_53 : TI := ⟨.func, 1, some (.one (.func)), some [.nilFunc]⟩
def ti_54 : TI := ⟨.func, 1, some (.one (.func)), some [.nilFunc]⟩
def ti_55 : TI := ⟨.func, 1, some (.one (.func)), some [.nilFunc]⟩
def ti_56 : TI := ⟨.func, 1, some (.one (.func)), some [.nilFunc]⟩
def ti_57 : TI := ⟨.func, 1, some (.one (.func)), some [.nilFunc]⟩
def ti_58 : TI := ⟨.func, 1, some (.one (.func)), some [.nilFunc]⟩
def ti_59 : TI := ⟨.func, 1, some (.one (.func)), some [.nilFunc]⟩
def ti_60 : TI := ⟨.func, 1, some (.one (.func)), some [.nilFunc]⟩
def ti_61 : TI := ⟨.ptr, 1, some (.one (.ptr)), some [.pointer none]⟩
def ti_62 : TI := ⟨.func, 1, some (.one (.func)), some [.nilFunc]⟩
def ti_63 : TI := ⟨.ptr, 1, some (.one (.ptr)), some [.pointer none]⟩
def ti_64 : TI := ⟨.func, 1, some (.one (.func)), some [.nilFunc]⟩
def ti_65 : TI := ⟨.ptr, 1, some (.one (.ptr)), some [.pointer none]⟩
def ti_66 : TI := ⟨.func, 1, some (.one (.func)), some [.nilFunc]⟩
def ti_67 : TI := ⟨.ptr, 1, some (.one (.ptr)), some [.pointer none]⟩
def ti_68 : TI := ⟨.func, 1, some (.one (.func)), some [.nilFunc]⟩
def ti_69 : TI := ⟨.ptr, 1, some (.one (.ptr)), some [.pointer none]⟩
def ti_70 : TI := ⟨.func, 1, some (.one (.func)), some [.nilFunc]⟩
def ti_71 : TI := ⟨.map 9 139, 1, some (.one (.map)), some [.map none]⟩
def ti_72 : TI := ⟨.map 9 139, 1, some (.one (.map)), some [.map none]⟩
def ti_73 : TI := ⟨.struct [(63, 0), (65, 1), (67, 2), (61, 3), (69, 4), (72, 5), (3, 6)], 7, some (.agg [.ptr, .ptr, .ptr, .ptr, .ptr, .map, .int .i64]), some [.pointer none, .pointer none, .pointer none, .pointer none, .pointer none, .map none, .int .i64 0]⟩
def ti_74 : TI := ⟨.struct [(63, 0), (65, 1), (67, 2), (61, 3), (69, 4), (72, 5), (3, 6)], 7, some (.agg [.ptr, .ptr, .ptr, .ptr, .ptr, .map, .int .i64]), some [.pointer none, .pointer none, .pointer none, .pointer none, .pointer none, .map none, .int .i64 0]⟩
def ti_75 : TI := ⟨.slice 5, 1, some (.one (.slice)), some [.slice none 0 0]⟩
def ti_76 : TI := ⟨.func, 1, some (.one (.func)), some [.nilFunc]⟩
def ti_77 : TI := ⟨.func, 1, some (.one (.func)), some [.nilFunc]⟩
def ti_78 : TI := ⟨.func, 1, some (.one (.func)), some [.nilFunc]⟩
def ti_79 : TI := ⟨.map 3 41, 1, some (.one (.map)), some [.map none]⟩
def ti_80 : TI := ⟨.struct [(9, 0), (3, 1)], 2, some (.agg [.str, .int .i64]), some [.string s_, .int .i64 0]⟩
def ti_81 : TI := ⟨.struct [(9, 0), (3, 1)], 2, some (.agg [.str, .int .i64]), some [.string s_, .int .i64 0]⟩
def ti_82 : TI := ⟨.struct [(9, 0), (9, 1)], 2, some (.agg [.str, .str]), some [.string s_, .string s_]⟩
def ti_83 : TI := ⟨.struct [(9, 0), (9, 1)], 2, some (.agg [.str, .str]), some [.string s_, .string s_]⟩
def ti_84 : TI := ⟨.func, 1, some (.one (.func)), some [.nilFunc]⟩
def ti_85 : TI := ⟨.map 3 236, 1, some (.one (.map)), some [.map none]⟩
def ti_86 : TI := ⟨.map 3 3, 1, some (.one (.map)), some [.map none]⟩
def ti_87 : TI := ⟨.struct [(85, 0), (86, 1), (3, 2), (3, 3)], 4, some (.agg [.map, .map, .int .i64, .int .i64]), some [.map none, .map none, .int .i64 0, .int .i64 0]⟩
def ti_88 : TI := ⟨.struct [(85, 0), (86, 1), (3, 2), (3, 3)], 4, some (.agg [.map, .map, .int .i64, .int .i64]), some [.map none, .map none, .int .i64 0, .int .i64 0]⟩
def ti_89 : TI := ⟨.ptr, 1, some (.one (.ptr)), some [.pointer none]⟩
def ti_90 : TI := ⟨.func, 1, some (.one (.func)), some [.nilFunc]⟩
def ti_91 : TI := ⟨.func, 1, some (.one (.func)), some [.nilFunc]⟩
def ti_92 : TI := ⟨.ptr, 1, some (.one (.ptr)), some [.pointer none]⟩
def ti_93 : TI := ⟨.func, 1, some (.one (.func)), some [.nilFunc]⟩
def ti_94 : TI := ⟨.func, 1, some (.one (.func)), some [.nilFunc]⟩
def ti_95 : TI := ⟨.struct [(89, 0), (92, 1), (3, 2)], 3, some (.agg [.ptr, .ptr, .int .i64]), some [.pointer none, .pointer none, .int .i64 0]⟩
def ti_96 : TI := ⟨.struct [(89, 0), (92, 1), (3, 2)], 3, some (.agg [.ptr, .ptr, .int .i64]), some [.pointer none, .pointer none, .int .i64 0]⟩
def ti_97 : TI := ⟨.map 9 172, 1, some (.one (.map)), some [.map none]⟩
def ti_98 : TI := ⟨.map 9 172, 1, some (.one (.map)), some [.map none]⟩
def ti_99 : TI := ⟨.map 9 4, 1, some (.one (.map)), some [.map none]⟩
def ti_100 : TI := ⟨.map 9 4, 1, some (.one (.map)), some [.map none]⟩
def ti_101 : TI := ⟨.struct [(98, 0), (100, 1)], 2, some (.agg [.map, .map]), some [.map none, .map none]⟩
def ti_102 : TI := ⟨.struct [(98, 0), (100, 1)], 2, some (.agg [.map, .map]), some [.map none, .map none]⟩
def ti_103 : TI := ⟨.map 9 183, 1, some (.one (.map)), some [.map none]⟩
def ti_104 : TI := ⟨.struct [(103, 0)], 1, some (.agg [.map]), some [.map none]⟩
def ti_105 : TI := ⟨.struct [(103, 0)], 1, some (.agg [.map]), some [.map none]⟩
def ti_106 : TI := ⟨.map 3 245, 1, some (.one (.map)), some [.map none]⟩
def ti_107 : TI := ⟨.map 9 108, 1, some (.one (.map)), some [.map none]⟩
def ti_108 : TI := ⟨.ptr, 1, some (.one (.ptr)), some [.pointer none]⟩
def ti_109 : TI := ⟨.func, 1, some (.one (.func)), some [.nilFunc]⟩
def ti_110 : TI := ⟨.func, 1, some (.one (.func)), some [.nilFunc]⟩
def ti_111 : TI := ⟨.struct [(107, 0), (110, 1)], 2, some (.agg [.map, .func]), some [.map none, .nilFunc]⟩
def ti_112 : TI := ⟨.struct [(107, 0), (110, 1)], 2, some (.agg [.map, .func]), some [.map none, .nilFunc]⟩
def ti_113 : TI := ⟨.struct [(61, 0), (106, 1), (112, 2), (3, 4), (3, 5)], 6, some (.agg [.ptr, .map, .map, .func, .int .i64, .int .i64]), some [.pointer none, .map none, .map none, .nilFunc, .int .i64 0, .int .i64 0]⟩
def ti_114 : TI := ⟨.struct [(61, 0), (106, 1), (112, 2), (3, 4), (3, 5)], 6, some (.agg [.ptr, .map, .map, .func, .int .i64, .int .i64]), some [.pointer none, .map none, .map none, .nilFunc, .int .i64 0, .int .i64 0]⟩
def ti_115 : TI := ⟨.struct [(4, 0), (4, 1), (4, 2), (4, 3), (4, 4), (4, 5)], 6, some (.agg [.bool, .bool, .bool, .bool, .bool, .bool]), some [.bool false, .bool false, .bool false, .bool false, .bool false, .bool false]⟩
def ti_116 : TI := ⟨.struct [(4, 0), (4, 1), (4, 2), (4, 3), (4, 4), (4, 5)], 6, some (.agg [.bool, .bool, .bool, .bool, .bool, .bool]), some [.bool false, .bool false, .bool false, .bool false, .bool false, .bool false]⟩
def ti_117 : TI := ⟨.tuple [116, 4], 1, none, none⟩
def ti_118 : TI := ⟨.func, 1, some (.one (.func)), some [.nilFunc]⟩
def ti_119 : TI := ⟨.func, 1, some (.one (.func)), some [.nilFunc]⟩
def ti_120 : TI := ⟨.func, 1, some (.one (.func)), some [.nilFunc]⟩
def ti_121 : TI := ⟨.func, 1, some (.one (.func)), some [.nilFunc]⟩
def ti_122 : TI := ⟨.func, 1, some (.one (.func)), some [.nilFunc]⟩
def ti_123 : TI := ⟨.func, 1, some (.one (.func)), some [.nilFunc]⟩
def ti_124 : TI := ⟨.func, 1, some (.one (.func)), some [.nilFunc]⟩
def ti_125 : TI := ⟨.func, 1, some (.one (.func)), some [.nilFunc]⟩
def ti_126 : TI := ⟨.func, 1, some (.one (.func)), some [.nilFunc]⟩
def ti_127 : TI := ⟨.func, 1, some (.one (.func)), some [.nilFunc]⟩
def ti_128 : TI := ⟨.tuple [3, 27], 1, none, none⟩
def ti_129 : TI := ⟨.func, 1, some (.one (.func)), some [.nilFunc]⟩
def ti_130 : TI := ⟨.func, 1, some (.one (.func)), some [.nilFunc]⟩
def ti_131 : TI := ⟨.func, 1, some (.one (.func)), some [.nilFunc]⟩
def ti_132 : TI := ⟨.func, 1, some (.one (.func)), some [.nilFunc]⟩
def ti_133 : TI := ⟨.func, 1, some (.one (.func)), some [.nilFunc]⟩
def ti_134 : TI := ⟨.func, 1, some (.one (.func)), some [.nilFunc]⟩
def ti_135 : TI := ⟨.func, 1, some (.one (.func)), some [.nilFunc]⟩
def ti_136 : TI := ⟨.slice 143, 1, some (.one (.slice)), some [.slice none 0 0]⟩
def ti_137 : TI := ⟨.func, 1, some (.one (.func)), some [.nilFunc]⟩
def ti_138 : TI := ⟨.func, 1, some (.one (.func)), some [.nilFunc]⟩
def ti_139 : TI := ⟨.ptr, 1, some (.one (.ptr)), some [.pointer none]⟩
def ti_140 : TI := ⟨.tuple [139, 4], 1, none, none⟩
def ti_141 : TI := ⟨.func, 1, some (.one (.func)), some [.nilFunc]⟩
def ti_142 : TI := ⟨.struct [(3, 0), (3, 1), (3, 2), (9, 3)], 4, some (.agg [.int .i64, .int .i64, .int .i64, .str]), some [.int .i64 0, .int .i64 0, .int .i64 0, .string s_]⟩
def ti_143 : TI := ⟨.struct [(3, 0), (3, 1), (3, 2), (9, 3)], 4, some (.agg [.int .i64, .int .i64, .int .i64, .str]), some [.int .i64 0, .int .i64 0, .int .i64 0, .string s_]⟩
def ti_144 : TI := ⟨.struct [(3, 0), (3, 1)], 2, some (.agg [.int .i64, .int .i64]), some [.int .i64 0, .int .i64 0]⟩
def ti_145 : TI := ⟨.struct [(3, 0), (3, 1)], 2, some (.agg [.int .i64, .int .i64]), some [.int .i64 0, .int .i64 0]⟩
def ti_146 : TI := ⟨.ptr, 1, some (.one (.ptr)), some [.pointer none]⟩
def ti_147 : TI := ⟨.struct [(146, 0), (145, 1)], 3, some (.agg [.ptr, .int .i64, .int .i64]), some [.pointer none, .int .i64 0, .int .i64 0]⟩
def ti_148 : TI := ⟨.struct [(146, 0), (145, 1)], 3, some (.agg [.ptr, .int .i64, .int .i64]), some [.pointer none, .int .i64 0, .int .i64 0]⟩
def ti_149 : TI := ⟨.func, 1, some (.one (.func)), some [.nilFunc]⟩
def ti_150 : TI := ⟨.tuple [136, 27], 1, none, none⟩
def ti_151 : TI := ⟨.func, 1, some (.one (.func)), some [.nilFunc]⟩
def ti_152 : TI := ⟨.func, 1, some (.one (.func)), some [.nilFunc]⟩
def ti_153 : TI := ⟨.func, 1, some (.one (.func)), some [.nilFunc]⟩
def ti_154 : TI := ⟨.func, 1, some (.one (.func)), some [.nilFunc]⟩
def ti_155 : TI := ⟨.tuple [43, 27], 1, none, none⟩
def ti_156 : TI := ⟨.func, 1, some (.one (.func)), some [.nilFunc]⟩
def ti_157 : TI := ⟨.func, 1, some (.one (.func)), some [.nilFunc]⟩
def ti_158 : TI := ⟨.func, 1, some (.one (.func)), some [.nilFunc]⟩
def ti_159 : TI := ⟨.func, 1, some (.one (.func)), some [.nilFunc]⟩
def ti_160 : TI := ⟨.func, 1, some (.one (.func)), some [.nilFunc]⟩
def ti_161 : TI := ⟨.tuple [23, 3, 3, 4], 1, none, none⟩
def ti_162 : TI := ⟨.func, 1, some (.one (.func)), some [.nilFunc]⟩
def ti_163 : TI := ⟨.tuple [9, 4], 1, none, none⟩
def ti_164 : TI := ⟨.func, 1, some (.one (.func)), some [.nilFunc]⟩
def ti_165 : TI := ⟨.func, 1, some (.one (.func)), some [.nilFunc]⟩
def ti_166 : TI := ⟨.tuple [34, 3, 4], 1, none, none⟩
def ti_167 : TI := ⟨.func, 1, some (.one (.func)), some [.nilFunc]⟩
def ti_168 : TI := ⟨.tuple [50, 27], 1, none, none⟩
def ti_169 : TI := ⟨.func, 1, some (.one (.func)), some [.nilFunc]⟩
def ti_170 : TI := ⟨.func, 1, some (.one (.func)), some [.nilFunc]⟩
def ti_171 : TI := ⟨.struct [(9, 0), (3, 1), (23, 2)], 8, some (.agg [.str, .int .i64, .str, .int .i64, .int .i64, .int .i64, .int .i64, .int .i64]), some [.string s_, .int .i64 0, .string s_, .int .i64 0, .int .i64 0, .int .i64 0, .int .i64 0, .int .i64 0]⟩
def ti_172 : TI := ⟨.struct [(9, 0), (3, 1), (23, 2)], 8, some (.agg [.str, .int .i64, .str, .int .i64, .int .i64, .int .i64, .int .i64, .int .i64]), some [.string s_, .int .i64 0, .string s_, .int .i64 0, .int .i64 0, .int .i64 0, .int .i64 0, .int .i64 0]⟩
def ti_173 : TI := ⟨.tuple [172, 4], 1, none, none⟩
def ti_174 : TI := ⟨.func, 1, some (.one (.func)), some [.nilFunc]⟩
def ti_175 : TI := ⟨.func, 1, some (.one (.func)), some [.nilFunc]⟩
def ti_176 : TI := ⟨.func, 1, some (.one (.func)), some [.nilFunc]⟩
def ti_177 : TI := ⟨.tuple [3, 3], 1, none, none⟩
def ti_178 : TI := ⟨.func, 1, some (.one (.func)), some [.nilFunc]⟩
def ti_179 : TI := ⟨.func, 1, some (.one (.func)), some [.nilFunc]⟩
def ti_180 : TI := ⟨.tuple [43, 43], 1, none, none⟩
def ti_181 : TI := ⟨.func, 1, some (.one (.func)), some [.nilFunc]⟩
def ti_182 : TI := ⟨.struct [(47, 0), (47, 1), (3, 2), (3, 3), (50, 4)], 6, some (.agg [.slice, .slice, .int .i64, .int .i64, .slice, .slice]), some [.slice none 0 0, .slice none 0 0, .int .i64 0, .int .i64 0, .slice none 0 0, .slice none 0 0]⟩
def ti_183 : TI := ⟨.struct [(47, 0), (47, 1), (3, 2), (3, 3), (50, 4)], 6, some (.agg [.slice, .slice, .int .i64, .int .i64, .slice, .slice]), some [.slice none 0 0, .slice none 0 0, .int .i64 0, .int .i64 0, .slice none 0 0, .slice none 0 0]⟩
def ti_184 : TI := ⟨.tuple [183, 4], 1, none, none⟩
def ti_185 : TI := ⟨.func, 1, some (.one (.func)), some [.nilFunc]⟩
def ti_186 : TI := ⟨.func, 1, some (.one (.func)), some [.nilFunc]⟩
def ti_187 : TI := ⟨.func, 1, some (.one (.func)), some [.nilFunc]⟩
def ti_188 : TI := ⟨.map 9 257, 1, some (.one (.map)), some [.map none]⟩
def ti_189 : TI := ⟨.struct [(188, 0), (91, 1)], 2, some (.agg [.map, .func]), some [.map none, .nilFunc]⟩
def ti_190 : TI := ⟨.struct [(188, 0), (91, 1)], 2, some (.agg [.map, .func]), some [.map none, .nilFunc]⟩
def ti_191 : TI := ⟨.map 9 261, 1, some (.one (.map)), some [.map none]⟩
def ti_192 : TI := ⟨.struct [(191, 0), (94, 1)], 2, some (.agg [.map, .func]), some [.map none, .nilFunc]⟩
def ti_193 : TI := ⟨.struct [(191, 0), (94, 1)], 2, some (.agg [.map, .func]), some [.map none, .nilFunc]⟩
def ti_194 : TI := ⟨.func, 1, some (.one (.func)), some [.nilFunc]⟩
def ti_195 : TI := ⟨.func, 1, some (.one (.func)), some [.nilFunc]⟩
def ti_196 : TI := ⟨.slice 312, 1, some (.one (.slice)), some [.slice none 0 0]⟩
def ti_197 : TI := ⟨.struct [(196, 0)], 1, some (.agg [.slice]), some [.slice none 0 0]⟩
def ti_198 : TI := ⟨.struct [(196, 0)], 1, some (.agg [.slice]), some [.slice none 0 0]⟩
def ti_199 : TI := ⟨.struct [(198, 0), (3, 1)], 2, some (.agg [.slice, .int .i64]), some [.slice none 0 0, .int .i64 0]⟩
def ti_200 : TI := ⟨.struct [(198, 0), (3, 1)], 2, some (.agg [.slice, .int .i64]), some [.slice none 0 0, .int .i64 0]⟩
def ti_201 : TI := ⟨.tuple [9, 3, 4], 1, none, none⟩
def ti_202 : TI := ⟨.func, 1, some (.one (.func)), some [.nilFunc]⟩
def ti_203 : TI := ⟨.func, 1, some (.one (.func)), some [.nilFunc]⟩
def ti_204 : TI := ⟨.struct [(3, 0), (3, 1)], 2, some (.agg [.int .i64, .int .i64]), some [.int .i64 0, .int .i64 0]⟩
def ti_205 : TI := ⟨.struct [(3, 0), (3, 1)], 2, some (.agg [.int .i64, .int .i64]), some [.int .i64 0, .int .i64 0]⟩
def ti_206 : TI := ⟨.func, 1, some (.one (.func)), some [.nilFunc]⟩
def ti_207 : TI := ⟨.func, 1, some (.one (.func)), some [.nilFunc]⟩
def ti_208 : TI := ⟨.ptr, 1, some (.one (.ptr)), some [.pointer none]⟩
def ti_209 : TI := ⟨.struct [(208, 0), (75, 1)], 2, some (.agg [.ptr, .slice]), some [.pointer none, .slice none 0 0]⟩
def ti_210 : TI := ⟨.struct [(208, 0), (75, 1)], 2, some (.agg [.ptr, .slice]), some [.pointer none, .slice none 0 0]⟩
def ti_211 : TI := ⟨.iface, 1, some (.one (.iface)), some [.nilIface]⟩
def ti_212 : TI := ⟨.iface, 1, some (.one (.iface)), some [.nilIface]⟩
def ti_213 : TI := ⟨.tuple [3, 212], 1, none, none⟩
def ti_214 : TI := ⟨.func, 1, some (.one (.func)), some [.nilFunc]⟩
def ti_215 : TI := ⟨.func, 1, some (.one (.func)), some [.nilFunc]⟩
def ti_216 : TI := ⟨.func, 1, some (.one (.func)), some [.nilFunc]⟩
def ti_217 : TI := ⟨.func, 1, some (.one (.func)), some [.nilFunc]⟩
def ti_218 : TI := ⟨.func, 1, some (.one (.func)), some [.nilFunc]⟩
def ti_219 : TI := ⟨.func, 1, some (.one (.func)), some [.nilFunc]⟩
def ti_220 : TI := ⟨.func, 1, some (.one (.func)), some [.nilFunc]⟩
def ti_221 : TI := ⟨.func, 1, some (.one (.func)), some [.nilFunc]⟩
def ti_222 : TI := ⟨.func, 1, some (.one (.func)), some [.nilFunc]⟩
def ti_223 : TI := ⟨.func, 1, some (.one (.func)), some [.nilFunc]⟩
def ti_224 : TI := ⟨.func, 1, some (.one (.func)), some [.nilFunc]⟩
def ti_225 : TI := ⟨.func, 1, some (.one (.func)), some [.nilFunc]⟩
def ti_226 : TI := ⟨.tuple [143, 4], 1, none, none⟩
def ti_227 : TI := ⟨.func, 1, some (.one (.func)), some [.nilFunc]⟩
def ti_228 : TI := ⟨.func, 1, some (.one (.func)), some [.nilFunc]⟩
def ti_229 : TI := ⟨.func, 1, some (.one (.func)), some [.nilFunc]⟩
def ti_230 : TI := ⟨.func, 1, some (.one (.func)), some [.nilFunc]⟩
def ti_231 : TI := ⟨.func, 1, some (.one (.func)), some [.nilFunc]⟩
def ti_232 : TI := ⟨.tuple [9, 27], 1, none, none⟩
def ti_233 : TI := ⟨.func, 1, some (.one (.func)), some [.nilFunc]⟩
def ti_234 : TI := ⟨.ptr, 1, some (.one (.ptr)), some [.pointer none]⟩
def ti_235 : TI := ⟨.struct [(9, 0), (234, 1)], 2, some (.agg [.str, .ptr]), some [.string s_, .pointer none]⟩
def ti_236 : TI := ⟨.struct [(9, 0), (234, 1)], 2, some (.agg [.str, .ptr]), some [.string s_, .pointer none]⟩
def ti_237 : TI := ⟨.tuple [236, 4], 1, none, none⟩
def ti_238 : TI := ⟨.func, 1, some (.one (.func)), some [.nilFunc]⟩
def ti_239 : TI := ⟨.func, 1, some (.one (.func)), some [.nilFunc]⟩
def ti_240 : TI := ⟨.tuple [3, 4], 1, none, none⟩
def ti_241 : TI := ⟨.func, 1, some (.one (.func)), some [.nilFunc]⟩
def ti_242 : TI := ⟨.func, 1, some (.one (.func)), some [.nilFunc]⟩
def ti_243 : TI := ⟨.func, 1, some (.one (.func)), some [.nilFunc]⟩
def ti_244 : TI := ⟨.struct [(9, 0), (3, 1)], 2, some (.agg [.str, .int .i64]), some [.string s_, .int .i64 0]⟩
def ti_245 : TI := ⟨.struct [(9, 0), (3, 1)], 2, some (.agg [.str, .int .i64]), some [.string s_, .int .i64 0]⟩
def ti_246 : TI := ⟨.func, 1, some (.one (.func)), some [.nilFunc]⟩
def ti_247 : TI := ⟨.func, 1, some (.one (.func)), some [.nilFunc]⟩
def ti_248 : TI := ⟨.func, 1, some (.one (.func)), some [.nilFunc]⟩
def ti_249 : TI := ⟨.func, 1, some (.one (.func)), some [.nilFunc]⟩
def ti_250 : TI := ⟨.arr 60 3, 60, some (.agg [.int .i64, .int .i64, .int .i64, .int .i64, .int .i64, .int .i64, .int .i64, .int .i64, .int .i64, .int .i64, .int .i64, .int .i64, .int .i64, .int .i64, .int .i64, .int .i64, .int .i64, .int .i64, .int .i64, .int .i64, .int .i64, .int .i64, .int .i64, .int .i64, .int .i64, .int .i64, .int .i64, .int .i64, .int .i64, .int .i64, .int .i64, .int .i64, .int .i64, .int .i64, .int .i64, .int .i64, .int .i64, .int .i64, .int .i64, .int .i64, .int .i64, .int .i64, .int .i64, .int .i64, .int .i64, .int .i64, .int .i64, .int .i64, .int .i64, .int .i64, .int .i64, .int .i64, .int .i64, .int .i64, .int .i64, .int .i64, .int .i64, .int .i64, .int .i64, .int .i64]), some [.int .i64 0, .int .i64 0, .int .i64 0, .int .i64 0, .int .i64 0, .int .i64 0, .int .i64 0, .int .i64 0, .int .i64 0, .int .i64 0, .int .i64 0, .int .i64 0, .int .i64 0, .int .i64 0, .int .i64 0, .int .i64 0, .int .i64 0, .int .i64 0, .int .i64 0, .int .i64 0, .int .i64 0, .int .i64 0, .int .i64 0, .int .i64 0, .int .i64 0, .int .i64 0, .int .i64 0, .int .i64 0, .int .i64 0, .int .i64 0, .int .i64 0, .int .i64 0, .int .i64 0, .int .i64 0, .int .i64 0, .int .i64 0, .int .i64 0, .int .i64 0, .int .i64 0, .int .i64 0, .int .i64 0, .int .i64 0, .int .i64 0, .int .i64 0, .int .i64 0, .int .i64 0, .int .i64 0, .int .i64 0, .int .i64 0, .int .i64 0, .int .i64 0, .int .i64 0, .int .i64 0, .int .i64 0, .int .i64 0, .int .i64 0, .int .i64 0, .int .i64 0, .int .i64 0, .int .i64 0]⟩
def ti_251 : TI := ⟨.struct [(250, 0), (3, 60)], 61, some (.agg [.int .i64, .int .i64, .int .i64, .int .i64, .int .i64, .int .i64, .int .i64, .int .i64, .int .i64, .int .i64, .int .i64, .int .i64, .int .i64, .int .i64, .int .i64, .int .i64, .int .i64, .int .i64, .int .i64, .int .i64, .int .i64, .int .i64, .int .i64, .int .i64, .int .i64, .int .i64, .int .i64, .int .i64, .int .i64, .int .i64, .int .i64, .int .i64, .int .i64, .int .i64, .int .i64, .int .i64, .int .i64, .int .i64, .int .i64, .int .i64, .int .i64, .int .i64, .int .i64, .int .i64, .int .i64, .int .i64, .int .i64, .int .i64, .int .i64, .int .i64, .int .i64, .int .i64, .int .i64, .int .i64, .int .i64, .int .i64, .int .i64, .int .i64, .int .i64, .int .i64, .int .i64]), some [.int .i64 0, .int .i64 0, .int .i64 0, .int .i64 0, .int .i64 0, .int .i64 0, .int .i64 0, .int .i64 0, .int .i64 0, .int .i64 0, .int .i64 0, .int .i64 0, .int .i64 0, .int .i64 0, .int .i64 0, .int .i64 0, .int .i64 0, .int .i64 0, .int .i64 0, .int .i64 0, .int .i64 0, .int .i64 0, .int .i64 0, .int .i64 0, .int .i64 0, .int .i64 0, .int .i64 0, .int .i64 0, .int .i64 0, .int .i64 0, .int .i64 0, .int .i64 0, .int .i64 0, .int .i64 0, .int .i64 0, .int .i64 0, .int .i64 0, .int .i64 0, .int .i64 0, .int .i64 0, .int .i64 0, .int .i64 0, .int .i64 0, .int .i64 0, .int .i64 0, .int .i64 0, .int .i64 0, .int .i64 0, .int .i64 0, .int .i64 0, .int .i64 0, .int .i64 0, .int .i64 0, .int .i64 0, .int .i64 0, .int .i64 0, .int .i64 0, .int .i64 0, .int .i64 0, .int .i64 0, .int .i64 0]⟩
def ti_252 : TI := ⟨.struct [(250, 0), (3, 60)], 61, some (.agg [.int .i64, .int .i64, .int .i64, .int .i64, .int .i64, .int .i64, .int .i64, .int .i64, .int .i64, .int .i64, .int .i64, .int .i64, .int .i64, .int .i64, .int .i64, .int .i64, .int .i64, .int .i64, .int .i64, .int .i64, .int .i64, .int .i64, .int .i64, .int .i64, .int .i64, .int .i64, .int .i64, .int .i64, .int .i64, .int .i64, .int .i64, .int .i64, .int .i64, .int .i64, .int .i64, .int .i64, .int .i64, .int .i64, .int .i64, .int .i64, .int .i64, .int .i64, .int .i64, .int .i64, .int .i64, .int .i64, .int .i64, .int .i64, .int .i64, .int .i64, .int .i64, .int .i64, .int .i64, .int .i64, .int .i64, .int .i64, .int .i64, .int .i64, .int .i64, .int .i64, .int .i64]), some [.int .i64 0, .int .i64 0, .int .i64 0, .int .i64 0, .int .i64 0, .int .i64 0, .int .i64 0, .int .i64 0, .int .i64 0, .int .i64 0, .int .i64 0, .int .i64 0, .int .i64 0, .int .i64 0, .int .i64 0, .int .i64 0, .int .i64 0, .int .i64 0, .int .i64 0, .int .i64 0, .int .i64 0, .int .i64 0, .int .i64 0, .int .i64 0, .int .i64 0, .int .i64 0, .int .i64 0, .int .i64 0, .int .i64 0, .int .i64 0, .int .i64 0, .int .i64 0, .int .i64 0, .int .i64 0, .int .i64 0, .int .i64 0, .int .i64 0, .int .i64 0, .int .i64 0, .int .i64 0, .int .i64 0, .int .i64 0, .int .i64 0, .int .i64 0, .int .i64 0, .int .i64 0, .int .i64 0, .int .i64 0, .int .i64 0, .int .i64 0, .int .i64 0, .int .i64 0, .int .i64 0, .int .i64 0, .int .i64 0, .int .i64 0, .int .i64 0, .int .i64 0, .int .i64 0, .int .i64 0, .int .i64 0]⟩
def ti_253 : TI := ⟨.struct [(252, 0), (3, 61)], 62, some (.agg [.int .i64, .int .i64, .int .i64, .int .i64, .int .i64, .int .i64, .int .i64, .int .i64, .int .i64, .int .i64, .int .i64, .int .i64, .int .i64, .int .i64, .int .i64, .int .i64, .int .i64, .int .i64, .int .i64, .int .i64, .int .i64, .int .i64, .int .i64, .int .i64, .int .i64, .int .i64, .int .i64, .int .i64, .int .i64, .int .i64, .int .i64, .int .i64, .int .i64, .int .i64, .int .i64, .int .i64, .int .i64, .int .i64, .int .i64, .int .i64, .int .i64, .int .i64, .int .i64, .int .i64, .int .i64, .int .i64, .int .i64, .int .i64, .int .i64, .int .i64, .int .i64, .int .i64, .int .i64, .int .i64, .int .i64, .int .i64, .int .i64, .int .i64, .int .i64, .int .i64, .int .i64, .int .i64]), some [.int .i64 0, .int .i64 0, .int .i64 0, .int .i64 0, .int .i64 0, .int .i64 0, .int .i64 0, .int .i64 0, .int .i64 0, .int .i64 0, .int .i64 0, .int .i64 0, .int .i64 0, .int .i64 0, .int .i64 0, .int .i64 0, .int .i64 0, .int .i64 0, .int .i64 0, .int .i64 0, .int .i64 0, .int .i64 0, .int .i64 0, .int .i64 0, .int .i64 0, .int .i64 0, .int .i64 0, .int .i64 0, .int .i64 0, .int .i64 0, .int .i64 0, .int .i64 0, .int .i64 0, .int .i64 0, .int .i64 0, .int .i64 0, .int .i64 0, .int .i64 0, .int .i64 0, .int .i64 0, .int .i64 0, .int .i64 0, .int .i64 0, .int .i64 0, .int .i64 0, .int .i64 0, .int .i64 0, .int .i64 0, .int .i64 0, .int .i64 0, .int .i64 0, .int .i64 0, .int .i64 0, .int .i64 0, .int .i64 0, .int .i64 0, .int .i64 0, .int .i64 0, .int .i64 0, .int .i64 0, .int .i64 0, .int .i64 0]⟩
def ti_254 : TI := ⟨.struct [(252, 0), (3, 61)], 62, some (.agg [.int .i64, .int .i64, .int .i64, .int .i64, .int .i64, .int .i64, .int .i64, .int .i64, .int .i64, .int .i64, .int .i64, .int .i64, .int .i64, .int .i64, .int .i64, .int .i64, .int .i64, .int .i64, .int .i64, .int .i64, .int .i64, .int .i64, .int .i64, .int .i64, .int .i64, .int .i64, .int .i64, .int .i64, .int .i64, .int .i64, .int .i64, .int .i64, .int .i64, .int .i64, .int .i64, .int .i64, .int .i64, .int .i64, .int .i64, .int .i64, .int .i64, .int .i64, .int .i64, .int .i64, .int .i64, .int .i64, .int .i64, .int .i64, .int .i64, .int .i64, .int .i64, .int .i64, .int .i64, .int .i64, .int .i64, .int .i64, .int .i64, .int .i64, .int .i64, .int .i64, .int .i64, .int .i64]), some [.int .i64 0, .int .i64 0, .int .i64 0, .int .i64 0, .int .i64 0, .int .i64 0, .int .i64 0, .int .i64 0, .int .i64 0, .int .i64 0, .int .i64 0, .int .i64 0, .int .i64 0, .int .i64 0, .int .i64 0, .int .i64 0, .int .i64 0, .int .i64 0, .int .i64 0, .int .i64 0, .int .i64 0, .int .i64 0, .int .i64 0, .int .i64 0, .int .i64 0, .int .i64 0, .int .i64 0, .int .i64 0, .int .i64 0, .int .i64 0, .int .i64 0, .int .i64 0, .int .i64 0, .int .i64 0, .int .i64 0, .int .i64 0, .int .i64 0, .int .i64 0, .int .i64 0, .int .i64 0, .int .i64 0, .int .i64 0, .int .i64 0, .int .i64 0, .int .i64 0, .int .i64 0, .int .i64 0, .int .i64 0, .int .i64 0, .int .i64 0, .int .i64 0, .int .i64 0, .int .i64 0, .int .i64 0, .int .i64 0, .int .i64 0, .int .i64 0, .int .i64 0, .int .i64 0, .int .i64 0, .int .i64 0, .int .i64 0]⟩
def ti_255 : TI := ⟨.func, 1, some (.one (.func)), some [.nilFunc]⟩
def ti_256 : TI := ⟨.struct [(23, 0), (3, 6), (3, 7), (4, 8)], 9, some (.agg [.str, .int .i64, .int .i64, .int .i64, .int .i64, .int .i64, .int .i64, .int .i64, .bool]), some [.string s_, .int .i64 0, .int .i64 0, .int .i64 0, .int .i64 0, .int .i64 0, .int .i64 0, .int .i64 0, .bool false]⟩
def ti_257 : TI := ⟨.struct [(23, 0), (3, 6), (3, 7), (4, 8)], 9, some (.agg [.str, .int .i64, .int .i64, .int .i64, .int .i64, .int .i64, .int .i64, .int .i64, .bool]), some [.string s_, .int .i64 0, .int .i64 0, .int .i64 0, .int .i64 0, .int .i64 0, .int .i64 0, .int .i64 0, .bool false]⟩
def ti_258 : TI := ⟨.tuple [257, 4], 1, none, none⟩
def ti_259 : TI := ⟨.func, 1, some (.one (.func)), some [.nilFunc]⟩
def ti_260 : TI := ⟨.struct [(34, 0), (3, 4), (3, 5), (4, 6)], 7, some (.agg [.str, .str, .slice, .int .i64, .int .i64, .int .i64, .bool]), some [.string s_, .string s_, .slice none 0 0, .int .i64 0, .int .i64 0, .int .i64 0, .bool false]⟩
def ti_261 : TI := ⟨.struct [(34, 0), (3, 4), (3, 5), (4, 6)], 7, some (.agg [.str, .str, .slice, .int .i64, .int .i64, .int .i64, .bool]), some [.string s_, .string s_, .slice none 0 0, .int .i64 0, .int .i64 0, .int .i64 0, .bool false]⟩
def ti_262 : TI := ⟨.tuple [261, 4], 1, none, none⟩
def ti_263 : TI := ⟨.func, 1, some (.one (.func)), some [.nilFunc]⟩
def ti_264 : TI := ⟨.map 9 3, 1, some (.one (.map)), some [.map none]⟩
def ti_265 : TI := ⟨.map 9 9, 1, some (.one (.map)), some [.map none]⟩
def ti_266 : TI := ⟨.func, 1, some (.one (.func)), some [.nilFunc]⟩
def ti_267 : TI := ⟨.func, 1, some (.one (.func)), some [.nilFunc]⟩
def ti_268 : TI := ⟨.func, 1, some (.one (.func)), some [.nilFunc]⟩
def ti_269 : TI := ⟨.func, 1, some (.one (.func)), some [.nilFunc]⟩
def ti_270 : TI := ⟨.func, 1, some (.one (.func)), some [.nilFunc]⟩
def ti_271 : TI := ⟨.func, 1, some (.one (.func)), some [.nilFunc]⟩
def ti_272 : TI := ⟨.func, 1, some (.one (.func)), some [.nilFunc]⟩
def ti_273 : TI := ⟨.slice 277, 1, some (.one (.slice)), some [.slice none 0 0]⟩
def ti_274 : TI := ⟨.tuple [273, 273], 1, none, none⟩
def ti_275 : TI := ⟨.func, 1, some (.one (.func)), some [.nilFunc]⟩
def ti_276 : TI := ⟨.arr 2 9, 2, some (.agg [.str, .str]), some [.string s_, .string s_]⟩
def ti_277 : TI := ⟨.arr 2 9, 2, some (.agg [.str, .str]), some [.string s_, .string s_]⟩
def ti_278 : TI := ⟨.func, 1, some (.one (.func)), some [.nilFunc]⟩
def ti_279 : TI := ⟨.func, 1, some (.one (.func)), some [.nilFunc]⟩
def ti_280 : TI := ⟨.slice 283, 1, some (.one (.slice)), some [.slice none 0 0]⟩
def ti_281 : TI := ⟨.func, 1, some (.one (.func)), some [.nilFunc]⟩
def ti_282 : TI := ⟨.struct [(3, 0), (3, 1), (3, 2)], 3, some (.agg [.int .i64, .int .i64, .int .i64]), some [.int .i64 0, .int .i64 0, .int .i64 0]⟩
def ti_283 : TI := ⟨.struct [(3, 0), (3, 1), (3, 2)], 3, some (.agg [.int .i64, .int .i64, .int .i64]), some [.int .i64 0, .int .i64 0, .int .i64 0]⟩
def ti_284 : TI := ⟨.func, 1, some (.one (.func)), some [.nilFunc]⟩
def ti_285 : TI := ⟨.func, 1, some (.one (.func)), some [.nilFunc]⟩
def ti_286 : TI := ⟨.func, 1, some (.one (.func)), some [.nilFunc]⟩
def ti_287 : TI := ⟨.func, 1, some (.one (.func)), some [.nilFunc]⟩
def ti_288 : TI := ⟨.arr 2 3, 2, some (.agg [.int .i64, .int .i64]), some [.int .i64 0, .int .i64 0]⟩
def ti_289 : TI := ⟨.func, 1, some (.one (.func)), some [.nilFunc]⟩
def ti_290 : TI := ⟨.func, 1, some (.one (.func)), some [.nilFunc]⟩
def ti_291 : TI := ⟨.func, 1, some (.one (.func)), some [.nilFunc]⟩
def ti_292 : TI := ⟨.arr 4 3, 4, some (.agg [.int .i64, .int .i64, .int .i64, .int .i64]), some [.int .i64 0, .int .i64 0, .int .i64 0, .int .i64 0]⟩
def ti_293 : TI := ⟨.func, 1, some (.one (.func)), some [.nilFunc]⟩
def ti_294 : TI := ⟨.func, 1, some (.one (.func)), some [.nilFunc]⟩
def ti_295 : TI := ⟨.func, 1, some (.one (.func)), some [.nilFunc]⟩
def ti_296 : TI := ⟨.func, 1, some (.one (.func)), some [.nilFunc]⟩
def ti_297 : TI := ⟨.func, 1, some (.one (.func)), some [.nilFunc]⟩
def ti_298 : TI := ⟨.func, 1, some (.one (.func)), some [.nilFunc]⟩
def ti_299 : TI := ⟨.func, 1, some (.one (.func)), some [.nilFunc]⟩
def ti_300 : TI := ⟨.func, 1, some (.one (.func)), some [.nilFunc]⟩
def ti_301 : TI := ⟨.func, 1, some (.one (.func)), some [.nilFunc]⟩
def ti_302 : TI := ⟨.func, 1, some (.one (.func)), some [.nilFunc]⟩
def ti_303 : TI := ⟨.func, 1, some (.one (.func)), some [.nilFunc]⟩
def ti_304 : TI := ⟨.func, 1, some (.one (.func)), some [.nilFunc]⟩
def ti_305 : TI := ⟨.ptr, 1, some (.one (.ptr)), some [.pointer none]⟩
def ti_306 : TI := ⟨.func, 1, some (.one (.func)), some [.nilFunc]⟩
def ti_307 : TI := ⟨.tuple [245, 4], 1, none, none⟩
def ti_308 : TI := ⟨.ptr, 1, some (.one (.ptr)), some [.pointer none]⟩
def ti_309 : TI := ⟨.tuple [108, 4], 1, none, none⟩
def ti_310 : TI := ⟨.func, 1, some (.one (.func)), some [.nilFunc]⟩
def ti_311 : TI := ⟨.struct [(3, 0), (3, 1)], 2, some (.agg [.int .i64, .int .i64]), some [.int .i64 0, .int .i64 0]⟩
def ti_312 : TI := ⟨.struct [(3, 0), (3, 1)], 2, some (.agg [.int .i64, .int .i64]), some [.int .i64 0, .int .i64 0]⟩
def ti_313 : TI := ⟨.func, 1, some (.one (.func)), some [.nilFunc]⟩
def ti_314 : TI := ⟨.map 3 4, 1, some (.one (.map)), some [.map none]⟩
def ti_315 : TI := ⟨.struct [(314, 0), (3, 1)], 2, some (.agg [.map, .int .i64]), some [.map none, .int .i64 0]⟩
def ti_316 : TI := ⟨.struct [(314, 0), (3, 1)], 2, some (.agg [.map, .int .i64]), some [.map none, .int .i64 0]⟩
def ti_317 : TI := ⟨.struct [(3, 0), (316, 1)], 3, some (.agg [.int .i64, .map, .int .i64]), some [.int .i64 0, .map none, .int .i64 0]⟩
def ti_318 : TI := ⟨.struct [(3, 0), (316, 1)], 3, some (.agg [.int .i64, .map, .int .i64]), some [.int .i64 0, .map none, .int .i64 0]⟩
def ti_319 : TI := ⟨.func, 1, some (.one (.func)), some [.nilFunc]⟩
def ti_320 : TI := ⟨.func, 1, some (.one (.func)), some [.nilFunc]⟩
def ti_321 : TI := ⟨.func, 1, some (.one (.func)), some [.nilFunc]⟩
def ti_322 : TI := ⟨.func, 1, some (.one (.func)), some [.nilFunc]⟩
def ti_323 : TI := ⟨.func, 1, some (.one (.func)), some [.nilFunc]⟩
def ti_324 : TI := ⟨.func, 1, some (.one (.func)), some [.nilFunc]⟩
def ti_325 : TI := ⟨.func, 1, some (.one (.func)), some [.nilFunc]⟩
def ti_326 : TI := ⟨.ptr, 1, some (.one (.ptr)), some [.pointer none]⟩
def ti_327 : TI := ⟨.func, 1, some (.one (.func)), some [.nilFunc]⟩
def ti_328 : TI := ⟨.tuple [9, 9], 1, none, none⟩
def ti_329 : TI := ⟨.func, 1, some (.one (.func)), some [.nilFunc]⟩
def ti_330 : TI := ⟨.func, 1, some (.one (.func)), some [.nilFunc]⟩
def ti_331 : TI := ⟨.func, 1, some (.one (.func)), some [.nilFunc]⟩
def ti_332 : TI := ⟨.func, 1, some (.one (.func)), some [.nilFunc]⟩
def ti_333 : TI := ⟨.func, 1, some (.one (.func)), some [.nilFunc]⟩
def ti_334 : TI := ⟨.func, 1, some (.one (.func)), some [.nilFunc]⟩
def ti_335 : TI := ⟨.func, 1, some (.one (.func)), some [.nilFunc]⟩
def ti_336 : TI := ⟨.func, 1, some (.one (.func)), some [.nilFunc]⟩
def ti_337 : TI := ⟨.func, 1, some (.one (.func)), some [.nilFunc]⟩
def ti_338 : TI := ⟨.func, 1, some (.one (.func)), some [.nilFunc]⟩
def ti_339 : TI := ⟨.func, 1, some (.one (.func)), some [.nilFunc]⟩
def ti_340 : TI := ⟨.func, 1, some (.one (.func)), some [.nilFunc]⟩
def ti_341 : TI := ⟨.func, 1, some (.one (.func)), some [.nilFunc]⟩
def ti_342 : TI := ⟨.func, 1, some (.one (.func)), some [.nilFunc]⟩
def ti_343 : TI := ⟨.arr 24 5, 24, some (.agg [.int .u8, .int .u8, .int .u8, .int .u8, .int .u8, .int .u8, .int .u8, .int .u8, .int .u8, .int .u8, .int .u8, .int .u8, .int .u8, .int .u8, .int .u8, .int .u8, .int .u8, .int .u8, .int .u8, .int .u8, .int .u8, .int .u8, .int .u8, .int .u8]), some [.int .u8 0, .int .u8 0, .int .u8 0, .int .u8 0, .int .u8 0, .int .u8 0, .int .u8 0, .int .u8 0, .int .u8 0, .int .u8 0, .int .u8 0, .int .u8 0, .int .u8 0, .int .u8 0, .int .u8 0, .int .u8 0, .int .u8 0, .int .u8 0, .int .u8 0, .int .u8 0, .int .u8 0, .int .u8 0, .int .u8 0, .int .u8 0]⟩
def ti_344 : TI := ⟨.int .u64, 1, some (.one (.int .u64)), some [.int .u64 0]⟩
def ti_345 : TI := ⟨.func, 1, some (.one (.func)), some [.nilFunc]⟩
def ti_346 : TI := ⟨.func, 1, some (.one (.func)), some [.nilFunc]⟩
def ti_347 : TI := ⟨.tuple [75, 9], 1, none, none⟩
def ti_348 : TI := ⟨.func, 1, some (.one (.func)), some [.nilFunc]⟩
def ti_349 : TI := ⟨.other, 1, none, none⟩
def ti_350 : TI := ⟨.func, 1, some (.one (.func)), some [.nilFunc]⟩
def ti_351 : TI := ⟨.func, 1, some (.one (.func)), some [.nilFunc]⟩
def ti_352 : TI := ⟨.slice 354, 1, some (.one (.slice)), some [.slice none 0 0]⟩
def ti_353 : TI := ⟨.struct [(3, 0), (3, 1)], 2, some (.agg [.int .i64, .int .i64]), some [.int .i64 0, .int .i64 0]⟩
def ti_354 : TI := ⟨.struct [(3, 0), (3, 1)], 2, some (.agg [.int .i64, .int .i64]), some [.int .i64 0, .int .i64 0]⟩
def ti_355 : TI := ⟨.func, 1, some (.one (.func)), some [.nilFunc]⟩
def ti_356 : TI := ⟨.func, 1, some (.one (.func)), some [.nilFunc]⟩
def ti_357 : TI := ⟨.ptr, 1, some (.one (.ptr)), some [.pointer none]⟩
def ti_358 : TI := ⟨.func, 1, some (.one (.func)), some [.nilFunc]⟩
def ti_359 : TI := ⟨.ptr, 1, some (.one (.ptr)), some [.pointer none]⟩
def ti_360 : TI := ⟨.func, 1, some (.one (.func)), some [.nilFunc]⟩
def ti_361 : TI := ⟨.func, 1, some (.one (.func)), some [.nilFunc]⟩
def ti_362 : TI := ⟨.int .u64, 1, some (.one (.int .u64)), some [.int .u64 0]⟩
def ti_363 : TI := ⟨.func, 1, some (.one (.func)), some [.nilFunc]⟩
def ti_364 : TI := ⟨.slice 47, 1, some (.one (.slice)), some [.slice none 0 0]⟩
def ti_365 : TI := ⟨.func, 1, some (.one (.func)), some [.nilFunc]⟩
def ti_366 : TI := ⟨.func, 1, some (.one (.func)), some [.nilFunc]⟩
def ti_367 : TI := ⟨.func, 1, some (.one (.func)), some [.nilFunc]⟩
def ti_368 : TI := ⟨.func, 1, some (.one (.func)), some [.nilFunc]⟩
def ti_369 : TI := ⟨.func, 1, some (.one (.func)), some [.nilFunc]⟩
def ti_370 : TI := ⟨.func, 1, some (.one (.func)), some [.nilFunc]⟩
def ti_371 : TI := ⟨.func, 1, some (.one (.func)), some [.nilFunc]⟩
def ti_372 : TI := ⟨.int .u32, 1, some (.one (.int .u32)), some [.int .u32 0]⟩
def ti_373 : TI := ⟨.tuple [372, 372], 1, none, none⟩
def ti_374 : TI := ⟨.func, 1, some (.one (.func)), some [.nilFunc]⟩
def ti_375 : TI := ⟨.int .i64, 1, some (.one (.int .i64)), some [.int .i64 0]⟩
def ti_376 : TI := ⟨.tuple [2, 212], 1, none, none⟩
def ti_377 : TI := ⟨.func, 1, some (.one (.func)), some [.nilFunc]⟩
def ti_378 : TI := ⟨.ptr, 1, some (.one (.ptr)), some [.pointer none]⟩
def ti_379 : TI := ⟨.func, 1, some (.one (.func)), some [.nilFunc]⟩
def ti_380 : TI := ⟨.func, 1, some (.one (.func)), some [.nilFunc]⟩
def ti_381 : TI := ⟨.func, 1, some (.one (.func)), some [.nilFunc]⟩
def ti_382 : TI := ⟨.func, 1, some (.one (.func)), some [.nilFunc]⟩
def ti_383 : TI := ⟨.arr 20 344, 20, some (.agg [.int .u64, .int .u64, .int .u64, .int .u64, .int .u64, .int .u64, .int .u64, .int .u64, .int .u64, .int .u64, .int .u64, .int .u64, .int .u64, .int .u64, .int .u64, .int .u64, .int .u64, .int .u64, .int .u64, .int .u64]), some [.int .u64 0, .int .u64 0, .int .u64 0, .int .u64 0, .int .u64 0, .int .u64 0, .int .u64 0, .int .u64 0, .int .u64 0, .int .u64 0, .int .u64 0, .int .u64 0, .int .u64 0, .int .u64 0, .int .u64 0, .int .u64 0, .int .u64 0, .int .u64 0, .int .u64 0, .int .u64 0]⟩
def ti_384 : TI := ⟨.arr 65 5, 65, some (.agg [.int .u8, .int .u8, .int .u8, .int .u8, .int .u8, .int .u8, .int .u8, .int .u8, .int .u8, .int .u8, .int .u8, .int .u8, .int .u8, .int .u8, .int .u8, .int .u8, .int .u8, .int .u8, .int .u8, .int .u8, .int .u8, .int .u8, .int .u8, .int .u8, .int .u8, .int .u8, .int .u8, .int .u8, .int .u8, .int .u8, .int .u8, .int .u8, .int .u8, .int .u8, .int .u8, .int .u8, .int .u8, .int .u8, .int .u8, .int .u8, .int .u8, .int .u8, .int .u8, .int .u8, .int .u8, .int .u8, .int .u8, .int .u8, .int .u8, .int .u8, .int .u8, .int .u8, .int .u8, .int .u8, .int .u8, .int .u8, .int .u8, .int .u8, .int .u8, .int .u8, .int .u8, .int .u8, .int .u8, .int .u8, .int .u8]), some [.int .u8 0, .int .u8 0, .int .u8 0, .int .u8 0, .int .u8 0, .int .u8 0, .int .u8 0, .int .u8 0, .int .u8 0, .int .u8 0, .int .u8 0, .int .u8 0, .int .u8 0, .int .u8 0, .int .u8 0, .int .u8 0, .int .u8 0, .int .u8 0, .int .u8 0, .int .u8 0, .int .u8 0, .int .u8 0, .int .u8 0, .int .u8 0, .int .u8 0, .int .u8 0, .int .u8 0, .int .u8 0, .int .u8 0, .int .u8 0, .int .u8 0, .int .u8 0, .int .u8 0, .int .u8 0, .int .u8 0, .int .u8 0, .int .u8 0, .int .u8 0, .int .u8 0, .int .u8 0, .int .u8 0, .int .u8 0, .int .u8 0, .int .u8 0, .int .u8 0, .int .u8 0, .int .u8 0, .int .u8 0, .int .u8 0, .int .u8 0, .int .u8 0, .int .u8 0, .int .u8 0, .int .u8 0, .int .u8 0, .int .u8 0, .int .u8 0, .int .u8 0, .int .u8 0, .int .u8 0, .int .u8 0, .int .u8 0, .int .u8 0, .int .u8 0, .int .u8 0]⟩
def ti_385 : TI := ⟨.func, 1, some (.one (.func)), some [.nilFunc]⟩
def ti_386 : TI := ⟨.func, 1, some (.one (.func)), some [.nilFunc]⟩
def ti_387 : TI := ⟨.func, 1, some (.one (.func)), some [.nilFunc]⟩
def ti_388 : TI := ⟨.int .i64, 1, some (.one (.int .i64)), some [.int .i64 0]⟩
def ti_389 : TI := ⟨.tuple [3, 388], 1, none, none⟩
def ti_390 : TI := ⟨.func, 1, some (.one (.func)), some [.nilFunc]⟩
def ti_391 : TI := ⟨.func, 1, some (.one (.func)), some [.nilFunc]⟩
def ti_392 : TI := ⟨.func, 1, some (.one (.func)), some [.nilFunc]⟩
def ti_393 : TI := ⟨.func, 1, some (.one (.func)), some [.nilFunc]⟩
def ti_394 : TI := ⟨.func, 1, some (.one (.func)), some [.nilFunc]⟩
def ti_395 : TI := ⟨.func, 1, some (.one (.func)), some [.nilFunc]⟩
def ti_396 : TI := ⟨.func, 1, some (.one (.func)), some [.nilFunc]⟩
def ti_397 : TI := ⟨.func, 1, some (.one (.func)), some [.nilFunc]⟩
def ti_398 : TI := ⟨.func, 1, some (.one (.func)), some [.nilFunc]⟩
def ti_399 : TI := ⟨.func, 1, some (.one (.func)), some [.nilFunc]⟩
def ti_400 : TI := ⟨.tuple [344, 212], 1, none, none⟩
def ti_401 : TI := ⟨.func, 1, some (.one (.func)), some [.nilFunc]⟩
def ti_402 : TI := ⟨.func, 1, some (.one (.func)), some [.nilFunc]⟩
def ti_403 : TI := ⟨.struct [(9, 0), (9, 1), (212, 2)], 3, some (.agg [.str, .str, .iface]), some [.string s_, .string s_, .nilIface]⟩
def ti_404 : TI := ⟨.struct [(9, 0), (9, 1), (212, 2)], 3, some (.agg [.str, .str, .iface]), some [.string s_, .string s_, .nilIface]⟩
def ti_405 : TI := ⟨.func, 1, some (.one (.func)), some [.nilFunc]⟩
def ti_406 : TI := ⟨.func, 1, some (.one (.func)), some [.nilFunc]⟩
def ti_407 : TI := ⟨.func, 1, some (.one (.func)), some [.nilFunc]⟩
def ti_408 : TI := ⟨.int .u64, 1, some (.one (.int .u64)), some [.int .u64 0]⟩
def ti_409 : TI := ⟨.func, 1, some (.one (.func)), some [.nilFunc]⟩
def ti_410 : TI := ⟨.func, 1, some (.one (.func)), some [.nilFunc]⟩
def ti_411 : TI := ⟨.func, 1, some (.one (.func)), some [.nilFunc]⟩
def ti_412 : TI := ⟨.ptr, 1, some (.one (.ptr)), some [.pointer none]⟩
def ti_413 : TI := ⟨.func, 1, some (.one (.func)), some [.nilFunc]⟩
def ti_414 : TI := ⟨.func, 1, some (.one (.func)), some [.nilFunc]⟩
def ti_415 : TI := ⟨.func, 1, some (.one (.func)), some [.nilFunc]⟩
def ti_416 : TI := ⟨.func, 1, some (.one (.func)), some [.nilFunc]⟩
def ti_417 : TI := ⟨.ptr, 1, some (.one (.ptr)), some [.pointer none]⟩
def ti_418 : TI := ⟨.struct [(9, 0)], 1, some (.agg [.str]), some [.string s_]⟩
def ti_419 : TI := ⟨.struct [(9, 0)], 1, some (.agg [.str]), some [.string s_]⟩
def ti_420 : TI := ⟨.arr 32 5, 32, some (.agg [.int .u8, .int .u8, .int .u8, .int .u8, .int .u8, .int .u8, .int .u8, .int .u8, .int .u8, .int .u8, .int .u8, .int .u8, .int .u8, .int .u8, .int .u8, .int .u8, .int .u8, .int .u8, .int .u8, .int .u8, .int .u8, .int .u8, .int .u8, .int .u8, .int .u8, .int .u8, .int .u8, .int .u8, .int .u8, .int .u8, .int .u8, .int .u8]), some [.int .u8 0, .int .u8 0, .int .u8 0, .int .u8 0, .int .u8 0, .int .u8 0, .int .u8 0, .int .u8 0, .int .u8 0, .int .u8 0, .int .u8 0, .int .u8 0, .int .u8 0, .int .u8 0, .int .u8 0, .int .u8 0, .int .u8 0, .int .u8 0, .int .u8 0, .int .u8 0, .int .u8 0, .int .u8 0, .int .u8 0, .int .u8 0, .int .u8 0, .int .u8 0, .int .u8 0, .int .u8 0, .int .u8 0, .int .u8 0, .int .u8 0, .int .u8 0]⟩
def ti_421 : TI := ⟨.arr 64 5, 64, some (.agg [.int .u8, .int .u8, .int .u8, .int .u8, .int .u8, .int .u8, .int .u8, .int .u8, .int .u8, .int .u8, .int .u8, .int .u8, .int .u8, .int .u8, .int .u8, .int .u8, .int .u8, .int .u8, .int .u8, .int .u8, .int .u8, .int .u8, .int .u8, .int .u8, .int .u8, .int .u8, .int .u8, .int .u8, .int .u8, .int .u8, .int .u8, .int .u8, .int .u8, .int .u8, .int .u8, .int .u8, .int .u8, .int .u8, .int .u8, .int .u8, .int .u8, .int .u8, .int .u8, .int .u8, .int .u8, .int .u8, .int .u8, .int .u8, .int .u8, .int .u8, .int .u8, .int .u8, .int .u8, .int .u8, .int .u8, .int .u8, .int .u8, .int .u8, .int .u8, .int .u8, .int .u8, .int .u8, .int .u8, .int .u8]), some [.int .u8 0, .int .u8 0, .int .u8 0, .int .u8 0, .int .u8 0, .int .u8 0, .int .u8 0, .int .u8 0, .int .u8 0, .int .u8 0, .int .u8 0, .int .u8 0, .int .u8 0, .int .u8 0, .int .u8 0, .int .u8 0, .int .u8 0, .int .u8 0, .int .u8 0, .int .u8 0, .int .u8 0, .int .u8 0, .int .u8 0, .int .u8 0, .int .u8 0, .int .u8 0, .int .u8 0, .int .u8 0, .int .u8 0, .int .u8 0, .int .u8 0, .int .u8 0, .int .u8 0, .int .u8 0, .int .u8 0, .int .u8 0, .int .u8 0, .int .u8 0, .int .u8 0, .int .u8 0, .int .u8 0, .int .u8 0, .int .u8 0, .int .u8 0, .int .u8 0, .int .u8 0, .int .u8 0, .int .u8 0, .int .u8 0, .int .u8 0, .int .u8 0, .int .u8 0, .int .u8 0, .int .u8 0, .int .u8 0, .int .u8 0, .int .u8 0, .int .u8 0, .int .u8 0, .int .u8 0, .int .u8 0, .int .u8 0, .int .u8 0, .int .u8 0]⟩
def ti_422 : TI := ⟨.ptr, 1, some (.one (.ptr)), some [.pointer none]⟩
def ti_423 : TI := ⟨.func, 1, some (.one (.func)), some [.nilFunc]⟩
def ti_424 : TI := ⟨.func, 1, some (.one (.func)), some [.nilFunc]⟩
def ti_425 : TI := ⟨.struct [(17, 0), (17, 1), (17, 2), (9, 3)], 4, some (.agg [.ptr, .ptr, .ptr, .str]), some [.pointer none, .pointer none, .pointer none, .string s_]⟩
def ti_426 : TI := ⟨.struct [(17, 0), (17, 1), (17, 2), (9, 3)], 4, some (.agg [.ptr, .ptr, .ptr, .str]), some [.pointer none, .pointer none, .pointer none, .string s_]⟩
def ti_427 : TI := ⟨.arr 0 16, 0, some (.agg []), some []⟩
def ti_428 : TI := ⟨.struct [(427, 0)], 0, some (.agg []), some []⟩
def ti_429 : TI := ⟨.struct [(427, 0)], 0, some (.agg []), some []⟩
def ti_430 : TI := ⟨.int .u8, 1, some (.one (.int .u8)), some [.int .u8 0]⟩
def ti_431 : TI := ⟨.int .u8, 1, some (.one (.int .u8)), some [.int .u8 0]⟩
def ti_432 : TI := ⟨.func, 1, some (.one (.func)), some [.nilFunc]⟩
def ti_433 : TI := ⟨.int .i32, 1, some (.one (.int .i32)), some [.int .i32 0]⟩
def ti_434 : TI := ⟨.int .i32, 1, some (.one (.int .i32)), some [.int .i32 0]⟩
def ti_435 : TI := ⟨.struct [(12, 0), (12, 1), (372, 2), (430, 3), (5, 4), (5, 5), (431, 6), (432, 7), (305, 8), (433, 9), (434, 10)], 11, some (.agg [.int .u64, .int .u64, .int .u32, .int .u8, .int .u8, .int .u8, .int .u8, .func, .ptr, .int .i32, .int .i32]), some [.int .u64 0, .int .u64 0, .int .u32 0, .int .u8 0, .int .u8 0, .int .u8 0, .int .u8 0, .nilFunc, .pointer none, .int .i32 0, .int .i32 0]⟩
def ti_436 : TI := ⟨.struct [(12, 0), (12, 1), (372, 2), (430, 3), (5, 4), (5, 5), (431, 6), (432, 7), (305, 8), (433, 9), (434, 10)], 11, some (.agg [.int .u64, .int .u64, .int .u32, .int .u8, .int .u8, .int .u8, .int .u8, .func, .ptr, .int .i32, .int .i32]), some [.int .u64 0, .int .u64 0, .int .u32 0, .int .u8 0, .int .u8 0, .int .u8 0, .int .u8 0, .nilFunc, .pointer none, .int .i32 0, .int .i32 0]⟩
def ti_437 : TI := ⟨.func, 1, some (.one (.func)), some [.nilFunc]⟩
def fi_0 : Option RT := none
def fi_1 : Option RT := none
def fi_2 : Option RT := some (.tup [])
def fi_3 : Option RT := some (.one (.one (.bool)))
def fi_4 : Option RT := some (.one (.one (.bool)))
def fi_5 : Option RT := some (.one (.one (.bool)))
def fi_6 : Option RT := some (.one (.one (.bool)))
def fi_7 : Option RT := some (.one (.one (.bool)))
def fi_8 : Option RT := some (.one (.agg [.str, .int .i64, .int .i64, .int .i64, .int .i64, .int .i64]))
def fi_9 : Option RT := some (.tup [(.one (.ptr)), (.one (.int .i64))])
def fi_10 : Option RT := some (.one (.one (.int .i64)))
def fi_11 : Option RT := some (.one (.one (.str)))
def fi_12 : Option RT := some (.one (.one (.slice)))
def fi_13 : Option RT := some (.tup [(.one (.ptr)), (.one (.bool))])
def fi_14 : Option RT := some (.tup [(.agg [.slice, .slice]), (.one (.bool))])
def fi_15 : Option RT := some (.one (.one (.str)))
def fi_16 : Option RT := some (.one (.one (.int .i64)))
def fi_17 : Option RT := some (.one (.one (.str)))
def fi_18 : Option RT := some (.one (.one (.slice)))
def fi_19 : Option RT := some (.one (.one (.int .i64)))
def fi_20 : Option RT := some (.one (.one (.bool)))
def fi_21 : Option RT := some (.one (.one (.ptr)))
def fi_22 : Option RT := some (.one (.one (.ptr)))
def fi_23 : Option RT := some (.one (.one (.ptr)))
def fi_24 : Option RT := some (.one (.one (.ptr)))
def fi_25 : Option RT := some (.one (.one (.ptr)))
def fi_26 : Option RT := some (.one (.one (.int .i64)))
def fi_27 : Option RT := some (.one (.one (.str)))
def fi_28 : Option RT := some (.one (.one (.str)))
def fi_29 : Option RT := some (.one (.one (.slice)))
def fi_30 : Option RT := some (.one (.one (.slice)))
def fi_31 : Option RT := some (.one (.one (.slice)))
def fi_32 : Option RT := some (.one (.one (.slice)))
def fi_33 : Option RT := some (.one (.one (.slice)))
def fi_34 : Option RT := some (.one (.one (.slice)))
def fi_35 : Option RT := some (.one (.one (.slice)))
def fi_36 : Option RT := some (.one (.one (.slice)))
def fi_37 : Option RT := some (.one (.one (.slice)))
def fi_38 : Option RT := some (.one (.one (.slice)))
def fi_39 : Option RT := some (.one (.one (.slice)))
def fi_40 : Option RT := some (.one (.one (.slice)))
def fi_41 : Option RT := some (.tup [(.agg [.slice, .slice]), (.one (.bool))])
def fi_42 : Option RT := some (.one (.one (.bool)))
def fi_43 : Option RT := some (.one (.one (.slice)))
def fi_44 : Option RT := some (.one (.one (.ptr)))
def fi_45 : Option RT := some (.one (.one (.bool)))
def fi_46 : Option RT := some (.one (.one (.ptr)))
def fi_47 : Option RT := some (.one (.one (.bool)))
def fi_48 : Option RT := some (.one (.one (.ptr)))
def fi_49 : Option RT := some (.one (.one (.ptr)))
def fi_50 : Option RT := some (.tup [(.agg [.bool, .bool, .bool, .bool, .bool, .bool]), (.one (.bool))])
def fi_51 : Option RT := some (.one (.one (.bool)))
def fi_52 : Option RT := some (.one (.one (.bool)))
def fi_53 : Option RT := some (.one (.one (.bool)))
def fi_54 : Option RT := some (.one (.one (.bool)))
def fi_55 : Option RT := some (.one (.one (.bool)))
def fi_56 : Option RT := some (.one (.one (.bool)))
def fi_57 : Option RT := some (.one (.one (.bool)))
def fi_58 : Option RT := some (.one (.one (.bool)))
def fi_59 : Option RT := some (.one (.one (.int .i64)))
def fi_60 : Option RT := some (.one (.one (.int .i64)))
def fi_61 : Option RT := some (.one (.one (.str)))
def fi_62 : Option RT := some (.one (.one (.str)))
def fi_63 : Option RT := some (.one (.one (.str)))
def fi_64 : Option RT := some (.one (.one (.str)))
def fi_65 : Option RT := some (.tup [(.one (.int .i64)), (.one (.int .i64))])
def fi_66 : Option RT := some (.one (.one (.slice)))
def fi_67 : Option RT := some (.tup [(.one (.int .i64)), (.one (.int .i64))])
def fi_68 : Option RT := some (.one (.one (.int .i64)))
def fi_69 : Option RT := some (.one (.one (.slice)))
def fi_70 : Option RT := some (.tup [])
def fi_71 : Option RT := some (.one (.one (.str)))
def fi_72 : Option RT := some (.one (.one (.slice)))
def fi_73 : Option RT := some (.one (.one (.slice)))
def fi_74 : Option RT := some (.tup [(.one (.ptr)), (.one (.bool))])
def fi_75 : Option RT := some (.one (.one (.str)))
def fi_76 : Option RT := some (.tup [(.one (.slice)), (.one (.int .i64))])
def fi_77 : Option RT := some (.one (.one (.int .i64)))
def fi_78 : Option RT := some (.one (.one (.str)))
def fi_79 : Option RT := some (.one (.one (.bool)))
def fi_80 : Option RT := some (.one (.one (.int .i64)))
def fi_81 : Option RT := some (.one (.one (.slice)))
def fi_82 : Option RT := some (.tup [(.one (.slice)), (.one (.int .i64))])
def fi_83 : Option RT := some (.one (.one (.slice)))
def fi_84 : Option RT := some (.one (.one (.slice)))
def fi_85 : Option RT := some (.tup [])
def fi_86 : Option RT := some (.one (.one (.int .i64)))
def fi_87 : Option RT := some (.tup [(.agg [.str, .int .i64, .int .i64, .int .i64, .int .i64, .int .i64]), (.one (.int .i64)), (.one (.int .i64)), (.one (.bool))])
def fi_88 : Option RT := some (.tup [(.one (.str)), (.one (.bool))])
def fi_89 : Option RT := some (.one (.one (.ptr)))
def fi_90 : Option RT := some (.tup [(.agg [.str, .str, .slice, .int .i64]), (.one (.int .i64)), (.one (.bool))])
def fi_91 : Option RT := some (.tup [(.agg [.slice, .slice]), (.one (.int .i64))])
def fi_92 : Option RT := some (.one (.one (.str)))
def fi_93 : Option RT := some (.one (.agg [.slice, .slice]))
def fi_94 : Option RT := some (.tup [(.agg [.str, .int .i64, .str, .int .i64, .int .i64, .int .i64, .int .i64, .int .i64]), (.one (.bool))])
def fi_95 : Option RT := some (.one (.one (.int .i64)))
def fi_96 : Option RT := some (.one (.one (.bool)))
def fi_97 : Option RT := some (.tup [(.one (.int .i64)), (.one (.int .i64))])
def fi_98 : Option RT := some (.one (.agg [.int .i64, .int .i64]))
def fi_99 : Option RT := some (.one (.one (.int .i64)))
def fi_100 : Option RT := some (.tup [(.one (.slice)), (.one (.slice))])
def fi_101 : Option RT := some (.one (.one (.int .i64)))
def fi_102 : Option RT := some (.one (.one (.bool)))
def fi_103 : Option RT := some (.one (.agg [.slice, .slice]))
def fi_104 : Option RT := some (.one (.one (.bool)))
def fi_105 : Option RT := some (.one (.one (.slice)))
def fi_106 : Option RT := some (.one (.one (.slice)))
def fi_107 : Option RT := some (.one (.one (.bool)))
def fi_108 : Option RT := some (.one (.one (.bool)))
def fi_109 : Option RT := some (.tup [(.one (.str)), (.one (.int .i64)), (.one (.bool))])
def fi_110 : Option RT := some (.one (.one (.bool)))
def fi_111 : Option RT := some (.one (.one (.bool)))
def fi_112 : Option RT := some (.one (.one (.bool)))
def fi_113 : Option RT := some (.one (.one (.int .i64)))
def fi_114 : Option RT := some (.one (.one (.int .i64)))
def fi_115 : Option RT := some (.one (.one (.str)))
def fi_116 : Option RT := some (.tup [])
def fi_117 : Option RT := some (.tup [(.one (.int .i64)), (.one (.iface))])
def fi_118 : Option RT := some (.one (.one (.str)))
def fi_119 : Option RT := some (.one (.one (.int .i64)))
def fi_120 : Option RT := some (.tup [])
def fi_121 : Option RT := some (.one (.one (.int .i64)))
def fi_122 : Option RT := some (.tup [])
def fi_123 : Option RT := some (.one (.agg [.str, .str, .slice, .int .i64]))
def fi_124 : Option RT := some (.one (.one (.int .i64)))
def fi_125 : Option RT := some (.one (.one (.int .i64)))
def fi_126 : Option RT := some (.one (.one (.str)))
def fi_127 : Option RT := some (.tup [(.one (.str)), (.one (.bool))])
def fi_128 : Option RT := some (.one (.one (.bool)))
def fi_129 : Option RT := some (.one (.agg [.int .i64, .int .i64, .int .i64, .str]))
def fi_130 : Option RT := some (.one (.agg [.int .i64, .int .i64, .int .i64, .str]))
def fi_131 : Option RT := some (.one (.one (.ptr)))
def fi_132 : Option RT := some (.one (.one (.int .i64)))
def fi_133 : Option RT := some (.tup [(.agg [.int .i64, .int .i64, .int .i64, .str]), (.one (.bool))])
def fi_134 : Option RT := some (.one (.one (.int .i64)))
def fi_135 : Option RT := some (.one (.one (.func)))
def fi_136 : Option RT := some (.tup [(.one (.str)), (.one (.int .i64))])
def fi_137 : Option RT := some (.one (.one (.int .i64)))
def fi_138 : Option RT := some (.one (.one (.slice)))
def fi_139 : Option RT := some (.tup [(.one (.int .i64)), (.one (.bool))])
def fi_140 : Option RT := some (.one (.one (.slice)))
def fi_141 : Option RT := some (.tup [(.one (.slice)), (.one (.int .i64))])
def fi_142 : Option RT := some (.tup [])
def fi_143 : Option RT := some (.one (.one (.func)))
def fi_144 : Option RT := some (.one (.one (.slice)))
def fi_145 : Option RT := some (.tup [])
def fi_146 : Option RT := some (.tup [(.one (.slice)), (.one (.slice))])
def fi_147 : Option RT := some (.tup [(.agg [.str, .int .i64, .int .i64, .int .i64, .int .i64, .int .i64, .int .i64, .int .i64, .bool]), (.one (.bool))])
def fi_148 : Option RT := some (.one (.one (.str)))
def fi_149 : Option RT := some (.tup [(.agg [.str, .str, .slice, .int .i64, .int .i64, .int .i64, .bool]), (.one (.bool))])
def fi_150 : Option RT := some (.tup [(.one (.str)), (.one (.int .i64))])
def fi_151 : Option RT := some (.one (.one (.func)))
def fi_152 : Option RT := some (.one (.one (.func)))
def fi_153 : Option RT := some (.tup [(.one (.slice)), (.one (.slice))])
def fi_154 : Option RT := some (.one (.one (.bool)))
def fi_155 : Option RT := some (.one (.one (.slice)))
def fi_156 : Option RT := some (.one (.one (.slice)))
def fi_157 : Option RT := some (.one (.one (.func)))
def fi_158 : Option RT := some (.one (.one (.int .i64)))
def fi_159 : Option RT := some (.one (.one (.int .i64)))
def fi_160 : Option RT := some (.one (.one (.int .i64)))
def fi_161 : Option RT := some (.one (.agg [.int .i64, .int .i64, .int .i64, .int .i64]))
def fi_162 : Option RT := some (.one (.one (.int .i64)))
def fi_163 : Option RT := some (.one (.one (.ptr)))
def fi_164 : Option RT := some (.one (.one (.int .i64)))
def fi_165 : Option RT := some (.one (.one (.int .i64)))
def fi_166 : Option RT := some (.one (.one (.slice)))
def fi_167 : Option RT := some (.one (.one (.slice)))
def fi_168 : Option RT := some (.one (.one (.slice)))
def fi_169 : Option RT := some (.one (.one (.slice)))
def fi_170 : Option RT := some (.one (.one (.func)))
def fi_171 : Option RT := some (.one (.one (.int .i64)))
def fi_172 : Option RT := some (.tup [(.one (.int .i64)), (.one (.iface))])
def fi_173 : Option RT := some (.one (.one (.bool)))
def fi_174 : Option RT := some (.one (.one (.bool)))
def fi_175 : Option RT := some (.one (.one (.bool)))
def fi_176 : Option RT := some (.one (.one (.bool)))
def fi_177 : Option RT := some (.one (.one (.str)))
def fi_178 : Option RT := some (.tup [])
def fi_179 : Option RT := some (.tup [])
def fi_180 : Option RT := some (.one (.one (.slice)))
def fi_181 : Option RT := some (.tup [])
def fi_182 : Option RT := some (.tup [])
def fi_183 : Option RT := some (.tup [(.one (.int .i64)), (.one (.bool))])
def fi_184 : Option RT := some (.one (.one (.bool)))
def fi_185 : Option RT := some (.tup [])
def fi_186 : Option RT := some (.one (.one (.str)))
def fi_187 : Option RT := some (.one (.one (.int .i64)))
def fi_188 : Option RT := some (.one (.one (.func)))
def fi_189 : Option RT := some (.one (.one (.slice)))
def fi_190 : Option RT := some (.one (.one (.func)))
def fi_191 : Option RT := some (.one (.one (.int .i64)))
def fi_192 : Option RT := some (.one (.one (.int .i64)))
def fi_193 : Option RT := some (.tup [])
def fi_194 : Option RT := some (.one (.one (.func)))
def fi_195 : Option RT := some (.one (.one (.slice)))
def fi_196 : Option RT := some (.tup [])
def fi_197 : Option RT := some (.tup [(.one (.str)), (.one (.str))])
def fi_198 : Option RT := some (.tup [])
def fi_199 : Option RT := some (.one (.one (.func)))
def fi_200 : Option RT := some (.tup [])
def fi_201 : Option RT := some (.one (.one (.func)))
def fi_202 : Option RT := some (.one (.one (.slice)))
def fi_203 : Option RT := some (.one (.one (.str)))
def fi_204 : Option RT := some (.one (.one (.int .i64)))
def fi_205 : Option RT := some (.one (.one (.slice)))
def fi_206 : Option RT := some (.tup [])
def fi_207 : Option RT := some (.one (.one (.func)))
def fi_208 : Option RT := some (.one (.one (.int .i64)))
def fi_209 : Option RT := some (.tup [])
def fi_210 : Option RT := some (.one (.one (.slice)))
def fi_211 : Option RT := some (.tup [])
def fi_212 : Option RT := some (.tup [])
def fi_213 : Option RT := some (.one (.one (.int .i64)))
def fi_214 : Option RT := some (.one (.one (.int .i64)))
def fi_215 : Option RT := some (.tup [(.one (.int .i64)), (.one (.iface))])
def fi_216 : Option RT := some (.one (.one (.iface)))
def fi_217 : Option RT := some (.one (.one (.int .i64)))
def fi_218 : Option RT := some (.one (.one (.str)))
def fi_219 : Option RT := some (.one (.one (.int .i64)))
def fi_220 : Option RT := some (.tup [])
def fi_221 : Option RT := some (.tup [(.one (.slice)), (.one (.str))])
def fi_222 : Option RT := none
def fi_223 : Option RT := none
def fi_224 : Option RT := some (.tup [])
def fi_225 : Option RT := some (.one (.one (.int .i64)))
def fi_226 : Option RT := some (.one (.one (.int .i64)))
def fi_227 : Option RT := some (.tup [])
def fi_228 : Option RT := some (.one (.one (.slice)))
def fi_229 : Option RT := some (.tup [])
def fi_230 : Option RT := some (.tup [])
def fi_231 : Option RT := some (.tup [])
def fi_232 : Option RT := some (.one (.one (.int .i64)))
def fi_233 : Option RT := some (.one (.one (.str)))
def fi_234 : Option RT := some (.one (.one (.bool)))
def fi_235 : Option RT := some (.tup [])
def fi_236 : Option RT := some (.tup [])
def fi_237 : Option RT := some (.one (.one (.slice)))
def fi_238 : Option RT := some (.one (.one (.int .i64)))
def fi_239 : Option RT := some (.one (.one (.bool)))
def fi_240 : Option RT := some (.one (.one (.slice)))
def fi_241 : Option RT := some (.tup [])
def fi_242 : Option RT := some (.one (.one (.func)))
def fi_243 : Option RT := some (.one (.one (.slice)))
def fi_244 : Option RT := some (.tup [])
def fi_245 : Option RT := some (.tup [(.one (.int .u32)), (.one (.int .u32))])
def fi_246 : Option RT := some (.tup [(.one (.int .i64)), (.one (.iface))])
def fi_247 : Option RT := some (.one (.one (.ptr)))
def fi_248 : Option RT := some (.one (.one (.ptr)))
def fi_249 : Option RT := some (.one (.one (.ptr)))
def fi_250 : Option RT := some (.one (.one (.ptr)))
def fi_251 : Option RT := some (.one (.one (.int .i64)))
def fi_252 : Option RT := some (.one (.one (.int .i64)))
def fi_253 : Option RT := some (.one (.one (.int .i64)))
def fi_254 : Option RT := some (.one (.one (.bool)))
def fi_255 : Option RT := some (.one (.one (.int .i64)))
def fi_256 : Option RT := some (.tup [])
def fi_257 : Option RT := some (.one (.one (.int .i64)))
def fi_258 : Option RT := some (.one (.one (.slice)))
def fi_259 : Option RT := some (.tup [])
def fi_260 : Option RT := some (.tup [])
def fi_261 : Option RT := some (.tup [])
def fi_262 : Option RT := some (.tup [(.one (.int .i64)), (.one (.int .i64))])
def fi_263 : Option RT := some (.tup [])
def fi_264 : Option RT := some (.one (.one (.bool)))
def fi_265 : Option RT := some (.one (.one (.bool)))
def fi_266 : Option RT := some (.one (.one (.int .i64)))
def fi_267 : Option RT := some (.tup [(.one (.int .i64)), (.one (.bool))])
def fi_268 : Option RT := some (.one (.one (.int .i64)))
def fi_269 : Option RT := some (.tup [])
def fi_270 : Option RT := some (.tup [])
def fi_271 : Option RT := some (.tup [])
def fi_272 : Option RT := some (.tup [])
def fi_273 : Option RT := some (.tup [(.one (.int .i64)), (.one (.int .i64))])
def fi_274 : Option RT := some (.tup [])
def fi_275 : Option RT := some (.one (.one (.bool)))
def fi_276 : Option RT := some (.one (.one (.bool)))
def fi_277 : Option RT := some (.one (.one (.int .i64)))
def fi_278 : Option RT := some (.tup [(.one (.int .i64)), (.one (.bool))])
def fi_279 : Option RT := some (.tup [(.one (.int .u64)), (.one (.iface))])
def fi_280 : Option RT := some (.one (.one (.str)))
def fi_281 : Option RT := some (.one (.one (.iface)))
def fi_282 : Option RT := some (.one (.one (.int .i64)))
def fi_283 : Option RT := some (.one (.one (.int .i64)))
def fi_284 : Option RT := some (.tup [])
def fi_285 : Option RT := some (.tup [])
def fi_286 : Option RT := some (.tup [])
def fi_287 : Option RT := some (.one (.one (.int .u64)))
def fi_288 : Option RT := some (.one (.one (.int .u64)))
def fi_289 : Option RT := some (.one (.one (.int .i64)))
def fi_290 : Option RT := some (.one (.one (.int .i64)))
def fi_291 : Option RT := some (.one (.one (.bool)))
def fi_292 : Option RT := some (.tup [])
def fi_293 : Option RT := some (.one (.one (.int .i64)))
def fi_294 : Option RT := some (.one (.one (.int .i64)))
def fi_295 : Option RT := some (.one (.one (.bool)))
def fi_296 : Option RT := some (.one (.one (.int .u8)))
def fi_297 : Option RT := some (.one (.one (.bool)))
def fi_298 : Option RT := some (.tup [])
def fi_299 : Option RT := some (.tup [(.one (.int .i64)), (.one (.int .i64))])
def fi_300 : Option RT := some (.tup [(.one (.int .i64)), (.one (.int .i64))])
def fi_301 : Option RT := some (.tup [])
def fi_302 : Option RT := none
def fi_303 : Option RT := none
def fi_304 : Option RT := none
def fi_305 : Option RT := none
def fi_306 : Option RT := none
def fi_307 : Option RT := none
def fi_308 : Option RT := none
def fi_309 : Option RT := none
def fi_310 : Option RT := none
def fi_311 : Option RT := none
def fi_312 : Option RT := none
def fi_313 : Option RT := none
def fi_314 : Option RT := none
def fi_315 : Option RT := none
def fi_316 : Option RT := none
def fi_317 : Option RT := none
def fi_318 : Option RT := none
def fi_319 : Option RT := none
def fi_320 : Option RT := none
def fi_321 : Option RT := none
def fi_322 : Option RT := none
def fi_323 : Option RT := none
def fi_324 : Option RT := none
def fi_325 : Option RT := none
def fi_326 : Option RT := none
def fi_327 : Option RT := none
def fi_328 : Option RT := none
def fi_329 : Option RT := none
def fi_330 : Option RT := none
def fi_331 : Option RT := none
def fi_332 : Option RT := none
def fi_333 : Option RT := some (.tup [])
def Dt : Tb := ⟨438, 334, (.node ti_0 (.node ti_1 (.node ti_3 (.node ti_7 (.node ti_15 (.node ti_31 (.node ti_63 (.node ti_127 (.node ti_255 .nil .nil) (.node ti_383 .nil .nil)) (.node ti_191 (.node ti_319 .nil .nil) .nil)) (.node ti_95 (.node ti_159 (.node ti_287 .nil .nil) (.node ti_415 .nil .nil)) (.node ti_223 (.node ti_351 .nil .nil) .nil))) (.node ti_47 (.node ti_79 (.node ti_143 (.node ti_271 .nil .nil) (.node ti_399 .nil .nil)) (.node ti_207 (.node ti_335 .nil .nil) .nil)) (.node ti_111 (.node ti_175 (.node ti_303 .nil .nil) (.node ti_431 .nil .nil)) (.node ti_239 (.node ti_367 .nil .nil) .nil)))) (.node ti_23 (.node ti_39 (.node ti_71 (.node ti_135 (.node ti_263 .nil .nil) (.node ti_391 .nil .nil)) (.node ti_199 (.node ti_327 .nil .nil) .nil)) (.node ti_103 (.node ti_167 (.node ti_295 .nil .nil) (.node ti_423 .nil .nil)) (.node ti_231 (.node ti_359 .nil .nil) .nil))) (.node ti_55 (.node ti_87 (.node ti_151 (.node ti_279 .nil .nil) (.node ti_407 .nil .nil)) (.node ti_215 (.node ti_343 .nil .nil) .nil)) (.node ti_119 (.node ti_183 (.node ti_311 .nil .nil) .nil) (.node ti_247 (.node ti_375 .nil .nil) .nil))))) (.node ti_11 (.node ti_19 (.node ti_35 (.node ti_67 (.node ti_131 (.node ti_259 .nil .nil) (.node ti_387 .nil .nil)) (.node ti_195 (.node ti_323 .nil .nil) .nil)) (.node ti_99 (.node ti_163 (.node ti_291 .nil .nil) (.node ti_419 .nil .nil)) (.node ti_227 (.node ti_355 .nil .nil) .nil))) (.node ti_51 (.node ti_83 (.node ti_147 (.node ti_275 .nil .nil) (.node ti_403 .nil .nil)) (.node ti_211 (.node ti_339 .nil .nil) .nil)) (.node ti_115 (.node ti_179 (.node ti_307 .nil .nil) (.node ti_435 .nil .nil)) (.node ti_243 (.node ti_371 .nil .nil) .nil)))) (.node ti_27 (.node ti_43 (.node ti_75 (.node ti_139 (.node ti_267 .nil .nil) (.node ti_395 .nil .nil)) (.node ti_203 (.node ti_331 .nil .nil) .nil)) (.node ti_107 (.node ti_171 (.node ti_299 .nil .nil) (.node ti_427 .nil .nil)) (.node ti_235 (.node ti_363 .nil .nil) .nil))) (.node ti_59 (.node ti_91 (.node ti_155 (.node ti_283 .nil .nil) (.node ti_411 .nil .nil)) (.node ti_219 (.node ti_347 .nil .nil) .nil)) (.node ti_123 (.node ti_187 (.node ti_315 .nil .nil) .nil) (.node ti_251 (.node ti_379 .nil .nil) .nil)))))) (.node ti_5 (.node ti_9 (.node ti_17 (.node ti_33 (.node ti_65 (.node ti_129 (.node ti_257 .nil .nil) (.node ti_385 .nil .nil)) (.node ti_193 (.node ti_321 .nil .nil) .nil)) (.node ti_97 (.node ti_161 (.node ti_289 .nil .nil) (.node ti_417 .nil .nil)) (.node ti_225 (.node ti_353 .nil .nil) .nil))) (.node ti_49 (.node ti_81 (.node ti_145 (.node ti_273 .nil .nil) (.node ti_401 .nil .nil)) (.node ti_209 (.node ti_337 .nil .nil) .nil)) (.node ti_113 (.node ti_177 (.node ti_305 .nil .nil) (.node ti_433 .nil .nil)) (.node ti_241 (.node ti_369 .nil .nil) .nil)))) (.node ti_25 (.node ti_41 (.node ti_73 (.node ti_137 (.node ti_265 .nil .nil) (.node ti_393 .nil .nil)) (.node ti_201 (.node ti_329 .nil .nil) .nil)) (.node ti_105 (.node ti_169 (.node ti_297 .nil .nil) (.node ti_425 .nil .nil)) (.node ti_233 (.node ti_361 .nil .nil) .nil))) (.node ti_57 (.node ti_89 (.node ti_153 (.node ti_281 .nil .nil) (.node ti_409 .nil .nil)) (.node ti_217 (.node ti_345 .nil .nil) .nil)) (.node ti_121 (.node ti_185 (.node ti_313 .nil .nil) .nil) (.node ti_249 (.node ti_377 .nil .nil) .nil))))) (.node ti_13 (.node ti_21 (.node ti_37 (.node ti_69 (.node ti_133 (.node ti_261 .nil .nil) (.node ti_389 .nil .nil)) (.node ti_197 (.node ti_325 .nil .nil) .nil)) (.node ti_101 (.node ti_165 (.node ti_293 .nil .nil) (.node ti_421 .nil .nil)) (.node ti_229 (.node ti_357 .nil .nil) .nil))) (.node ti_53 (.node ti_85 (.node ti_149 (.node ti_277 .nil .nil) (.node ti_405 .nil .nil)) (.node ti_213 (.node ti_341 .nil .nil) .nil)) (.node ti_117 (.node ti_181 (.node ti_309 .nil .nil) (.node ti_437 .nil .nil)) (.node ti_245 (.node ti_373 .nil .nil) .nil)))) (.node ti_29 (.node ti_45 (.node ti_77 (.node ti_141 (.node ti_269 .nil .nil) (.node ti_397 .nil .nil)) (.node ti_205 (.node ti_333 .nil .nil) .nil)) (.node ti_109 (.node ti_173 (.node ti_301 .nil .nil) (.node ti_429 .nil .nil)) (.node ti_237 (.node ti_365 .nil .nil) .nil))) (.node ti_61 (.node ti_93 (.node ti_157 (.node ti_285 .nil .nil) (.node ti_413 .nil .nil)) (.node ti_221 (.node ti_349 .nil .nil) .nil)) (.node ti_125 (.node ti_189 (.node ti_317 .nil .nil) .nil) (.node ti_253 (.node ti_381 .nil .nil) .nil))))))) (.node ti_2 (.node ti_4 (.node ti_8 (.node ti_16 (.node ti_32 (.node ti_64 (.node ti_128 (.node ti_256 .nil .nil) (.node ti_384 .nil .nil)) (.node ti_192 (.node ti_320 .nil .nil) .nil)) (.node ti_96 (.node ti_160 (.node ti_288 .nil .nil) (.node ti_416 .nil .nil)) (.node ti_224 (.node ti_352 .nil .nil) .nil))) (.node ti_48 (.node ti_80 (.node ti_144 (.node ti_272 .nil .nil) (.node ti_400 .nil .nil)) (.node ti_208 (.node ti_336 .nil .nil) .nil)) (.node ti_112 (.node ti_176 (.node ti_304 .nil .nil) (.node ti_432 .nil .nil)) (.node ti_240 (.node ti_368 .nil .nil) .nil)))) (.node ti_24 (.node ti_40 (.node ti_72 (.node ti_136 (.node ti_264 .nil .nil) (.node ti_392 .nil .nil)) (.node ti_200 (.node ti_328 .nil .nil) .nil)) (.node ti_104 (.node ti_168 (.node ti_296 .nil .nil) (.node ti_424 .nil .nil)) (.node ti_232 (.node ti_360 .nil .nil) .nil))) (.node ti_56 (.node ti_88 (.node ti_152 (.node ti_280 .nil .nil) (.node ti_408 .nil .nil)) (.node ti_216 (.node ti_344 .nil .nil) .nil)) (.node ti_120 (.node ti_184 (.node ti_312 .nil .nil) .nil) (.node ti_248 (.node ti_376 .nil .nil) .nil))))) (.node ti_12 (.node ti_20 (.node ti_36 (.node ti_68 (.node ti_132 (.node ti_260 .nil .nil) (.node ti_388 .nil .nil)) (.node ti_196 (.node ti_324 .nil .nil) .nil)) (.node ti_100 (.node ti_164 (.node ti_292 .nil .nil) (.node ti_420 .nil .nil)) (.node ti_228 (.node ti_356 .nil .nil) .nil))) (.node ti_52 (.node ti_84 (.node ti_148 (.node ti_276 .nil .nil) (.node ti_404 .nil .nil)) (.node ti_212 (.node ti_340 .nil .nil) .nil)) (.node ti_116 (.node ti_180 (.node ti_308 .nil .nil) (.node ti_436 .nil .nil)) (.node ti_244 (.node ti_372 .nil .nil) .nil)))) (.node ti_28 (.node ti_44 (.node ti_76 (.node ti_140 (.node ti_268 .nil .nil) (.node ti_396 .nil .nil)) (.node ti_204 (.node ti_332 .nil .nil) .nil)) (.node ti_108 (.node ti_172 (.node ti_300 .nil .nil) (.node ti_428 .nil .nil)) (.node ti_236 (.node ti_364 .nil .nil) .nil))) (.node ti_60 (.node ti_92 (.node ti_156 (.node ti_284 .nil .nil) (.node ti_412 .nil .nil)) (.node ti_220 (.node ti_348 .nil .nil) .nil)) (.node ti_124 (.node ti_188 (.node ti_316 .nil .nil) .nil) (.node ti_252 (.node ti_380 .nil .nil) .nil)))))) (.node ti_6 (.node ti_10 (.node ti_18 (.node ti_34 (.node ti_66 (.node ti_130 (.node ti_258 .nil .nil) (.node ti_386 .nil .nil)) (.node ti_194 (.node ti_322 .nil .nil) .nil)) (.node ti_98 (.node ti_162 (.node ti_290 .nil .nil) (.node ti_418 .nil .nil)) (.node ti_226 (.node ti_354 .nil .nil) .nil))) (.node ti_50 (.node ti_82 (.node ti_146 (.node ti_274 .nil .nil) (.node ti_402 .nil .nil)) (.node ti_210 (.node ti_338 .nil .nil) .nil)) (.node ti_114 (.node ti_178 (.node ti_306 .nil .nil) (.node ti_434 .nil .nil)) (.node ti_242 (.node ti_370 .nil .nil) .nil)))) (.node ti_26 (.node ti_42 (.node ti_74 (.node ti_138 (.node ti_266 .nil .nil) (.node ti_394 .nil .nil)) (.node ti_202 (.node ti_330 .nil .nil) .nil)) (.node ti_106 (.node ti_170 (.node ti_298 .nil .nil) (.node ti_426 .nil .nil)) (.node ti_234 (.node ti_362 .nil .nil) .nil))) (.node ti_58 (.node ti_90 (.node ti_154 (.node ti_282 .nil .nil) (.node ti_410 .nil .nil)) (.node ti_218 (.node ti_346 .nil .nil) .nil)) (.node ti_122 (.node ti_186 (.node ti_314 .nil .nil) .nil) (.node ti_250 (.node ti_378 .nil .nil) .nil))))) (.node ti_14 (.node ti_22 (.node ti_38 (.node ti_70 (.node ti_134 (.node ti_262 .nil .nil) (.node ti_390 .nil .nil)) (.node ti_198 (.node ti_326 .nil .nil) .nil)) (.node ti_102 (.node ti_166 (.node ti_294 .nil .nil) (.node ti_422 .nil .nil)) (.node ti_230 (.node ti_358 .nil .nil) .nil))) (.node ti_54 (.node ti_86 (.node ti_150 (.node ti_278 .nil .nil) (.node ti_406 .nil .nil)) (.node ti_214 (.node ti_342 .nil .nil) .nil)) (.node ti_118 (.node ti_182 (.node ti_310 .nil .nil) .nil) (.node ti_246 (.node ti_374 .nil .nil) .nil)))) (.node ti_30 (.node ti_46 (.node ti_78 (.node ti_142 (.node ti_270 .nil .nil) (.node ti_398 .nil .nil)) (.node ti_206 (.node ti_334 .nil .nil) .nil)) (.node ti_110 (.node ti_174 (.node ti_302 .nil .nil) (.node ti_430 .nil .nil)) (.node ti_238 (.node ti_366 .nil .nil) .nil))) (.node ti_62 (.node ti_94 (.node ti_158 (.node ti_286 .nil .nil) (.node ti_414 .nil .nil)) (.node ti_222 (.node ti_350 .nil .nil) .nil)) (.node ti_126 (.node ti_190 (.node ti_318 .nil .nil) .nil) (.node ti_254 (.node ti_382 .nil .nil) .nil)))))))), (.node fi_0 (.node fi_1 (.node fi_3 (.node fi_7 (.node fi_15 (.node fi_31 (.node fi_63 (.node fi_127 (.node fi_255 .nil .nil) .nil) (.node fi_191 (.node fi_319 .nil .nil) .nil)) (.node fi_95 (.node fi_159 (.node fi_287 .nil .nil) .nil) (.node fi_223 .nil .nil))) (.node fi_47 (.node fi_79 (.node fi_143 (.node fi_271 .nil .nil) .nil) (.node fi_207 .nil .nil)) (.node fi_111 (.node fi_175 (.node fi_303 .nil .nil) .nil) (.node fi_239 .nil .nil)))) (.node fi_23 (.node fi_39 (.node fi_71 (.node fi_135 (.node fi_263 .nil .nil) .nil) (.node fi_199 (.node fi_327 .nil .nil) .nil)) (.node fi_103 (.node fi_167 (.node fi_295 .nil .nil) .nil) (.node fi_231 .nil .nil))) (.node fi_55 (.node fi_87 (.node fi_151 (.node fi_279 .nil .nil) .nil) (.node fi_215 .nil .nil)) (.node fi_119 (.node fi_183 (.node fi_311 .nil .nil) .nil) (.node fi_247 .nil .nil))))) (.node fi_11 (.node fi_19 (.node fi_35 (.node fi_67 (.node fi_131 (.node fi_259 .nil .nil) .nil) (.node fi_195 (.node fi_323 .nil .nil) .nil)) (.node fi_99 (.node fi_163 (.node fi_291 .nil .nil) .nil) (.node fi_227 .nil .nil))) (.node fi_51 (.node fi_83 (.node fi_147 (.node fi_275 .nil .nil) .nil) (.node fi_211 .nil .nil)) (.node fi_115 (.node fi_179 (.node fi_307 .nil .nil) .nil) (.node fi_243 .nil .nil)))) (.node fi_27 (.node fi_43 (.node fi_75 (.node fi_139 (.node fi_267 .nil .nil) .nil) (.node fi_203 (.node fi_331 .nil .nil) .nil)) (.node fi_107 (.node fi_171 (.node fi_299 .nil .nil) .nil) (.node fi_235 .nil .nil))) (.node fi_59 (.node fi_91 (.node fi_155 (.node fi_283 .nil .nil) .nil) (.node fi_219 .nil .nil)) (.node fi_123 (.node fi_187 (.node fi_315 .nil .nil) .nil) (.node fi_251 .nil .nil)))))) (.node fi_5 (.node fi_9 (.node fi_17 (.node fi_33 (.node fi_65 (.node fi_129 (.node fi_257 .nil .nil) .nil) (.node fi_193 (.node fi_321 .nil .nil) .nil)) (.node fi_97 (.node fi_161 (.node fi_289 .nil .nil) .nil) (.node fi_225 .nil .nil))) (.node fi_49 (.node fi_81 (.node fi_145 (.node fi_273 .nil .nil) .nil) (.node fi_209 .nil .nil)) (.node fi_113 (.node fi_177 (.node fi_305 .nil .nil) .nil) (.node fi_241 .nil .nil)))) (.node fi_25 (.node fi_41 (.node fi_73 (.node fi_137 (.node fi_265 .nil .nil) .nil) (.node fi_201 (.node fi_329 .nil .nil) .nil)) (.node fi_105 (.node fi_169 (.node fi_297 .nil .nil) .nil) (.node fi_233 .nil .nil))) (.node fi_57 (.node fi_89 (.node fi_153 (.node fi_281 .nil .nil) .nil) (.node fi_217 .nil .nil)) (.node fi_121 (.node fi_185 (.node fi_313 .nil .nil) .nil) (.node fi_249 .nil .nil))))) (.node fi_13 (.node fi_21 (.node fi_37 (.node fi_69 (.node fi_133 (.node fi_261 .nil .nil) .nil) (.node fi_197 (.node fi_325 .nil .nil) .nil)) (.node fi_101 (.node fi_165 (.node fi_293 .nil .nil) .nil) (.node fi_229 .nil .nil))) (.node fi_53 (.node fi_85 (.node fi_149 (.node fi_277 .nil .nil) .nil) (.node fi_213 .nil .nil)) (.node fi_117 (.node fi_181 (.node fi_309 .nil .nil) .nil) (.node fi_245 .nil .nil)))) (.node fi_29 (.node fi_45 (.node fi_77 (.node fi_141 (.node fi_269 .nil .nil) .nil) (.node fi_205 (.node fi_333 .nil .nil) .nil)) (.node fi_109 (.node fi_173 (.node fi_301 .nil .nil) .nil) (.node fi_237 .nil .nil))) (.node fi_61 (.node fi_93 (.node fi_157 (.node fi_285 .nil .nil) .nil) (.node fi_221 .nil .nil)) (.node fi_125 (.node fi_189 (.node fi_317 .nil .nil) .nil) (.node fi_253 .nil .nil))))))) (.node fi_2 (.node fi_4 (.node fi_8 (.node fi_16 (.node fi_32 (.node fi_64 (.node fi_128 (.node fi_256 .nil .nil) .nil) (.node fi_192 (.node fi_320 .nil .nil) .nil)) (.node fi_96 (.node fi_160 (.node fi_288 .nil .nil) .nil) (.node fi_224 .nil .nil))) (.node fi_48 (.node fi_80 (.node fi_144 (.node fi_272 .nil .nil) .nil) (.node fi_208 .nil .nil)) (.node fi_112 (.node fi_176 (.node fi_304 .nil .nil) .nil) (.node fi_240 .nil .nil)))) (.node fi_24 (.node fi_40 (.node fi_72 (.node fi_136 (.node fi_264 .nil .nil) .nil) (.node fi_200 (.node fi_328 .nil .nil) .nil)) (.node fi_104 (.node fi_168 (.node fi_296 .nil .nil) .nil) (.node fi_232 .nil .nil))) (.node fi_56 (.node fi_88 (.node fi_152 (.node fi_280 .nil .nil) .nil) (.node fi_216 .nil .nil)) (.node fi_120 (.node fi_184 (.node fi_312 .nil .nil) .nil) (.node fi_248 .nil .nil))))) (.node fi_12 (.node fi_20 (.node fi_36 (.node fi_68 (.node fi_132 (.node fi_260 .nil .nil) .nil) (.node fi_196 (.node fi_324 .nil .nil) .nil)) (.node fi_100 (.node fi_164 (.node fi_292 .nil .nil) .nil) (.node fi_228 .nil .nil))) (.node fi_52 (.node fi_84 (.node fi_148 (.node fi_276 .nil .nil) .nil) (.node fi_212 .nil .nil)) (.node fi_116 (.node fi_180 (.node fi_308 .nil .nil) .nil) (.node fi_244 .nil .nil)))) (.node fi_28 (.node fi_44 (.node fi_76 (.node fi_140 (.node fi_268 .nil .nil) .nil) (.node fi_204 (.node fi_332 .nil .nil) .nil)) (.node fi_108 (.node fi_172 (.node fi_300 .nil .nil) .nil) (.node fi_236 .nil .nil))) (.node fi_60 (.node fi_92 (.node fi_156 (.node fi_284 .nil .nil) .nil) (.node fi_220 .nil .nil)) (.node fi_124 (.node fi_188 (.node fi_316 .nil .nil) .nil) (.node fi_252 .nil .nil)))))) (.node fi_6 (.node fi_10 (.node fi_18 (.node fi_34 (.node fi_66 (.node fi_130 (.node fi_258 .nil .nil) .nil) (.node fi_194 (.node fi_322 .nil .nil) .nil)) (.node fi_98 (.node fi_162 (.node fi_290 .nil .nil) .nil) (.node fi_226 .nil .nil))) (.node fi_50 (.node fi_82 (.node fi_146 (.node fi_274 .nil .nil) .nil) (.node fi_210 .nil .nil)) (.node fi_114 (.node fi_178 (.node fi_306 .nil .nil) .nil) (.node fi_242 .nil .nil)))) (.node fi_26 (.node fi_42 (.node fi_74 (.node fi_138 (.node fi_266 .nil .nil) .nil) (.node fi_202 (.node fi_330 .nil .nil) .nil)) (.node fi_106 (.node fi_170 (.node fi_298 .nil .nil) .nil) (.node fi_234 .nil .nil))) (.node fi_58 (.node fi_90 (.node fi_154 (.node fi_282 .nil .nil) .nil) (.node fi_218 .nil .nil)) (.node fi_122 (.node fi_186 (.node fi_314 .nil .nil) .nil) (.node fi_250 .nil .nil))))) (.node fi_14 (.node fi_22 (.node fi_38 (.node fi_70 (.node fi_134 (.node fi_262 .nil .nil) .nil) (.node fi_198 (.node fi_326 .nil .nil) .nil)) (.node fi_102 (.node fi_166 (.node fi_294 .nil .nil) .nil) (.node fi_230 .nil .nil))) (.node fi_54 (.node fi_86 (.node fi_150 (.node fi_278 .nil .nil) .nil) (.node fi_214 .nil .nil)) (.node fi_118 (.node fi_182 (.node fi_310 .nil .nil) .nil) (.node fi_246 .nil .nil)))) (.node fi_30 (.node fi_46 (.node fi_78 (.node fi_142 (.node fi_270 .nil .nil) .nil) (.node fi_206 .nil .nil)) (.node fi_110 (.node fi_174 (.node fi_302 .nil .nil) .nil) (.node fi_238 .nil .nil))) (.node fi_62 (.node fi_94 (.node fi_158 (.node fi_286 .nil .nil) .nil) (.node fi_222 .nil .nil)) (.node fi_126 (.node fi_190 (.node fi_318 .nil .nil) .nil) (.node fi_254 .nil .nil))))))))⟩
theorem Tok : TbOk Pr Dt := tbOk_of (by kernel_rfl) (by kernel_rfl) (by kernel_rfl)
def A_damperlaw15_SystemGens : Ann := (.seq .auto (.seq .auto (.seq .auto (.seq .auto (.seq .auto (.seq (.seq .auto (.one [(5, (.one (.int .i64))), (6, (.one (.int .i64))), (7, (.one (.int .i64))), (8, (.one (.int .i64)))] (.seq (.seq .auto (.cond .auto .auto) none) (.seq (.seq .auto (.seq .auto (.seq .auto (.seq .auto (.seq .auto (.seq .auto (.seq .auto (.seq (.seq .auto .auto (some [(112, (.one (.bool)))])) .auto none) none) none) (some [(6, (.one (.int .i64)))])) none) none) none) none) .auto none) none)) none) .auto (some [(6, (.one (.int .i64)))])) none) none) none) none) none)
def F_damperlaw15_SystemGens (p0 : Sl) (K : Value → PT) : PT :=
 L.call Pr n_damperlaw15_known [] (.one (.one (.bool))) fun (x1 : Bool) =>
 L.ite (!x1) (
  K (.bool false)) <|
 L.call Pr n_system_New [.int .i64 30, .int .i64 2, .int .i64 9] (.tup [(.one (.ptr)), (.one (.int .i64))]) fun (x2 : Option Addr × Int × Unit) =>
 L.ite ((x2.1).isNone) (
  K (.bool false)) <|
 L.ite (x2.2.1 != 0) (
  K (.bool false)) <|
 L.join (Y := Int × Unit) (fun k3 =>
  L.loop (Y := Int × Int × Int × Int × Unit) (0, 0, (-1), 0, ()) fun y5 again6 =>
  L.ite (decide (y5.2.2.2.1 < ((p0.len : Nat) : Int))) (
   L.ite (decide (y5.2.2.2.1 < 30)) (
    L.idx p0.a y5.2.2.2.1 p0.len 1 fun a7 =>
    L.load (.one (.int .i64)) a7 fun (x8 : Int) =>
    L.call Pr n_damperlaw15_within [.int .i64 x8, .int .i64 4] (.one (.one (.int .i64))) fun (x9 : Int) =>
    L.call Pr n_system_System_Do [.pointer x2.1, .agg #[.int .i64 1, .string s_, .string s_, .int .i64 y5.1, .int .i64 0, .string s_web, .int .i64 x9, .int .i64 1, .int .i64 0, .int .i64 1, .int .i64 0, .string s_, .string s_, .slice none 0 0, .int .i64 0]] (.one (.one (.slice))) fun (x10 : Sl) =>
    L.draw <|
    L.ite (((x10.len : Nat) : Int) != 1) (
     K (.bool false)) <|
    L.idx x10.a 0 x10.len 1 fun a11 =>
    L.load (.one (.str)) a11 fun (x12 : ByteArray) =>
    L.call Pr n_damperref1_Digits [.int .i64 (IntKind.wrap .i64 (y5.1 + 1))] (.one (.one (.str))) fun (x13 : ByteArray) =>
    L.chk a11 [.string x12] <|
    L.guard (((s_config_web__7cf9.size + x13.size : Nat) : Int) ≤ maxI64) <|
    L.ite (!(x12.toList == (s_config_web__7cf9 ++ x13).toList)) (
     K (.bool false)) <|
    L.join (Y := Int × Unit) (fun k14 =>
     L.ite (x9 != y5.2.2.1) (
      k14 (IntKind.wrap .i64 (y5.2.1 + 1), ())) <|
     k14 (y5.2.1, ())) fun z15 =>
    L.call Pr n_damperref1_Rev [.string s_web, .int .i64 z15.1] (.one (.one (.str))) fun (x16 : ByteArray) =>
    L.call Pr n_system_System_Do [.pointer x2.1, .agg #[.int .i64 10, .string s_web, .string s_, .int .i64 0, .int .i64 0, .string s_, .int .i64 0, .int .i64 0, .int .i64 0, .int .i64 0, .int .i64 0, .string s_, .string s_, .slice none 0 0, .int .i64 0]] (.one (.one (.slice))) fun (x17 : Sl) =>
    L.join (Y := Bool × Unit) (fun k18 =>
     L.ite (x9 == y5.2.2.1) (
      L.ite (((x17.len : Nat) : Int) != 1) (
       k18 (true, ())) <|
      L.idx x17.a 0 x17.len 1 fun a20 =>
      L.load (.one (.str)) a20 fun (x21 : ByteArray) =>
      L.guard (((s_same__fab.size + x16.size : Nat) : Int) ≤ maxI64) <|
      L.ite (!(x21.toList == (s_same__fab ++ x16).toList)) (
       k18 (true, ())) <|
      L.ite (x9 != y5.2.2.1) (
       L.ite (((x17.len : Nat) : Int) != 2) (
        k18 (true, ())) <|
       L.idx x17.a 0 x17.len 1 fun a22 =>
       L.load (.one (.str)) a22 fun (x23 : ByteArray) =>
       L.guard (((s_revision__114.size + x16.size : Nat) : Int) ≤ maxI64) <|
       L.ite (!(x23.toList == (s_revision__114 ++ x16).toList)) (
        k18 (true, ())) <|
       L.idx x17.a 1 x17.len 1 fun a24 =>
       L.load (.one (.str)) a24 fun (x25 : ByteArray) =>
       L.guard (((s_scale__c84d.size + x16.size : Nat) : Int) ≤ maxI64) <|
       L.guard ((((s_scale__c84d ++ x16).size + s__1_6e96.size : Nat) : Int) ≤ maxI64) <|
       k18 (!(x25.toList == ((s_scale__c84d ++ x16) ++ s__1_6e96).toList), ())) <|
      k18 (false, ())) <|
     L.ite (x9 != y5.2.2.1) (
      L.ite (((x17.len : Nat) : Int) != 2) (
       k18 (true, ())) <|
      L.idx x17.a 0 x17.len 1 fun a26 =>
      L.load (.one (.str)) a26 fun (x27 : ByteArray) =>
      L.guard (((s_revision__114.size + x16.size : Nat) : Int) ≤ maxI64) <|
      L.ite (!(x27.toList == (s_revision__114 ++ x16).toList)) (
       k18 (true, ())) <|
      L.idx x17.a 1 x17.len 1 fun a28 =>
      L.load (.one (.str)) a28 fun (x29 : ByteArray) =>
      L.guard (((s_scale__c84d.size + x16.size : Nat) : Int) ≤ maxI64) <|
      L.guard ((((s_scale__c84d ++ x16).size + s__1_6e96.size : Nat) : Int) ≤ maxI64) <|
      k18 (!(x29.toList == ((s_scale__c84d ++ x16) ++ s__1_6e96).toList), ())) <|
     k18 (false, ())) fun z19 =>
    L.ite z19.1 (
     K (.bool false)) <|
    again6 (IntKind.wrap .i64 (y5.1 + 1), z15.1, x9, IntKind.wrap .i64 (y5.2.2.2.1 + 1), ())) <|
   k3 (y5.2.1, ())) <|
  k3 (y5.2.1, ())) fun z4 =>
 L.call Pr n_system_System_Revisions [.pointer x2.1] (.one (.one (.slice))) fun (x30 : Sl) =>
 K (.bool (((x30.len : Nat) : Int) == z4.1))
theorem D_damperlaw15_SystemGens (p0 : Sl) (K : Value → PT) : denF Pr Dt Tryz.f6 A_damperlaw15_SystemGens [.v (.slice p0.a p0.len p0.cap)] K = F_damperlaw15_SystemGens p0 K := by kernel_rfl
theorem C_damperlaw15_SystemGens (p0 : Sl) {K : Value → PT} {w : World} (h : F_damperlaw15_SystemGens p0 K w) : Calls Pr n_damperlaw15_SystemGens [.slice p0.a p0.len p0.cap].toArray w fun e w2 => ∃ v, e = .returned v ∧ K v w2 :=
  denF_ok Tok (f := 6) (fn := Tryz.f6) (an := A_damperlaw15_SystemGens) (args := [.v (.slice p0.a p0.len p0.cap)]) (by kernel_rfl) (by kernel_rfl) ((congrFun (D_damperlaw15_SystemGens p0 K) w).mpr h)
def A_damperlaw15_known : Ann := .auto
def F_damperlaw15_known  (K : Value → PT) : PT :=
 L.call Pr n_system_New [.int .i64 3, .int .i64 2, .int .i64 5] (.tup [(.one (.ptr)), (.one (.int .i64))]) fun (x1 : Option Addr × Int × Unit) =>
 L.ite ((x1.1).isNone) (
  K (.bool false)) <|
 L.ite (x1.2.1 != 0) (
  K (.bool false)) <|
 L.call Pr n_system_System_Do [.pointer x1.1, .agg #[.int .i64 0, .string s_, .string s_, .int .i64 0, .int .i64 0, .string s_, .int .i64 0, .int .i64 0, .int .i64 0, .int .i64 0, .int .i64 0, .string s_, .string s_, .slice none 0 0, .int .i64 0]] (.one (.one (.slice))) fun (x2 : Sl) =>
 L.call Pr n_system_System_Do [.pointer x1.1, .agg #[.int .i64 9, .string s_, .string s_, .int .i64 0, .int .i64 0, .string s_, .int .i64 0, .int .i64 0, .int .i64 0, .int .i64 0, .int .i64 0, .string s_, .string s_, .slice none 0 0, .int .i64 0]] (.one (.one (.slice))) fun (x3 : Sl) =>
 L.ite (((x2.len : Nat) : Int) == 1) (
  L.idx x2.a 0 x2.len 1 fun a4 =>
  L.load (.one (.str)) a4 fun (x5 : ByteArray) =>
  L.ite (x5.toList == s_bad_kind.toList) (
   L.ite (((x3.len : Nat) : Int) == 1) (
    L.idx x3.a 0 x3.len 1 fun a6 =>
    L.load (.one (.str)) a6 fun (x7 : ByteArray) =>
    L.ite (x7.toList == s_tick_1.toList) (
     L.call Pr n_system_System_Now [.pointer x1.1] (.one (.one (.int .i64))) fun (x8 : Int) =>
     K (.bool (x8 == 1))) <|
    K (.bool false)) <|
   K (.bool false)) <|
  K (.bool false)) <|
 K (.bool false)
theorem D_damperlaw15_known  (K : Value → PT) : denF Pr Dt Tryz.f7 A_damperlaw15_known [] K = F_damperlaw15_known  K := by kernel_rfl
theorem C_damperlaw15_known  {K : Value → PT} {w : World} (h : F_damperlaw15_known  K w) : Calls Pr n_damperlaw15_known [].toArray w fun e w2 => ∃ v, e = .returned v ∧ K v w2 :=
  denF_ok Tok (f := 7) (fn := Tryz.f7) (an := A_damperlaw15_known) (args := []) (by kernel_rfl) (by kernel_rfl) ((congrFun (D_damperlaw15_known  K) w).mpr h)
def A_system_New : Ann := .auto
def F_system_New (p0 : Int) (p1 : Int) (p2 : Int) (K : Value → PT) : PT :=
 L.call Pr n_system_within_int [.int .i64 p0, .int .i64 1, .int .i64 30] (.one (.one (.bool))) fun (x1 : Bool) =>
 L.ite (!x1) (
  K (.tuple #[.pointer none, .int .i64 2])) <|
 L.call Pr n_system_within_int [.int .i64 p1, .int .i64 0, .int .i64 8] (.one (.one (.bool))) fun (x2 : Bool) =>
 L.ite (!x2) (
  K (.tuple #[.pointer none, .int .i64 2])) <|
 L.call Pr n_system_within_int [.int .i64 p2, .int .i64 1, .int .i64 50] (.one (.one (.bool))) fun (x3 : Bool) =>
 L.ite (!x3) (
  K (.tuple #[.pointer none, .int .i64 2])) <|
 L.call Pr n_fleet_New [.int .i64 p0] (.one (.one (.ptr))) fun (x4 : Option Addr) =>
 L.call Pr n_shelf_New [] (.one (.one (.ptr))) fun (x5 : Option Addr) =>
 L.call Pr n_stamp_New [] (.one (.one (.ptr))) fun (x6 : Option Addr) =>
 L.call Pr n_lead_New [] (.one (.one (.ptr))) fun (x7 : Option Addr) =>
 L.call Pr n_gate_New [.pointer x4, .int .i64 p1, .int .i64 p2] (.one (.one (.ptr))) fun (x8 : Option Addr) =>
 L.sem Pr (.one (.one .map)) (Instr.makeMap T_system_things_p_system_beside none) fun (m9 : Option Nat) =>
 L.new [.pointer x5, .pointer x6, .pointer x7, .pointer x4, .pointer x8, .map m9, .int .i64 0] T_system_System fun b10 =>
 K (.tuple #[.pointer (some (⟨b10, 0, none⟩)), .int .i64 0])
theorem D_system_New (p0 : Int) (p1 : Int) (p2 : Int) (K : Value → PT) : denF Pr Dt Tryz.f9 A_system_New [.v (.int .i64 p0), .v (.int .i64 p1), .v (.int .i64 p2)] K = F_system_New p0 p1 p2 K := by kernel_rfl
theorem C_system_New (p0 : Int) (p1 : Int) (p2 : Int) {K : Value → PT} {w : World} (h : F_system_New p0 p1 p2 K w) : Calls Pr n_system_New [.int .i64 p0, .int .i64 p1, .int .i64 p2].toArray w fun e w2 => ∃ v, e = .returned v ∧ K v w2 :=
  denF_ok Tok (f := 9) (fn := Tryz.f9) (an := A_system_New) (args := [.v (.int .i64 p0), .v (.int .i64 p1), .v (.int .i64 p2)]) (by kernel_rfl) (by kernel_rfl) ((congrFun (D_system_New p0 p1 p2 K) w).mpr h)
def A_damperlaw15_within : Ann := (.seq .auto (.seq .auto (.seq .auto .auto (some [(5, (.one (.int .i64)))])) none) none)
def F_damperlaw15_within (p0 : Int) (p1 : Int) (K : Value → PT) : PT :=
 L.guard (p1 ≠ (0 : Int)) <|
 L.join (Y := Int × Unit) (fun k1 =>
  L.ite (decide ((Int.tmod p0 p1) < 0)) (
   k1 (IntKind.wrap .i64 ((Int.tmod p0 p1) + p1), ())) <|
  k1 (Int.tmod p0 p1, ())) fun z2 =>
 K (.int .i64 z2.1)
theorem D_damperlaw15_within (p0 : Int) (p1 : Int) (K : Value → PT) : denF Pr Dt Tryz.f10 A_damperlaw15_within [.v (.int .i64 p0), .v (.int .i64 p1)] K = F_damperlaw15_within p0 p1 K := by kernel_rfl
theorem C_damperlaw15_within (p0 : Int) (p1 : Int) {K : Value → PT} {w : World} (h : F_damperlaw15_within p0 p1 K w) : Calls Pr n_damperlaw15_within [.int .i64 p0, .int .i64 p1].toArray w fun e w2 => ∃ v, e = .returned v ∧ K v w2 :=
  denF_ok Tok (f := 10) (fn := Tryz.f10) (an := A_damperlaw15_within) (args := [.v (.int .i64 p0), .v (.int .i64 p1)]) (by kernel_rfl) (by kernel_rfl) ((congrFun (D_damperlaw15_within p0 p1 K) w).mpr h)
def A_damperref1_Digits : Ann := .auto
def F_damperref1_Digits (p0 : Int) (K : Value → PT) : PT :=
 L.ite (decide (p0 < 0)) (
  L.call Pr n_damperref1_Digits [.int .i64 (IntKind.wrap .i64 (0 - p0))] (.one (.one (.str))) fun (x1 : ByteArray) =>
  L.guard (((s___b5d2.size + x1.size : Nat) : Int) ≤ maxI64) <|
  K (.string (s___b5d2 ++ x1))) <|
 L.ite (decide (p0 ≥ 10)) (
  L.guard (10 ≠ (0 : Int)) <|
  L.call Pr n_damperref1_Digits [.int .i64 (IntKind.wrap .i64 (Int.tdiv p0 10))] (.one (.one (.str))) fun (x2 : ByteArray) =>
  L.guard (10 ≠ (0 : Int)) <|
  L.call Pr n_damperref1_Digits [.int .i64 (Int.tmod p0 10)] (.one (.one (.str))) fun (x3 : ByteArray) =>
  L.guard (((x2.size + x3.size : Nat) : Int) ≤ maxI64) <|
  K (.string (x2 ++ x3))) <|
 L.new [.int .u8 (IntKind.wrap .u8 (IntKind.wrap .i64 (48 + p0)))] T_uint8 fun b4 =>
 L.sem Pr (.one (.one (.str))) (convert T_s_uint8 T_string (.slice (some ⟨b4, 0, none⟩) 1 1)) fun (x5 : ByteArray) =>
 K (.string x5)
theorem D_damperref1_Digits (p0 : Int) (K : Value → PT) : denF Pr Dt Tryz.f11 A_damperref1_Digits [.v (.int .i64 p0)] K = F_damperref1_Digits p0 K := by kernel_rfl
theorem C_damperref1_Digits (p0 : Int) {K : Value → PT} {w : World} (h : F_damperref1_Digits p0 K w) : Calls Pr n_damperref1_Digits [.int .i64 p0].toArray w fun e w2 => ∃ v, e = .returned v ∧ K v w2 :=
  denF_ok Tok (f := 11) (fn := Tryz.f11) (an := A_damperref1_Digits) (args := [.v (.int .i64 p0)]) (by kernel_rfl) (by kernel_rfl) ((congrFun (D_damperref1_Digits p0 K) w).mpr h)
def A_system_System_Do : Ann := .auto
def F_system_System_Do (p0 : Option Addr) (p1 : HT [.int .i64, .str, .str, .int .i64, .int .i64, .str, .int .i64, .int .i64, .int .i64, .int .i64, .int .i64, .str, .str, .slice, .int .i64]) (K : Value → PT) : PT :=
 L.new [.int .i64 p1.1, .string p1.2.1, .string p1.2.2.1, .int .i64 p1.2.2.2.1, .int .i64 p1.2.2.2.2.1, .string p1.2.2.2.2.2.1, .int .i64 p1.2.2.2.2.2.2.1, .int .i64 p1.2.2.2.2.2.2.2.1, .int .i64 p1.2.2.2.2.2.2.2.2.1, .int .i64 p1.2.2.2.2.2.2.2.2.2.1, .int .i64 p1.2.2.2.2.2.2.2.2.2.2.1, .string p1.2.2.2.2.2.2.2.2.2.2.2.1, .string p1.2.2.2.2.2.2.2.2.2.2.2.2.1, .slice p1.2.2.2.2.2.2.2.2.2.2.2.2.2.1.a p1.2.2.2.2.2.2.2.2.2.2.2.2.2.1.len p1.2.2.2.2.2.2.2.2.2.2.2.2.2.1.cap, .int .i64 p1.2.2.2.2.2.2.2.2.2.2.2.2.2.2.1] T_api_Event fun b1 =>
 L.load (.agg [.int .i64, .str, .str, .int .i64, .int .i64, .str, .int .i64, .int .i64, .int .i64, .int .i64, .int .i64, .str, .str, .slice, .int .i64]) (⟨b1, 0, none⟩) fun (x2 : Int × ByteArray × ByteArray × Int × Int × ByteArray × Int × Int × Int × Int × Int × ByteArray × ByteArray × Sl × Int × Unit) =>
 L.call Pr n_event_Check [.agg #[.int .i64 x2.1, .string x2.2.1, .string x2.2.2.1, .int .i64 x2.2.2.2.1, .int .i64 x2.2.2.2.2.1, .string x2.2.2.2.2.2.1, .int .i64 x2.2.2.2.2.2.2.1, .int .i64 x2.2.2.2.2.2.2.2.1, .int .i64 x2.2.2.2.2.2.2.2.2.1, .int .i64 x2.2.2.2.2.2.2.2.2.2.1, .int .i64 x2.2.2.2.2.2.2.2.2.2.2.1, .string x2.2.2.2.2.2.2.2.2.2.2.2.1, .string x2.2.2.2.2.2.2.2.2.2.2.2.2.1, .slice x2.2.2.2.2.2.2.2.2.2.2.2.2.2.1.a x2.2.2.2.2.2.2.2.2.2.2.2.2.2.1.len x2.2.2.2.2.2.2.2.2.2.2.2.2.2.1.cap, .int .i64 x2.2.2.2.2.2.2.2.2.2.2.2.2.2.2.1]] (.one (.one (.int .i64))) fun (x3 : Int) =>
 L.ite (x3 != 0) (
  L.call Pr n_api_Errno_Error [.int .i64 x3] (.one (.one (.str))) fun (x4 : ByteArray) =>
  L.new [.string x4] T_string fun b5 =>
  L.call Pr n_system_line_string [.string s_bad, .slice (some ⟨b5, 0, none⟩) 1 1] (.one (.one (.str))) fun (x6 : ByteArray) =>
  L.new [.string x6] T_string fun b7 =>
  K (.slice (some ⟨b7, 0, none⟩) 1 1)) <|
 L.sem Pr (.one (.one .map)) (Instr.makeMap T_map_int_func_api_Event_s_string none) fun (m8 : Option Nat) =>
 L.semU Pr (Instr.mapUpdate T_map_int_func_api_Event_s_string (.map m8) (.int .i64 1) (.func (.func n_system_System_config) #[.pointer p0] #[])) <|
 L.semU Pr (Instr.mapUpdate T_map_int_func_api_Event_s_string (.map m8) (.int .i64 2) (.func (.func n_system_System_route) #[.pointer p0] #[])) <|
 L.semU Pr (Instr.mapUpdate T_map_int_func_api_Event_s_string (.map m8) (.int .i64 3) (.func (.func n_system_System_drop) #[.pointer p0] #[])) <|
 L.semU Pr (Instr.mapUpdate T_map_int_func_api_Event_s_string (.map m8) (.int .i64 4) (.func (.func n_system_System_arrive) #[.pointer p0] #[])) <|
 L.semU Pr (Instr.mapUpdate T_map_int_func_api_Event_s_string (.map m8) (.int .i64 5) (.func (.func n_system_System_done) #[.pointer p0] #[])) <|
 L.semU Pr (Instr.mapUpdate T_map_int_func_api_Event_s_string (.map m8) (.int .i64 6) (.func (.func n_system_System_up) #[.pointer p0] #[])) <|
 L.semU Pr (Instr.mapUpdate T_map_int_func_api_Event_s_string (.map m8) (.int .i64 7) (.func (.func n_system_System_down) #[.pointer p0] #[])) <|
 L.semU Pr (Instr.mapUpdate T_map_int_func_api_Event_s_string (.map m8) (.int .i64 8) (.func (.func n_system_System_down) #[.pointer p0] #[])) <|
 L.semU Pr (Instr.mapUpdate T_map_int_func_api_Event_s_string (.map m8) (.int .i64 9) (.func (.func n_system_System_tick) #[.pointer p0] #[])) <|
 L.semU Pr (Instr.mapUpdate T_map_int_func_api_Event_s_string (.map m8) (.int .i64 10) (.func (.func n_system_System_stamp) #[.pointer p0] #[])) <|
 L.semU Pr (Instr.mapUpdate T_map_int_func_api_Event_s_string (.map m8) (.int .i64 11) (.func (.func n_system_System_lead) #[.pointer p0] #[])) <|
 L.semU Pr (Instr.mapUpdate T_map_int_func_api_Event_s_string (.map m8) (.int .i64 12) (.func (.func n_system_System_scale) #[.pointer p0] #[])) <|
 L.semU Pr (Instr.mapUpdate T_map_int_func_api_Event_s_string (.map m8) (.int .i64 13) (.func (.func n_system_System_pods) #[.pointer p0] #[])) <|
 L.load (.one (.int .i64)) ((⟨b1, 0, none⟩ : Addr).add 0) fun (x9 : Int) =>
 L.semR Pr (.one (.one (.func))) (Instr.lookup T_map_int_func_api_Event_s_string (.map m8) (.int .i64 x9) false) fun (x10 : FV) =>
 L.load (.agg [.int .i64, .str, .str, .int .i64, .int .i64, .str, .int .i64, .int .i64, .int .i64, .int .i64, .int .i64, .str, .str, .slice, .int .i64]) (⟨b1, 0, none⟩) fun (x11 : Int × ByteArray × ByteArray × Int × Int × ByteArray × Int × Int × Int × Int × Int × ByteArray × ByteArray × Sl × Int × Unit) =>
 L.callV Pr (.func x10.fn x10.fs x10.cs) [.agg #[.int .i64 x11.1, .string x11.2.1, .string x11.2.2.1, .int .i64 x11.2.2.2.1, .int .i64 x11.2.2.2.2.1, .string x11.2.2.2.2.2.1, .int .i64 x11.2.2.2.2.2.2.1, .int .i64 x11.2.2.2.2.2.2.2.1, .int .i64 x11.2.2.2.2.2.2.2.2.1, .int .i64 x11.2.2.2.2.2.2.2.2.2.1, .int .i64 x11.2.2.2.2.2.2.2.2.2.2.1, .string x11.2.2.2.2.2.2.2.2.2.2.2.1, .string x11.2.2.2.2.2.2.2.2.2.2.2.2.1, .slice x11.2.2.2.2.2.2.2.2.2.2.2.2.2.1.a x11.2.2.2.2.2.2.2.2.2.2.2.2.2.1.len x11.2.2.2.2.2.2.2.2.2.2.2.2.2.1.cap, .int .i64 x11.2.2.2.2.2.2.2.2.2.2.2.2.2.2.1]] (.one (.one (.slice))) fun (x12 : Sl) =>
 K (.slice x12.a x12.len x12.cap)
theorem D_system_System_Do (p0 : Option Addr) (p1 : HT [.int .i64, .str, .str, .int .i64, .int .i64, .str, .int .i64, .int .i64, .int .i64, .int .i64, .int .i64, .str, .str, .slice, .int .i64]) (K : Value → PT) : denF Pr Dt Tryz.f12 A_system_System_Do [.v (.pointer p0), .ag [.int .i64 p1.1, .string p1.2.1, .string p1.2.2.1, .int .i64 p1.2.2.2.1, .int .i64 p1.2.2.2.2.1, .string p1.2.2.2.2.2.1, .int .i64 p1.2.2.2.2.2.2.1, .int .i64 p1.2.2.2.2.2.2.2.1, .int .i64 p1.2.2.2.2.2.2.2.2.1, .int .i64 p1.2.2.2.2.2.2.2.2.2.1, .int .i64 p1.2.2.2.2.2.2.2.2.2.2.1, .string p1.2.2.2.2.2.2.2.2.2.2.2.1, .string p1.2.2.2.2.2.2.2.2.2.2.2.2.1, .slice p1.2.2.2.2.2.2.2.2.2.2.2.2.2.1.a p1.2.2.2.2.2.2.2.2.2.2.2.2.2.1.len p1.2.2.2.2.2.2.2.2.2.2.2.2.2.1.cap, .int .i64 p1.2.2.2.2.2.2.2.2.2.2.2.2.2.2.1]] K = F_system_System_Do p0 p1 K := by kernel_rfl
theorem C_system_System_Do (p0 : Option Addr) (p1 : HT [.int .i64, .str, .str, .int .i64, .int .i64, .str, .int .i64, .int .i64, .int .i64, .int .i64, .int .i64, .str, .str, .slice, .int .i64]) {K : Value → PT} {w : World} (h : F_system_System_Do p0 p1 K w) : Calls Pr n_system_System_Do [.pointer p0, (.ag [.int .i64 p1.1, .string p1.2.1, .string p1.2.2.1, .int .i64 p1.2.2.2.1, .int .i64 p1.2.2.2.2.1, .string p1.2.2.2.2.2.1, .int .i64 p1.2.2.2.2.2.2.1, .int .i64 p1.2.2.2.2.2.2.2.1, .int .i64 p1.2.2.2.2.2.2.2.2.1, .int .i64 p1.2.2.2.2.2.2.2.2.2.1, .int .i64 p1.2.2.2.2.2.2.2.2.2.2.1, .string p1.2.2.2.2.2.2.2.2.2.2.2.1, .string p1.2.2.2.2.2.2.2.2.2.2.2.2.1, .slice p1.2.2.2.2.2.2.2.2.2.2.2.2.2.1.a p1.2.2.2.2.2.2.2.2.2.2.2.2.2.1.len p1.2.2.2.2.2.2.2.2.2.2.2.2.2.1.cap, .int .i64 p1.2.2.2.2.2.2.2.2.2.2.2.2.2.2.1] : SV).toV].toArray w fun e w2 => ∃ v, e = .returned v ∧ K v w2 :=
  denF_ok Tok (f := 12) (fn := Tryz.f12) (an := A_system_System_Do) (args := [.v (.pointer p0), .ag [.int .i64 p1.1, .string p1.2.1, .string p1.2.2.1, .int .i64 p1.2.2.2.1, .int .i64 p1.2.2.2.2.1, .string p1.2.2.2.2.2.1, .int .i64 p1.2.2.2.2.2.2.1, .int .i64 p1.2.2.2.2.2.2.2.1, .int .i64 p1.2.2.2.2.2.2.2.2.1, .int .i64 p1.2.2.2.2.2.2.2.2.2.1, .int .i64 p1.2.2.2.2.2.2.2.2.2.2.1, .string p1.2.2.2.2.2.2.2.2.2.2.2.1, .string p1.2.2.2.2.2.2.2.2.2.2.2.2.1, .slice p1.2.2.2.2.2.2.2.2.2.2.2.2.2.1.a p1.2.2.2.2.2.2.2.2.2.2.2.2.2.1.len p1.2.2.2.2.2.2.2.2.2.2.2.2.2.1.cap, .int .i64 p1.2.2.2.2.2.2.2.2.2.2.2.2.2.2.1]]) (by kernel_rfl) (by kernel_rfl) ((congrFun (D_system_System_Do p0 p1 K) w).mpr h)
def A_system_System_Now : Ann := .auto
def F_system_System_Now (p0 : Option Addr) (K : Value → PT) : PT :=
 L.nonnil p0 fun a1 =>
 L.load (.one (.int .i64)) (a1.add 6) fun (x2 : Int) =>
 K (.int .i64 x2)
theorem D_system_System_Now (p0 : Option Addr) (K : Value → PT) : denF Pr Dt Tryz.f16 A_system_System_Now [.v (.pointer p0)] K = F_system_System_Now p0 K := by kernel_rfl
theorem C_system_System_Now (p0 : Option Addr) {K : Value → PT} {w : World} (h : F_system_System_Now p0 K w) : Calls Pr n_system_System_Now [.pointer p0].toArray w fun e w2 => ∃ v, e = .returned v ∧ K v w2 :=
  denF_ok Tok (f := 16) (fn := Tryz.f16) (an := A_system_System_Now) (args := [.v (.pointer p0)]) (by kernel_rfl) (by kernel_rfl) ((congrFun (D_system_System_Now p0 K) w).mpr h)
def A_damperref1_Rev : Ann := .auto
def F_damperref1_Rev (p0 : ByteArray) (p1 : Int) (K : Value → PT) : PT :=
 L.call Pr n_damperref1_Name [.string p0] (.one (.one (.bool))) fun (x1 : Bool) =>
 L.ite (!x1) (
  K (.string s_)) <|
 L.ite (decide (p1 < 1)) (
  K (.string s_)) <|
 L.ite (decide (p1 > 999999)) (
  K (.string s_)) <|
 L.guard (((p0.size + s___b5d2.size : Nat) : Int) ≤ maxI64) <|
 L.call Pr n_damperref1_Digits [.int .i64 p1] (.one (.one (.str))) fun (x2 : ByteArray) =>
 L.guard ((((p0 ++ s___b5d2).size + x2.size : Nat) : Int) ≤ maxI64) <|
 K (.string ((p0 ++ s___b5d2) ++ x2))
theorem D_damperref1_Rev (p0 : ByteArray) (p1 : Int) (K : Value → PT) : denF Pr Dt Tryz.f17 A_damperref1_Rev [.v (.string p0), .v (.int .i64 p1)] K = F_damperref1_Rev p0 p1 K := by kernel_rfl
theorem C_damperref1_Rev (p0 : ByteArray) (p1 : Int) {K : Value → PT} {w : World} (h : F_damperref1_Rev p0 p1 K w) : Calls Pr n_damperref1_Rev [.string p0, .int .i64 p1].toArray w fun e w2 => ∃ v, e = .returned v ∧ K v w2 :=
  denF_ok Tok (f := 17) (fn := Tryz.f17) (an := A_damperref1_Rev) (args := [.v (.string p0), .v (.int .i64 p1)]) (by kernel_rfl) (by kernel_rfl) ((congrFun (D_damperref1_Rev p0 p1 K) w).mpr h)
def A_system_System_Revisions : Ann := .auto
def F_system_System_Revisions (p0 : Option Addr) (K : Value → PT) : PT :=
 L.nonnil p0 fun a1 =>
 L.load (.one (.ptr)) (a1.add 1) fun (x2 : Option Addr) =>
 L.call Pr n_stamp_Book_All [.pointer x2] (.one (.one (.slice))) fun (x3 : Sl) =>
 K (.slice x3.a x3.len x3.cap)
theorem D_system_System_Revisions (p0 : Option Addr) (K : Value → PT) : denF Pr Dt Tryz.f18 A_system_System_Revisions [.v (.pointer p0)] K = F_system_System_Revisions p0 K := by kernel_rfl
theorem C_system_System_Revisions (p0 : Option Addr) {K : Value → PT} {w : World} (h : F_system_System_Revisions p0 K w) : Calls Pr n_system_System_Revisions [.pointer p0].toArray w fun e w2 => ∃ v, e = .returned v ∧ K v w2 :=
  denF_ok Tok (f := 18) (fn := Tryz.f18) (an := A_system_System_Revisions) (args := [.v (.pointer p0)]) (by kernel_rfl) (by kernel_rfl) ((congrFun (D_system_System_Revisions p0 K) w).mpr h)
def A_system_within_int : Ann := .auto
def F_system_within_int (p0 : Int) (p1 : Int) (p2 : Int) (K : Value → PT) : PT :=
 L.ite (decide (p0 ≥ p1)) (
  K (.bool (decide (p0 ≤ p2)))) <|
 K (.bool false)
theorem D_system_within_int (p0 : Int) (p1 : Int) (p2 : Int) (K : Value → PT) : denF Pr Dt Tryz.f20 A_system_within_int [.v (.int .i64 p0), .v (.int .i64 p1), .v (.int .i64 p2)] K = F_system_within_int p0 p1 p2 K := by kernel_rfl
theorem C_system_within_int (p0 : Int) (p1 : Int) (p2 : Int) {K : Value → PT} {w : World} (h : F_system_within_int p0 p1 p2 K w) : Calls Pr n_system_within_int [.int .i64 p0, .int .i64 p1, .int .i64 p2].toArray w fun e w2 => ∃ v, e = .returned v ∧ K v w2 :=
  denF_ok Tok (f := 20) (fn := Tryz.f20) (an := A_system_within_int) (args := [.v (.int .i64 p0), .v (.int .i64 p1), .v (.int .i64 p2)]) (by kernel_rfl) (by kernel_rfl) ((congrFun (D_system_within_int p0 p1 p2 K) w).mpr h)
def A_fleet_New : Ann := .auto
def F_fleet_New (p0 : Int) (K : Value → PT) : PT :=
 L.sem Pr (.one (.one .map)) (Instr.makeMap T_map_int_fleet_one none) fun (m1 : Option Nat) =>
 L.sem Pr (.one (.one .map)) (Instr.makeMap T_map_int_int none) fun (m2 : Option Nat) =>
 L.new [.map m1, .map m2, .int .i64 p0, .int .i64 0] T_fleet_Fleet fun b3 =>
 K (.pointer (some (⟨b3, 0, none⟩)))
theorem D_fleet_New (p0 : Int) (K : Value → PT) : denF Pr Dt Tryz.f21 A_fleet_New [.v (.int .i64 p0)] K = F_fleet_New p0 K := by kernel_rfl
theorem C_fleet_New (p0 : Int) {K : Value → PT} {w : World} (h : F_fleet_New p0 K w) : Calls Pr n_fleet_New [.int .i64 p0].toArray w fun e w2 => ∃ v, e = .returned v ∧ K v w2 :=
  denF_ok Tok (f := 21) (fn := Tryz.f21) (an := A_fleet_New) (args := [.v (.int .i64 p0)]) (by kernel_rfl) (by kernel_rfl) ((congrFun (D_fleet_New p0 K) w).mpr h)
def A_shelf_New : Ann := .auto
def F_shelf_New  (K : Value → PT) : PT :=
 L.call Pr n_shelf_made_api_Config [.func (.func n_shelf_New_1) #[] #[]] (.one (.one (.ptr))) fun (x1 : Option Addr) =>
 L.call Pr n_shelf_made_api_Route [.func (.func n_spec_SameRoute) #[] #[]] (.one (.one (.ptr))) fun (x2 : Option Addr) =>
 L.new [.pointer x1, .pointer x2, .int .i64 0] T_shelf_Shelf fun b3 =>
 K (.pointer (some (⟨b3, 0, none⟩)))
theorem D_shelf_New  (K : Value → PT) : denF Pr Dt Tryz.f22 A_shelf_New [] K = F_shelf_New  K := by kernel_rfl
theorem C_shelf_New  {K : Value → PT} {w : World} (h : F_shelf_New  K w) : Calls Pr n_shelf_New [].toArray w fun e w2 => ∃ v, e = .returned v ∧ K v w2 :=
  denF_ok Tok (f := 22) (fn := Tryz.f22) (an := A_shelf_New) (args := []) (by kernel_rfl) (by kernel_rfl) ((congrFun (D_shelf_New  K) w).mpr h)
def A_stamp_New : Ann := .auto
def F_stamp_New  (K : Value → PT) : PT :=
 L.sem Pr (.one (.one .map)) (Instr.makeMap T_stamp_shelf_api_Revision none) fun (m1 : Option Nat) =>
 L.sem Pr (.one (.one .map)) (Instr.makeMap T_stamp_shelf_bool none) fun (m2 : Option Nat) =>
 L.new [.map m1, .map m2] T_stamp_Book fun b3 =>
 K (.pointer (some (⟨b3, 0, none⟩)))
theorem D_stamp_New  (K : Value → PT) : denF Pr Dt Tryz.f23 A_stamp_New [] K = F_stamp_New  K := by kernel_rfl
theorem C_stamp_New  {K : Value → PT} {w : World} (h : F_stamp_New  K w) : Calls Pr n_stamp_New [].toArray w fun e w2 => ∃ v, e = .returned v ∧ K v w2 :=
  denF_ok Tok (f := 23) (fn := Tryz.f23) (an := A_stamp_New) (args := []) (by kernel_rfl) (by kernel_rfl) ((congrFun (D_stamp_New  K) w).mpr h)
def A_lead_New : Ann := .auto
def F_lead_New  (K : Value → PT) : PT :=
 L.sem Pr (.one (.one .map)) (Instr.makeMap T_map_string_lead_way none) fun (m1 : Option Nat) =>
 L.new [.map m1] T_lead_Roller fun b2 =>
 K (.pointer (some (⟨b2, 0, none⟩)))
theorem D_lead_New  (K : Value → PT) : denF Pr Dt Tryz.f24 A_lead_New [] K = F_lead_New  K := by kernel_rfl
theorem C_lead_New  {K : Value → PT} {w : World} (h : F_lead_New  K w) : Calls Pr n_lead_New [].toArray w fun e w2 => ∃ v, e = .returned v ∧ K v w2 :=
  denF_ok Tok (f := 24) (fn := Tryz.f24) (an := A_lead_New) (args := []) (by kernel_rfl) (by kernel_rfl) ((congrFun (D_lead_New  K) w).mpr h)
def A_gate_New : Ann := .auto
def F_gate_New (p0 : Option Addr) (p1 : Int) (p2 : Int) (K : Value → PT) : PT :=
 L.new [.int .i64 p1] T_int fun b1 =>
 L.sem Pr (.one (.one .map)) (Instr.makeMap T_map_int_gate_request none) fun (m2 : Option Nat) =>
 L.sem Pr (.one (.one .map)) (Instr.makeMap T_map_string_p_wait_Line none) fun (m3 : Option Nat) =>
 L.load (.one (.int .i64)) (⟨b1, 0, none⟩) fun (x4 : Int) =>
 L.new [.pointer p0, .map m2, .map m3, .func (.func n_gate_New_1) #[] #[.pointer (some (⟨b1, 0, none⟩))], .int .i64 x4, .int .i64 p2] T_gate_Gate fun b5 =>
 K (.pointer (some (⟨b5, 0, none⟩)))
theorem D_gate_New (p0 : Option Addr) (p1 : Int) (p2 : Int) (K : Value → PT) : denF Pr Dt Tryz.f25 A_gate_New [.v (.pointer p0), .v (.int .i64 p1), .v (.int .i64 p2)] K = F_gate_New p0 p1 p2 K := by kernel_rfl
theorem C_gate_New (p0 : Option Addr) (p1 : Int) (p2 : Int) {K : Value → PT} {w : World} (h : F_gate_New p0 p1 p2 K w) : Calls Pr n_gate_New [.pointer p0, .int .i64 p1, .int .i64 p2].toArray w fun e w2 => ∃ v, e = .returned v ∧ K v w2 :=
  denF_ok Tok (f := 25) (fn := Tryz.f25) (an := A_gate_New) (args := [.v (.pointer p0), .v (.int .i64 p1), .v (.int .i64 p2)]) (by kernel_rfl) (by kernel_rfl) ((congrFun (D_gate_New p0 p1 p2 K) w).mpr h)
def A_event_Check : Ann := (.seq .auto (.seq .auto (.seq .auto (.seq (.seq .auto .auto (some [(61, (.one (.bool)))])) (.seq (.seq .auto (.cond .auto (.seq .auto (.cond .auto (.seq .auto (.cond .auto (.seq .auto (.cond .auto .auto) none)) none)) none)) none) .auto (some [])) none) none) none) none)
def F_event_Check (p0 : HT [.int .i64, .str, .str, .int .i64, .int .i64, .str, .int .i64, .int .i64, .int .i64, .int .i64, .int .i64, .str, .str, .slice, .int .i64]) (K : Value → PT) : PT :=
 L.new [.int .i64 p0.1, .string p0.2.1, .string p0.2.2.1, .int .i64 p0.2.2.2.1, .int .i64 p0.2.2.2.2.1, .string p0.2.2.2.2.2.1, .int .i64 p0.2.2.2.2.2.2.1, .int .i64 p0.2.2.2.2.2.2.2.1, .int .i64 p0.2.2.2.2.2.2.2.2.1, .int .i64 p0.2.2.2.2.2.2.2.2.2.1, .int .i64 p0.2.2.2.2.2.2.2.2.2.2.1, .string p0.2.2.2.2.2.2.2.2.2.2.2.1, .string p0.2.2.2.2.2.2.2.2.2.2.2.2.1, .slice p0.2.2.2.2.2.2.2.2.2.2.2.2.2.1.a p0.2.2.2.2.2.2.2.2.2.2.2.2.2.1.len p0.2.2.2.2.2.2.2.2.2.2.2.2.2.1.cap, .int .i64 p0.2.2.2.2.2.2.2.2.2.2.2.2.2.2.1] T_api_Event fun b1 =>
 L.load (.one (.int .i64)) ((⟨b1, 0, none⟩ : Addr).add 0) fun (x2 : Int) =>
 L.call Pr n_event_shape [.int .i64 x2] (.tup [(.agg [.bool, .bool, .bool, .bool, .bool, .bool]), (.one (.bool))]) fun (x3 : (Bool × Bool × Bool × Bool × Bool × Bool × Unit) × Bool × Unit) =>
 L.new [.bool false, .bool false, .bool false, .bool false, .bool false, .bool false] T_event_has fun b4 =>
 L.store (⟨b4, 0, none⟩) [.bool x3.1.1, .bool x3.1.2.1, .bool x3.1.2.2.1, .bool x3.1.2.2.2.1, .bool x3.1.2.2.2.2.1, .bool x3.1.2.2.2.2.2.1] <|
 L.ite (!x3.2.1) (
  K (.int .i64 12)) <|
 L.join (Y := Bool × Unit) (fun k5 =>
  L.load (.one (.bool)) ((⟨b4, 0, none⟩ : Addr).add 0) fun (x7 : Bool) =>
  L.load (.one (.int .i64)) ((⟨b1, 0, none⟩ : Addr).add 3) fun (x8 : Int) =>
  L.call Pr n_event_none_int [.bool x7, .int .i64 x8] (.one (.one (.bool))) fun (x9 : Bool) =>
  L.ite (!x9) (
   k5 (true, ())) <|
  L.load (.one (.bool)) ((⟨b4, 0, none⟩ : Addr).add 1) fun (x10 : Bool) =>
  L.load (.one (.str)) ((⟨b1, 0, none⟩ : Addr).add 1) fun (x11 : ByteArray) =>
  L.call Pr n_event_none_string [.bool x10, .string x11] (.one (.one (.bool))) fun (x12 : Bool) =>
  L.ite (!x12) (
   k5 (true, ())) <|
  L.load (.one (.bool)) ((⟨b4, 0, none⟩ : Addr).add 2) fun (x13 : Bool) =>
  L.load (.one (.str)) ((⟨b1, 0, none⟩ : Addr).add 2) fun (x14 : ByteArray) =>
  L.call Pr n_event_none_string [.bool x13, .string x14] (.one (.one (.bool))) fun (x15 : Bool) =>
  L.ite (!x15) (
   k5 (true, ())) <|
  L.load (.one (.bool)) ((⟨b4, 0, none⟩ : Addr).add 3) fun (x16 : Bool) =>
  L.load (.one (.int .i64)) ((⟨b1, 0, none⟩ : Addr).add 4) fun (x17 : Int) =>
  L.call Pr n_event_none_int [.bool x16, .int .i64 x17] (.one (.one (.bool))) fun (x18 : Bool) =>
  L.ite (!x18) (
   k5 (true, ())) <|
  L.load (.one (.bool)) ((⟨b4, 0, none⟩ : Addr).add 4) fun (x19 : Bool) =>
  L.load (.agg [.str, .int .i64, .int .i64, .int .i64, .int .i64, .int .i64]) ((⟨b1, 0, none⟩ : Addr).add 5) fun (x20 : ByteArray × Int × Int × Int × Int × Int × Unit) =>
  L.call Pr n_event_none_api_Config [.bool x19, .agg #[.string x20.1, .int .i64 x20.2.1, .int .i64 x20.2.2.1, .int .i64 x20.2.2.2.1, .int .i64 x20.2.2.2.2.1, .int .i64 x20.2.2.2.2.2.1]] (.one (.one (.bool))) fun (x21 : Bool) =>
  L.ite (!x21) (
   k5 (true, ())) <|
  L.load (.one (.bool)) ((⟨b4, 0, none⟩ : Addr).add 5) fun (x22 : Bool) =>
  L.ite (!x22) (
   L.load (.agg [.str, .str, .slice, .int .i64]) ((⟨b1, 0, none⟩ : Addr).add 11) fun (x23 : ByteArray × ByteArray × Sl × Int × Unit) =>
   L.call Pr n_event_bare [.agg #[.string x23.1, .string x23.2.1, .slice x23.2.2.1.a x23.2.2.1.len x23.2.2.1.cap, .int .i64 x23.2.2.2.1]] (.one (.one (.bool))) fun (x24 : Bool) =>
   k5 (!x24, ())) <|
  k5 (false, ())) fun z6 =>
 L.ite z6.1 (
  K (.int .i64 2)) <|
 L.join (Y := Unit) (fun k25 =>
  L.load (.one (.bool)) ((⟨b4, 0, none⟩ : Addr).add 0) fun (x27 : Bool) =>
  L.ite x27 (
   L.load (.agg [.int .i64, .str, .str, .int .i64, .int .i64, .str, .int .i64, .int .i64, .int .i64, .int .i64, .int .i64, .str, .str, .slice, .int .i64]) (⟨b1, 0, none⟩) fun (x28 : Int × ByteArray × ByteArray × Int × Int × ByteArray × Int × Int × Int × Int × Int × ByteArray × ByteArray × Sl × Int × Unit) =>
   L.call Pr n_event_number [.agg #[.int .i64 x28.1, .string x28.2.1, .string x28.2.2.1, .int .i64 x28.2.2.2.1, .int .i64 x28.2.2.2.2.1, .string x28.2.2.2.2.2.1, .int .i64 x28.2.2.2.2.2.2.1, .int .i64 x28.2.2.2.2.2.2.2.1, .int .i64 x28.2.2.2.2.2.2.2.2.1, .int .i64 x28.2.2.2.2.2.2.2.2.2.1, .int .i64 x28.2.2.2.2.2.2.2.2.2.2.1, .string x28.2.2.2.2.2.2.2.2.2.2.2.1, .string x28.2.2.2.2.2.2.2.2.2.2.2.2.1, .slice x28.2.2.2.2.2.2.2.2.2.2.2.2.2.1.a x28.2.2.2.2.2.2.2.2.2.2.2.2.2.1.len x28.2.2.2.2.2.2.2.2.2.2.2.2.2.1.cap, .int .i64 x28.2.2.2.2.2.2.2.2.2.2.2.2.2.2.1]] (.one (.one (.bool))) fun (x29 : Bool) =>
   L.ite (!x29) (
    K (.int .i64 2)) <|
   L.load (.one (.bool)) ((⟨b4, 0, none⟩ : Addr).add 1) fun (x30 : Bool) =>
   L.ite x30 (
    L.load (.agg [.int .i64, .str, .str, .int .i64, .int .i64, .str, .int .i64, .int .i64, .int .i64, .int .i64, .int .i64, .str, .str, .slice, .int .i64]) (⟨b1, 0, none⟩) fun (x31 : Int × ByteArray × ByteArray × Int × Int × ByteArray × Int × Int × Int × Int × Int × ByteArray × ByteArray × Sl × Int × Unit) =>
    L.call Pr n_event_named [.agg #[.int .i64 x31.1, .string x31.2.1, .string x31.2.2.1, .int .i64 x31.2.2.2.1, .int .i64 x31.2.2.2.2.1, .string x31.2.2.2.2.2.1, .int .i64 x31.2.2.2.2.2.2.1, .int .i64 x31.2.2.2.2.2.2.2.1, .int .i64 x31.2.2.2.2.2.2.2.2.1, .int .i64 x31.2.2.2.2.2.2.2.2.2.1, .int .i64 x31.2.2.2.2.2.2.2.2.2.2.1, .string x31.2.2.2.2.2.2.2.2.2.2.2.1, .string x31.2.2.2.2.2.2.2.2.2.2.2.2.1, .slice x31.2.2.2.2.2.2.2.2.2.2.2.2.2.1.a x31.2.2.2.2.2.2.2.2.2.2.2.2.2.1.len x31.2.2.2.2.2.2.2.2.2.2.2.2.2.1.cap, .int .i64 x31.2.2.2.2.2.2.2.2.2.2.2.2.2.2.1]] (.one (.one (.bool))) fun (x32 : Bool) =>
    L.ite (!x32) (
     K (.int .i64 1)) <|
    L.load (.one (.bool)) ((⟨b4, 0, none⟩ : Addr).add 2) fun (x33 : Bool) =>
    L.ite x33 (
     L.load (.one (.str)) ((⟨b1, 0, none⟩ : Addr).add 2) fun (x34 : ByteArray) =>
     L.ite (!(x34.toList == s_.toList)) (
      L.load (.one (.str)) ((⟨b1, 0, none⟩ : Addr).add 2) fun (x35 : ByteArray) =>
      L.call Pr n_label_Tag [.string x35] (.one (.one (.bool))) fun (x36 : Bool) =>
      L.ite (!x36) (
       K (.int .i64 1)) <|
      L.load (.one (.bool)) ((⟨b4, 0, none⟩ : Addr).add 3) fun (x37 : Bool) =>
      L.ite x37 (
       L.load (.one (.int .i64)) ((⟨b1, 0, none⟩ : Addr).add 4) fun (x38 : Int) =>
       L.call Pr n_event_within [.int .i64 x38, .int .i64 0, .int .i64 2147483647] (.one (.one (.bool))) fun (x39 : Bool) =>
       L.ite (!x39) (
        K (.int .i64 2)) <|
       L.load (.one (.bool)) ((⟨b4, 0, none⟩ : Addr).add 4) fun (x40 : Bool) =>
       L.ite x40 (
        L.load (.agg [.str, .int .i64, .int .i64, .int .i64, .int .i64, .int .i64]) ((⟨b1, 0, none⟩ : Addr).add 5) fun (x41 : ByteArray × Int × Int × Int × Int × Int × Unit) =>
        L.call Pr n_spec_Config [.agg #[.string x41.1, .int .i64 x41.2.1, .int .i64 x41.2.2.1, .int .i64 x41.2.2.2.1, .int .i64 x41.2.2.2.2.1, .int .i64 x41.2.2.2.2.2.1]] (.one (.one (.int .i64))) fun (x42 : Int) =>
        K (.int .i64 x42)) <|
       L.load (.one (.bool)) ((⟨b4, 0, none⟩ : Addr).add 5) fun (x43 : Bool) =>
       L.ite x43 (
        L.load (.agg [.str, .str, .slice, .int .i64]) ((⟨b1, 0, none⟩ : Addr).add 11) fun (x44 : ByteArray × ByteArray × Sl × Int × Unit) =>
        L.call Pr n_spec_Route [.agg #[.string x44.1, .string x44.2.1, .slice x44.2.2.1.a x44.2.2.1.len x44.2.2.1.cap, .int .i64 x44.2.2.2.1]] (.one (.one (.int .i64))) fun (x45 : Int) =>
        K (.int .i64 x45)) <|
       k25 (())) <|
      L.load (.one (.bool)) ((⟨b4, 0, none⟩ : Addr).add 4) fun (x46 : Bool) =>
      L.ite x46 (
       L.load (.agg [.str, .int .i64, .int .i64, .int .i64, .int .i64, .int .i64]) ((⟨b1, 0, none⟩ : Addr).add 5) fun (x47 : ByteArray × Int × Int × Int × Int × Int × Unit) =>
       L.call Pr n_spec_Config [.agg #[.string x47.1, .int .i64 x47.2.1, .int .i64 x47.2.2.1, .int .i64 x47.2.2.2.1, .int .i64 x47.2.2.2.2.1, .int .i64 x47.2.2.2.2.2.1]] (.one (.one (.int .i64))) fun (x48 : Int) =>
       K (.int .i64 x48)) <|
      L.load (.one (.bool)) ((⟨b4, 0, none⟩ : Addr).add 5) fun (x49 : Bool) =>
      L.ite x49 (
       L.load (.agg [.str, .str, .slice, .int .i64]) ((⟨b1, 0, none⟩ : Addr).add 11) fun (x50 : ByteArray × ByteArray × Sl × Int × Unit) =>
       L.call Pr n_spec_Route [.agg #[.string x50.1, .string x50.2.1, .slice x50.2.2.1.a x50.2.2.1.len x50.2.2.1.cap, .int .i64 x50.2.2.2.1]] (.one (.one (.int .i64))) fun (x51 : Int) =>
       K (.int .i64 x51)) <|
      k25 (())) <|
     L.load (.one (.bool)) ((⟨b4, 0, none⟩ : Addr).add 3) fun (x52 : Bool) =>
     L.ite x52 (
      L.load (.one (.int .i64)) ((⟨b1, 0, none⟩ : Addr).add 4) fun (x53 : Int) =>
      L.call Pr n_event_within [.int .i64 x53, .int .i64 0, .int .i64 2147483647] (.one (.one (.bool))) fun (x54 : Bool) =>
      L.ite (!x54) (
       K (.int .i64 2)) <|
      L.load (.one (.bool)) ((⟨b4, 0, none⟩ : Addr).add 4) fun (x55 : Bool) =>
      L.ite x55 (
       L.load (.agg [.str, .int .i64, .int .i64, .int .i64, .int .i64, .int .i64]) ((⟨b1, 0, none⟩ : Addr).add 5) fun (x56 : ByteArray × Int × Int × Int × Int × Int × Unit) =>
       L.call Pr n_spec_Config [.agg #[.string x56.1, .int .i64 x56.2.1, .int .i64 x56.2.2.1, .int .i64 x56.2.2.2.1, .int .i64 x56.2.2.2.2.1, .int .i64 x56.2.2.2.2.2.1]] (.one (.one (.int .i64))) fun (x57 : Int) =>
       K (.int .i64 x57)) <|
      L.load (.one (.bool)) ((⟨b4, 0, none⟩ : Addr).add 5) fun (x58 : Bool) =>
      L.ite x58 (
       L.load (.agg [.str, .str, .slice, .int .i64]) ((⟨b1, 0, none⟩ : Addr).add 11) fun (x59 : ByteArray × ByteArray × Sl × Int × Unit) =>
       L.call Pr n_spec_Route [.agg #[.string x59.1, .string x59.2.1, .slice x59.2.2.1.a x59.2.2.1.len x59.2.2.1.cap, .int .i64 x59.2.2.2.1]] (.one (.one (.int .i64))) fun (x60 : Int) =>
       K (.int .i64 x60)) <|
      k25 (())) <|
     L.load (.one (.bool)) ((⟨b4, 0, none⟩ : Addr).add 4) fun (x61 : Bool) =>
     L.ite x61 (
      L.load (.agg [.str, .int .i64, .int .i64, .int .i64, .int .i64, .int .i64]) ((⟨b1, 0, none⟩ : Addr).add 5) fun (x62 : ByteArray × Int × Int × Int × Int × Int × Unit) =>
      L.call Pr n_spec_Config [.agg #[.string x62.1, .int .i64 x62.2.1, .int .i64 x62.2.2.1, .int .i64 x62.2.2.2.1, .int .i64 x62.2.2.2.2.1, .int .i64 x62.2.2.2.2.2.1]] (.one (.one (.int .i64))) fun (x63 : Int) =>
      K (.int .i64 x63)) <|
     L.load (.one (.bool)) ((⟨b4, 0, none⟩ : Addr).add 5) fun (x64 : Bool) =>
     L.ite x64 (
      L.load (.agg [.str, .str, .slice, .int .i64]) ((⟨b1, 0, none⟩ : Addr).add 11) fun (x65 : ByteArray × ByteArray × Sl × Int × Unit) =>
      L.call Pr n_spec_Route [.agg #[.string x65.1, .string x65.2.1, .slice x65.2.2.1.a x65.2.2.1.len x65.2.2.1.cap, .int .i64 x65.2.2.2.1]] (.one (.one (.int .i64))) fun (x66 : Int) =>
      K (.int .i64 x66)) <|
     k25 (())) <|
    L.load (.one (.bool)) ((⟨b4, 0, none⟩ : Addr).add 3) fun (x67 : Bool) =>
    L.ite x67 (
     L.load (.one (.int .i64)) ((⟨b1, 0, none⟩ : Addr).add 4) fun (x68 : Int) =>
     L.call Pr n_event_within [.int .i64 x68, .int .i64 0, .int .i64 2147483647] (.one (.one (.bool))) fun (x69 : Bool) =>
     L.ite (!x69) (
      K (.int .i64 2)) <|
     L.load (.one (.bool)) ((⟨b4, 0, none⟩ : Addr).add 4) fun (x70 : Bool) =>
     L.ite x70 (
      L.load (.agg [.str, .int .i64, .int .i64, .int .i64, .int .i64, .int .i64]) ((⟨b1, 0, none⟩ : Addr).add 5) fun (x71 : ByteArray × Int × Int × Int × Int × Int × Unit) =>
      L.call Pr n_spec_Config [.agg #[.string x71.1, .int .i64 x71.2.1, .int .i64 x71.2.2.1, .int .i64 x71.2.2.2.1, .int .i64 x71.2.2.2.2.1, .int .i64 x71.2.2.2.2.2.1]] (.one (.one (.int .i64))) fun (x72 : Int) =>
      K (.int .i64 x72)) <|
     L.load (.one (.bool)) ((⟨b4, 0, none⟩ : Addr).add 5) fun (x73 : Bool) =>
     L.ite x73 (
      L.load (.agg [.str, .str, .slice, .int .i64]) ((⟨b1, 0, none⟩ : Addr).add 11) fun (x74 : ByteArray × ByteArray × Sl × Int × Unit) =>
      L.call Pr n_spec_Route [.agg #[.string x74.1, .string x74.2.1, .slice x74.2.2.1.a x74.2.2.1.len x74.2.2.1.cap, .int .i64 x74.2.2.2.1]] (.one (.one (.int .i64))) fun (x75 : Int) =>
      K (.int .i64 x75)) <|
     k25 (())) <|
    L.load (.one (.bool)) ((⟨b4, 0, none⟩ : Addr).add 4) fun (x76 : Bool) =>
    L.ite x76 (
     L.load (.agg [.str, .int .i64, .int .i64, .int .i64, .int .i64, .int .i64]) ((⟨b1, 0, none⟩ : Addr).add 5) fun (x77 : ByteArray × Int × Int × Int × Int × Int × Unit) =>
     L.call Pr n_spec_Config [.agg #[.string x77.1, .int .i64 x77.2.1, .int .i64 x77.2.2.1, .int .i64 x77.2.2.2.1, .int .i64 x77.2.2.2.2.1, .int .i64 x77.2.2.2.2.2.1]] (.one (.one (.int .i64))) fun (x78 : Int) =>
     K (.int .i64 x78)) <|
    L.load (.one (.bool)) ((⟨b4, 0, none⟩ : Addr).add 5) fun (x79 : Bool) =>
    L.ite x79 (
     L.load (.agg [.str, .str, .slice, .int .i64]) ((⟨b1, 0, none⟩ : Addr).add 11) fun (x80 : ByteArray × ByteArray × Sl × Int × Unit) =>
     L.call Pr n_spec_Route [.agg #[.string x80.1, .string x80.2.1, .slice x80.2.2.1.a x80.2.2.1.len x80.2.2.1.cap, .int .i64 x80.2.2.2.1]] (.one (.one (.int .i64))) fun (x81 : Int) =>
     K (.int .i64 x81)) <|
    k25 (())) <|
   L.load (.one (.bool)) ((⟨b4, 0, none⟩ : Addr).add 2) fun (x82 : Bool) =>
   L.ite x82 (
    L.load (.one (.str)) ((⟨b1, 0, none⟩ : Addr).add 2) fun (x83 : ByteArray) =>
    L.ite (!(x83.toList == s_.toList)) (
     L.load (.one (.str)) ((⟨b1, 0, none⟩ : Addr).add 2) fun (x84 : ByteArray) =>
     L.call Pr n_label_Tag [.string x84] (.one (.one (.bool))) fun (x85 : Bool) =>
     L.ite (!x85) (
      K (.int .i64 1)) <|
     L.load (.one (.bool)) ((⟨b4, 0, none⟩ : Addr).add 3) fun (x86 : Bool) =>
     L.ite x86 (
      L.load (.one (.int .i64)) ((⟨b1, 0, none⟩ : Addr).add 4) fun (x87 : Int) =>
      L.call Pr n_event_within [.int .i64 x87, .int .i64 0, .int .i64 2147483647] (.one (.one (.bool))) fun (x88 : Bool) =>
      L.ite (!x88) (
       K (.int .i64 2)) <|
      L.load (.one (.bool)) ((⟨b4, 0, none⟩ : Addr).add 4) fun (x89 : Bool) =>
      L.ite x89 (
       L.load (.agg [.str, .int .i64, .int .i64, .int .i64, .int .i64, .int .i64]) ((⟨b1, 0, none⟩ : Addr).add 5) fun (x90 : ByteArray × Int × Int × Int × Int × Int × Unit) =>
       L.call Pr n_spec_Config [.agg #[.string x90.1, .int .i64 x90.2.1, .int .i64 x90.2.2.1, .int .i64 x90.2.2.2.1, .int .i64 x90.2.2.2.2.1, .int .i64 x90.2.2.2.2.2.1]] (.one (.one (.int .i64))) fun (x91 : Int) =>
       K (.int .i64 x91)) <|
      L.load (.one (.bool)) ((⟨b4, 0, none⟩ : Addr).add 5) fun (x92 : Bool) =>
      L.ite x92 (
       L.load (.agg [.str, .str, .slice, .int .i64]) ((⟨b1, 0, none⟩ : Addr).add 11) fun (x93 : ByteArray × ByteArray × Sl × Int × Unit) =>
       L.call Pr n_spec_Route [.agg #[.string x93.1, .string x93.2.1, .slice x93.2.2.1.a x93.2.2.1.len x93.2.2.1.cap, .int .i64 x93.2.2.2.1]] (.one (.one (.int .i64))) fun (x94 : Int) =>
       K (.int .i64 x94)) <|
      k25 (())) <|
     L.load (.one (.bool)) ((⟨b4, 0, none⟩ : Addr).add 4) fun (x95 : Bool) =>
     L.ite x95 (
      L.load (.agg [.str, .int .i64, .int .i64, .int .i64, .int .i64, .int .i64]) ((⟨b1, 0, none⟩ : Addr).add 5) fun (x96 : ByteArray × Int × Int × Int × Int × Int × Unit) =>
      L.call Pr n_spec_Config [.agg #[.string x96.1, .int .i64 x96.2.1, .int .i64 x96.2.2.1, .int .i64 x96.2.2.2.1, .int .i64 x96.2.2.2.2.1, .int .i64 x96.2.2.2.2.2.1]] (.one (.one (.int .i64))) fun (x97 : Int) =>
      K (.int .i64 x97)) <|
     L.load (.one (.bool)) ((⟨b4, 0, none⟩ : Addr).add 5) fun (x98 : Bool) =>
     L.ite x98 (
      L.load (.agg [.str, .str, .slice, .int .i64]) ((⟨b1, 0, none⟩ : Addr).add 11) fun (x99 : ByteArray × ByteArray × Sl × Int × Unit) =>
      L.call Pr n_spec_Route [.agg #[.string x99.1, .string x99.2.1, .slice x99.2.2.1.a x99.2.2.1.len x99.2.2.1.cap, .int .i64 x99.2.2.2.1]] (.one (.one (.int .i64))) fun (x100 : Int) =>
      K (.int .i64 x100)) <|
     k25 (())) <|
    L.load (.one (.bool)) ((⟨b4, 0, none⟩ : Addr).add 3) fun (x101 : Bool) =>
    L.ite x101 (
     L.load (.one (.int .i64)) ((⟨b1, 0, none⟩ : Addr).add 4) fun (x102 : Int) =>
     L.call Pr n_event_within [.int .i64 x102, .int .i64 0, .int .i64 2147483647] (.one (.one (.bool))) fun (x103 : Bool) =>
     L.ite (!x103) (
      K (.int .i64 2)) <|
     L.load (.one (.bool)) ((⟨b4, 0, none⟩ : Addr).add 4) fun (x104 : Bool) =>
     L.ite x104 (
      L.load (.agg [.str, .int .i64, .int .i64, .int .i64, .int .i64, .int .i64]) ((⟨b1, 0, none⟩ : Addr).add 5) fun (x105 : ByteArray × Int × Int × Int × Int × Int × Unit) =>
      L.call Pr n_spec_Config [.agg #[.string x105.1, .int .i64 x105.2.1, .int .i64 x105.2.2.1, .int .i64 x105.2.2.2.1, .int .i64 x105.2.2.2.2.1, .int .i64 x105.2.2.2.2.2.1]] (.one (.one (.int .i64))) fun (x106 : Int) =>
      K (.int .i64 x106)) <|
     L.load (.one (.bool)) ((⟨b4, 0, none⟩ : Addr).add 5) fun (x107 : Bool) =>
     L.ite x107 (
      L.load (.agg [.str, .str, .slice, .int .i64]) ((⟨b1, 0, none⟩ : Addr).add 11) fun (x108 : ByteArray × ByteArray × Sl × Int × Unit) =>
      L.call Pr n_spec_Route [.agg #[.string x108.1, .string x108.2.1, .slice x108.2.2.1.a x108.2.2.1.len x108.2.2.1.cap, .int .i64 x108.2.2.2.1]] (.one (.one (.int .i64))) fun (x109 : Int) =>
      K (.int .i64 x109)) <|
     k25 (())) <|
    L.load (.one (.bool)) ((⟨b4, 0, none⟩ : Addr).add 4) fun (x110 : Bool) =>
    L.ite x110 (
     L.load (.agg [.str, .int .i64, .int .i64, .int .i64, .int .i64, .int .i64]) ((⟨b1, 0, none⟩ : Addr).add 5) fun (x111 : ByteArray × Int × Int × Int × Int × Int × Unit) =>
     L.call Pr n_spec_Config [.agg #[.string x111.1, .int .i64 x111.2.1, .int .i64 x111.2.2.1, .int .i64 x111.2.2.2.1, .int .i64 x111.2.2.2.2.1, .int .i64 x111.2.2.2.2.2.1]] (.one (.one (.int .i64))) fun (x112 : Int) =>
     K (.int .i64 x112)) <|
    L.load (.one (.bool)) ((⟨b4, 0, none⟩ : Addr).add 5) fun (x113 : Bool) =>
    L.ite x113 (
     L.load (.agg [.str, .str, .slice, .int .i64]) ((⟨b1, 0, none⟩ : Addr).add 11) fun (x114 : ByteArray × ByteArray × Sl × Int × Unit) =>
     L.call Pr n_spec_Route [.agg #[.string x114.1, .string x114.2.1, .slice x114.2.2.1.a x114.2.2.1.len x114.2.2.1.cap, .int .i64 x114.2.2.2.1]] (.one (.one (.int .i64))) fun (x115 : Int) =>
     K (.int .i64 x115)) <|
    k25 (())) <|
   L.load (.one (.bool)) ((⟨b4, 0, none⟩ : Addr).add 3) fun (x116 : Bool) =>
   L.ite x116 (
    L.load (.one (.int .i64)) ((⟨b1, 0, none⟩ : Addr).add 4) fun (x117 : Int) =>
    L.call Pr n_event_within [.int .i64 x117, .int .i64 0, .int .i64 2147483647] (.one (.one (.bool))) fun (x118 : Bool) =>
    L.ite (!x118) (
     K (.int .i64 2)) <|
    L.load (.one (.bool)) ((⟨b4, 0, none⟩ : Addr).add 4) fun (x119 : Bool) =>
    L.ite x119 (
     L.load (.agg [.str, .int .i64, .int .i64, .int .i64, .int .i64, .int .i64]) ((⟨b1, 0, none⟩ : Addr).add 5) fun (x120 : ByteArray × Int × Int × Int × Int × Int × Unit) =>
     L.call Pr n_spec_Config [.agg #[.string x120.1, .int .i64 x120.2.1, .int .i64 x120.2.2.1, .int .i64 x120.2.2.2.1, .int .i64 x120.2.2.2.2.1, .int .i64 x120.2.2.2.2.2.1]] (.one (.one (.int .i64))) fun (x121 : Int) =>
     K (.int .i64 x121)) <|
    L.load (.one (.bool)) ((⟨b4, 0, none⟩ : Addr).add 5) fun (x122 : Bool) =>
    L.ite x122 (
     L.load (.agg [.str, .str, .slice, .int .i64]) ((⟨b1, 0, none⟩ : Addr).add 11) fun (x123 : ByteArray × ByteArray × Sl × Int × Unit) =>
     L.call Pr n_spec_Route [.agg #[.string x123.1, .string x123.2.1, .slice x123.2.2.1.a x123.2.2.1.len x123.2.2.1.cap, .int .i64 x123.2.2.2.1]] (.one (.one (.int .i64))) fun (x124 : Int) =>
     K (.int .i64 x124)) <|
    k25 (())) <|
   L.load (.one (.bool)) ((⟨b4, 0, none⟩ : Addr).add 4) fun (x125 : Bool) =>
   L.ite x125 (
    L.load (.agg [.str, .int .i64, .int .i64, .int .i64, .int .i64, .int .i64]) ((⟨b1, 0, none⟩ : Addr).add 5) fun (x126 : ByteArray × Int × Int × Int × Int × Int × Unit) =>
    L.call Pr n_spec_Config [.agg #[.string x126.1, .int .i64 x126.2.1, .int .i64 x126.2.2.1, .int .i64 x126.2.2.2.1, .int .i64 x126.2.2.2.2.1, .int .i64 x126.2.2.2.2.2.1]] (.one (.one (.int .i64))) fun (x127 : Int) =>
    K (.int .i64 x127)) <|
   L.load (.one (.bool)) ((⟨b4, 0, none⟩ : Addr).add 5) fun (x128 : Bool) =>
   L.ite x128 (
    L.load (.agg [.str, .str, .slice, .int .i64]) ((⟨b1, 0, none⟩ : Addr).add 11) fun (x129 : ByteArray × ByteArray × Sl × Int × Unit) =>
    L.call Pr n_spec_Route [.agg #[.string x129.1, .string x129.2.1, .slice x129.2.2.1.a x129.2.2.1.len x129.2.2.1.cap, .int .i64 x129.2.2.2.1]] (.one (.one (.int .i64))) fun (x130 : Int) =>
    K (.int .i64 x130)) <|
   k25 (())) <|
  L.load (.one (.bool)) ((⟨b4, 0, none⟩ : Addr).add 1) fun (x131 : Bool) =>
  L.ite x131 (
   L.load (.agg [.int .i64, .str, .str, .int .i64, .int .i64, .str, .int .i64, .int .i64, .int .i64, .int .i64, .int .i64, .str, .str, .slice, .int .i64]) (⟨b1, 0, none⟩) fun (x132 : Int × ByteArray × ByteArray × Int × Int × ByteArray × Int × Int × Int × Int × Int × ByteArray × ByteArray × Sl × Int × Unit) =>
   L.call Pr n_event_named [.agg #[.int .i64 x132.1, .string x132.2.1, .string x132.2.2.1, .int .i64 x132.2.2.2.1, .int .i64 x132.2.2.2.2.1, .string x132.2.2.2.2.2.1, .int .i64 x132.2.2.2.2.2.2.1, .int .i64 x132.2.2.2.2.2.2.2.1, .int .i64 x132.2.2.2.2.2.2.2.2.1, .int .i64 x132.2.2.2.2.2.2.2.2.2.1, .int .i64 x132.2.2.2.2.2.2.2.2.2.2.1, .string x132.2.2.2.2.2.2.2.2.2.2.2.1, .string x132.2.2.2.2.2.2.2.2.2.2.2.2.1, .slice x132.2.2.2.2.2.2.2.2.2.2.2.2.2.1.a x132.2.2.2.2.2.2.2.2.2.2.2.2.2.1.len x132.2.2.2.2.2.2.2.2.2.2.2.2.2.1.cap, .int .i64 x132.2.2.2.2.2.2.2.2.2.2.2.2.2.2.1]] (.one (.one (.bool))) fun (x133 : Bool) =>
   L.ite (!x133) (
    K (.int .i64 1)) <|
   L.load (.one (.bool)) ((⟨b4, 0, none⟩ : Addr).add 2) fun (x134 : Bool) =>
   L.ite x134 (
    L.load (.one (.str)) ((⟨b1, 0, none⟩ : Addr).add 2) fun (x135 : ByteArray) =>
    L.ite (!(x135.toList == s_.toList)) (
     L.load (.one (.str)) ((⟨b1, 0, none⟩ : Addr).add 2) fun (x136 : ByteArray) =>
     L.call Pr n_label_Tag [.string x136] (.one (.one (.bool))) fun (x137 : Bool) =>
     L.ite (!x137) (
      K (.int .i64 1)) <|
     L.load (.one (.bool)) ((⟨b4, 0, none⟩ : Addr).add 3) fun (x138 : Bool) =>
     L.ite x138 (
      L.load (.one (.int .i64)) ((⟨b1, 0, none⟩ : Addr).add 4) fun (x139 : Int) =>
      L.call Pr n_event_within [.int .i64 x139, .int .i64 0, .int .i64 2147483647] (.one (.one (.bool))) fun (x140 : Bool) =>
      L.ite (!x140) (
       K (.int .i64 2)) <|
      L.load (.one (.bool)) ((⟨b4, 0, none⟩ : Addr).add 4) fun (x141 : Bool) =>
      L.ite x141 (
       L.load (.agg [.str, .int .i64, .int .i64, .int .i64, .int .i64, .int .i64]) ((⟨b1, 0, none⟩ : Addr).add 5) fun (x142 : ByteArray × Int × Int × Int × Int × Int × Unit) =>
       L.call Pr n_spec_Config [.agg #[.string x142.1, .int .i64 x142.2.1, .int .i64 x142.2.2.1, .int .i64 x142.2.2.2.1, .int .i64 x142.2.2.2.2.1, .int .i64 x142.2.2.2.2.2.1]] (.one (.one (.int .i64))) fun (x143 : Int) =>
       K (.int .i64 x143)) <|
      L.load (.one (.bool)) ((⟨b4, 0, none⟩ : Addr).add 5) fun (x144 : Bool) =>
      L.ite x144 (
       L.load (.agg [.str, .str, .slice, .int .i64]) ((⟨b1, 0, none⟩ : Addr).add 11) fun (x145 : ByteArray × ByteArray × Sl × Int × Unit) =>
       L.call Pr n_spec_Route [.agg #[.string x145.1, .string x145.2.1, .slice x145.2.2.1.a x145.2.2.1.len x145.2.2.1.cap, .int .i64 x145.2.2.2.1]] (.one (.one (.int .i64))) fun (x146 : Int) =>
       K (.int .i64 x146)) <|
      k25 (())) <|
     L.load (.one (.bool)) ((⟨b4, 0, none⟩ : Addr).add 4) fun (x147 : Bool) =>
     L.ite x147 (
      L.load (.agg [.str, .int .i64, .int .i64, .int .i64, .int .i64, .int .i64]) ((⟨b1, 0, none⟩ : Addr).add 5) fun (x148 : ByteArray × Int × Int × Int × Int × Int × Unit) =>
      L.call Pr n_spec_Config [.agg #[.string x148.1, .int .i64 x148.2.1, .int .i64 x148.2.2.1, .int .i64 x148.2.2.2.1, .int .i64 x148.2.2.2.2.1, .int .i64 x148.2.2.2.2.2.1]] (.one (.one (.int .i64))) fun (x149 : Int) =>
      K (.int .i64 x149)) <|
     L.load (.one (.bool)) ((⟨b4, 0, none⟩ : Addr).add 5) fun (x150 : Bool) =>
     L.ite x150 (
      L.load (.agg [.str, .str, .slice, .int .i64]) ((⟨b1, 0, none⟩ : Addr).add 11) fun (x151 : ByteArray × ByteArray × Sl × Int × Unit) =>
      L.call Pr n_spec_Route [.agg #[.string x151.1, .string x151.2.1, .slice x151.2.2.1.a x151.2.2.1.len x151.2.2.1.cap, .int .i64 x151.2.2.2.1]] (.one (.one (.int .i64))) fun (x152 : Int) =>
      K (.int .i64 x152)) <|
     k25 (())) <|
    L.load (.one (.bool)) ((⟨b4, 0, none⟩ : Addr).add 3) fun (x153 : Bool) =>
    L.ite x153 (
     L.load (.one (.int .i64)) ((⟨b1, 0, none⟩ : Addr).add 4) fun (x154 : Int) =>
     L.call Pr n_event_within [.int .i64 x154, .int .i64 0, .int .i64 2147483647] (.one (.one (.bool))) fun (x155 : Bool) =>
     L.ite (!x155) (
      K (.int .i64 2)) <|
     L.load (.one (.bool)) ((⟨b4, 0, none⟩ : Addr).add 4) fun (x156 : Bool) =>
     L.ite x156 (
      L.load (.agg [.str, .int .i64, .int .i64, .int .i64, .int .i64, .int .i64]) ((⟨b1, 0, none⟩ : Addr).add 5) fun (x157 : ByteArray × Int × Int × Int × Int × Int × Unit) =>
      L.call Pr n_spec_Config [.agg #[.string x157.1, .int .i64 x157.2.1, .int .i64 x157.2.2.1, .int .i64 x157.2.2.2.1, .int .i64 x157.2.2.2.2.1, .int .i64 x157.2.2.2.2.2.1]] (.one (.one (.int .i64))) fun (x158 : Int) =>
      K (.int .i64 x158)) <|
     L.load (.one (.bool)) ((⟨b4, 0, none⟩ : Addr).add 5) fun (x159 : Bool) =>
     L.ite x159 (
      L.load (.agg [.str, .str, .slice, .int .i64]) ((⟨b1, 0, none⟩ : Addr).add 11) fun (x160 : ByteArray × ByteArray × Sl × Int × Unit) =>
      L.call Pr n_spec_Route [.agg #[.string x160.1, .string x160.2.1, .slice x160.2.2.1.a x160.2.2.1.len x160.2.2.1.cap, .int .i64 x160.2.2.2.1]] (.one (.one (.int .i64))) fun (x161 : Int) =>
      K (.int .i64 x161)) <|
     k25 (())) <|
    L.load (.one (.bool)) ((⟨b4, 0, none⟩ : Addr).add 4) fun (x162 : Bool) =>
    L.ite x162 (
     L.load (.agg [.str, .int .i64, .int .i64, .int .i64, .int .i64, .int .i64]) ((⟨b1, 0, none⟩ : Addr).add 5) fun (x163 : ByteArray × Int × Int × Int × Int × Int × Unit) =>
     L.call Pr n_spec_Config [.agg #[.string x163.1, .int .i64 x163.2.1, .int .i64 x163.2.2.1, .int .i64 x163.2.2.2.1, .int .i64 x163.2.2.2.2.1, .int .i64 x163.2.2.2.2.2.1]] (.one (.one (.int .i64))) fun (x164 : Int) =>
     K (.int .i64 x164)) <|
    L.load (.one (.bool)) ((⟨b4, 0, none⟩ : Addr).add 5) fun (x165 : Bool) =>
    L.ite x165 (
     L.load (.agg [.str, .str, .slice, .int .i64]) ((⟨b1, 0, none⟩ : Addr).add 11) fun (x166 : ByteArray × ByteArray × Sl × Int × Unit) =>
     L.call Pr n_spec_Route [.agg #[.string x166.1, .string x166.2.1, .slice x166.2.2.1.a x166.2.2.1.len x166.2.2.1.cap, .int .i64 x166.2.2.2.1]] (.one (.one (.int .i64))) fun (x167 : Int) =>
     K (.int .i64 x167)) <|
    k25 (())) <|
   L.load (.one (.bool)) ((⟨b4, 0, none⟩ : Addr).add 3) fun (x168 : Bool) =>
   L.ite x168 (
    L.load (.one (.int .i64)) ((⟨b1, 0, none⟩ : Addr).add 4) fun (x169 : Int) =>
    L.call Pr n_event_within [.int .i64 x169, .int .i64 0, .int .i64 2147483647] (.one (.one (.bool))) fun (x170 : Bool) =>
    L.ite (!x170) (
     K (.int .i64 2)) <|
    L.load (.one (.bool)) ((⟨b4, 0, none⟩ : Addr).add 4) fun (x171 : Bool) =>
    L.ite x171 (
     L.load (.agg [.str, .int .i64, .int .i64, .int .i64, .int .i64, .int .i64]) ((⟨b1, 0, none⟩ : Addr).add 5) fun (x172 : ByteArray × Int × Int × Int × Int × Int × Unit) =>
     L.call Pr n_spec_Config [.agg #[.string x172.1, .int .i64 x172.2.1, .int .i64 x172.2.2.1, .int .i64 x172.2.2.2.1, .int .i64 x172.2.2.2.2.1, .int .i64 x172.2.2.2.2.2.1]] (.one (.one (.int .i64))) fun (x173 : Int) =>
     K (.int .i64 x173)) <|
    L.load (.one (.bool)) ((⟨b4, 0, none⟩ : Addr).add 5) fun (x174 : Bool) =>
    L.ite x174 (
     L.load (.agg [.str, .str, .slice, .int .i64]) ((⟨b1, 0, none⟩ : Addr).add 11) fun (x175 : ByteArray × ByteArray × Sl × Int × Unit) =>
     L.call Pr n_spec_Route [.agg #[.string x175.1, .string x175.2.1, .slice x175.2.2.1.a x175.2.2.1.len x175.2.2.1.cap, .int .i64 x175.2.2.2.1]] (.one (.one (.int .i64))) fun (x176 : Int) =>
     K (.int .i64 x176)) <|
    k25 (())) <|
   L.load (.one (.bool)) ((⟨b4, 0, none⟩ : Addr).add 4) fun (x177 : Bool) =>
   L.ite x177 (
    L.load (.agg [.str, .int .i64, .int .i64, .int .i64, .int .i64, .int .i64]) ((⟨b1, 0, none⟩ : Addr).add 5) fun (x178 : ByteArray × Int × Int × Int × Int × Int × Unit) =>
    L.call Pr n_spec_Config [.agg #[.string x178.1, .int .i64 x178.2.1, .int .i64 x178.2.2.1, .int .i64 x178.2.2.2.1, .int .i64 x178.2.2.2.2.1, .int .i64 x178.2.2.2.2.2.1]] (.one (.one (.int .i64))) fun (x179 : Int) =>
    K (.int .i64 x179)) <|
   L.load (.one (.bool)) ((⟨b4, 0, none⟩ : Addr).add 5) fun (x180 : Bool) =>
   L.ite x180 (
    L.load (.agg [.str, .str, .slice, .int .i64]) ((⟨b1, 0, none⟩ : Addr).add 11) fun (x181 : ByteArray × ByteArray × Sl × Int × Unit) =>
    L.call Pr n_spec_Route [.agg #[.string x181.1, .string x181.2.1, .slice x181.2.2.1.a x181.2.2.1.len x181.2.2.1.cap, .int .i64 x181.2.2.2.1]] (.one (.one (.int .i64))) fun (x182 : Int) =>
    K (.int .i64 x182)) <|
   k25 (())) <|
  L.load (.one (.bool)) ((⟨b4, 0, none⟩ : Addr).add 2) fun (x183 : Bool) =>
  L.ite x183 (
   L.load (.one (.str)) ((⟨b1, 0, none⟩ : Addr).add 2) fun (x184 : ByteArray) =>
   L.ite (!(x184.toList == s_.toList)) (
    L.load (.one (.str)) ((⟨b1, 0, none⟩ : Addr).add 2) fun (x185 : ByteArray) =>
    L.call Pr n_label_Tag [.string x185] (.one (.one (.bool))) fun (x186 : Bool) =>
    L.ite (!x186) (
     K (.int .i64 1)) <|
    L.load (.one (.bool)) ((⟨b4, 0, none⟩ : Addr).add 3) fun (x187 : Bool) =>
    L.ite x187 (
     L.load (.one (.int .i64)) ((⟨b1, 0, none⟩ : Addr).add 4) fun (x188 : Int) =>
     L.call Pr n_event_within [.int .i64 x188, .int .i64 0, .int .i64 2147483647] (.one (.one (.bool))) fun (x189 : Bool) =>
     L.ite (!x189) (
      K (.int .i64 2)) <|
     L.load (.one (.bool)) ((⟨b4, 0, none⟩ : Addr).add 4) fun (x190 : Bool) =>
     L.ite x190 (
      L.load (.agg [.str, .int .i64, .int .i64, .int .i64, .int .i64, .int .i64]) ((⟨b1, 0, none⟩ : Addr).add 5) fun (x191 : ByteArray × Int × Int × Int × Int × Int × Unit) =>
      L.call Pr n_spec_Config [.agg #[.string x191.1, .int .i64 x191.2.1, .int .i64 x191.2.2.1, .int .i64 x191.2.2.2.1, .int .i64 x191.2.2.2.2.1, .int .i64 x191.2.2.2.2.2.1]] (.one (.one (.int .i64))) fun (x192 : Int) =>
      K (.int .i64 x192)) <|
     L.load (.one (.bool)) ((⟨b4, 0, none⟩ : Addr).add 5) fun (x193 : Bool) =>
     L.ite x193 (
      L.load (.agg [.str, .str, .slice, .int .i64]) ((⟨b1, 0, none⟩ : Addr).add 11) fun (x194 : ByteArray × ByteArray × Sl × Int × Unit) =>
      L.call Pr n_spec_Route [.agg #[.string x194.1, .string x194.2.1, .slice x194.2.2.1.a x194.2.2.1.len x194.2.2.1.cap, .int .i64 x194.2.2.2.1]] (.one (.one (.int .i64))) fun (x195 : Int) =>
      K (.int .i64 x195)) <|
     k25 (())) <|
    L.load (.one (.bool)) ((⟨b4, 0, none⟩ : Addr).add 4) fun (x196 : Bool) =>
    L.ite x196 (
     L.load (.agg [.str, .int .i64, .int .i64, .int .i64, .int .i64, .int .i64]) ((⟨b1, 0, none⟩ : Addr).add 5) fun (x197 : ByteArray × Int × Int × Int × Int × Int × Unit) =>
     L.call Pr n_spec_Config [.agg #[.string x197.1, .int .i64 x197.2.1, .int .i64 x197.2.2.1, .int .i64 x197.2.2.2.1, .int .i64 x197.2.2.2.2.1, .int .i64 x197.2.2.2.2.2.1]] (.one (.one (.int .i64))) fun (x198 : Int) =>
     K (.int .i64 x198)) <|
    L.load (.one (.bool)) ((⟨b4, 0, none⟩ : Addr).add 5) fun (x199 : Bool) =>
    L.ite x199 (
     L.load (.agg [.str, .str, .slice, .int .i64]) ((⟨b1, 0, none⟩ : Addr).add 11) fun (x200 : ByteArray × ByteArray × Sl × Int × Unit) =>
     L.call Pr n_spec_Route [.agg #[.string x200.1, .string x200.2.1, .slice x200.2.2.1.a x200.2.2.1.len x200.2.2.1.cap, .int .i64 x200.2.2.2.1]] (.one (.one (.int .i64))) fun (x201 : Int) =>
     K (.int .i64 x201)) <|
    k25 (())) <|
   L.load (.one (.bool)) ((⟨b4, 0, none⟩ : Addr).add 3) fun (x202 : Bool) =>
   L.ite x202 (
    L.load (.one (.int .i64)) ((⟨b1, 0, none⟩ : Addr).add 4) fun (x203 : Int) =>
    L.call Pr n_event_within [.int .i64 x203, .int .i64 0, .int .i64 2147483647] (.one (.one (.bool))) fun (x204 : Bool) =>
    L.ite (!x204) (
     K (.int .i64 2)) <|
    L.load (.one (.bool)) ((⟨b4, 0, none⟩ : Addr).add 4) fun (x205 : Bool) =>
    L.ite x205 (
     L.load (.agg [.str, .int .i64, .int .i64, .int .i64, .int .i64, .int .i64]) ((⟨b1, 0, none⟩ : Addr).add 5) fun (x206 : ByteArray × Int × Int × Int × Int × Int × Unit) =>
     L.call Pr n_spec_Config [.agg #[.string x206.1, .int .i64 x206.2.1, .int .i64 x206.2.2.1, .int .i64 x206.2.2.2.1, .int .i64 x206.2.2.2.2.1, .int .i64 x206.2.2.2.2.2.1]] (.one (.one (.int .i64))) fun (x207 : Int) =>
     K (.int .i64 x207)) <|
    L.load (.one (.bool)) ((⟨b4, 0, none⟩ : Addr).add 5) fun (x208 : Bool) =>
    L.ite x208 (
     L.load (.agg [.str, .str, .slice, .int .i64]) ((⟨b1, 0, none⟩ : Addr).add 11) fun (x209 : ByteArray × ByteArray × Sl × Int × Unit) =>
     L.call Pr n_spec_Route [.agg #[.string x209.1, .string x209.2.1, .slice x209.2.2.1.a x209.2.2.1.len x209.2.2.1.cap, .int .i64 x209.2.2.2.1]] (.one (.one (.int .i64))) fun (x210 : Int) =>
     K (.int .i64 x210)) <|
    k25 (())) <|
   L.load (.one (.bool)) ((⟨b4, 0, none⟩ : Addr).add 4) fun (x211 : Bool) =>
   L.ite x211 (
    L.load (.agg [.str, .int .i64, .int .i64, .int .i64, .int .i64, .int .i64]) ((⟨b1, 0, none⟩ : Addr).add 5) fun (x212 : ByteArray × Int × Int × Int × Int × Int × Unit) =>
    L.call Pr n_spec_Config [.agg #[.string x212.1, .int .i64 x212.2.1, .int .i64 x212.2.2.1, .int .i64 x212.2.2.2.1, .int .i64 x212.2.2.2.2.1, .int .i64 x212.2.2.2.2.2.1]] (.one (.one (.int .i64))) fun (x213 : Int) =>
    K (.int .i64 x213)) <|
   L.load (.one (.bool)) ((⟨b4, 0, none⟩ : Addr).add 5) fun (x214 : Bool) =>
   L.ite x214 (
    L.load (.agg [.str, .str, .slice, .int .i64]) ((⟨b1, 0, none⟩ : Addr).add 11) fun (x215 : ByteArray × ByteArray × Sl × Int × Unit) =>
    L.call Pr n_spec_Route [.agg #[.string x215.1, .string x215.2.1, .slice x215.2.2.1.a x215.2.2.1.len x215.2.2.1.cap, .int .i64 x215.2.2.2.1]] (.one (.one (.int .i64))) fun (x216 : Int) =>
    K (.int .i64 x216)) <|
   k25 (())) <|
  L.load (.one (.bool)) ((⟨b4, 0, none⟩ : Addr).add 3) fun (x217 : Bool) =>
  L.ite x217 (
   L.load (.one (.int .i64)) ((⟨b1, 0, none⟩ : Addr).add 4) fun (x218 : Int) =>
   L.call Pr n_event_within [.int .i64 x218, .int .i64 0, .int .i64 2147483647] (.one (.one (.bool))) fun (x219 : Bool) =>
   L.ite (!x219) (
    K (.int .i64 2)) <|
   L.load (.one (.bool)) ((⟨b4, 0, none⟩ : Addr).add 4) fun (x220 : Bool) =>
   L.ite x220 (
    L.load (.agg [.str, .int .i64, .int .i64, .int .i64, .int .i64, .int .i64]) ((⟨b1, 0, none⟩ : Addr).add 5) fun (x221 : ByteArray × Int × Int × Int × Int × Int × Unit) =>
    L.call Pr n_spec_Config [.agg #[.string x221.1, .int .i64 x221.2.1, .int .i64 x221.2.2.1, .int .i64 x221.2.2.2.1, .int .i64 x221.2.2.2.2.1, .int .i64 x221.2.2.2.2.2.1]] (.one (.one (.int .i64))) fun (x222 : Int) =>
    K (.int .i64 x222)) <|
   L.load (.one (.bool)) ((⟨b4, 0, none⟩ : Addr).add 5) fun (x223 : Bool) =>
   L.ite x223 (
    L.load (.agg [.str, .str, .slice, .int .i64]) ((⟨b1, 0, none⟩ : Addr).add 11) fun (x224 : ByteArray × ByteArray × Sl × Int × Unit) =>
    L.call Pr n_spec_Route [.agg #[.string x224.1, .string x224.2.1, .slice x224.2.2.1.a x224.2.2.1.len x224.2.2.1.cap, .int .i64 x224.2.2.2.1]] (.one (.one (.int .i64))) fun (x225 : Int) =>
    K (.int .i64 x225)) <|
   k25 (())) <|
  L.load (.one (.bool)) ((⟨b4, 0, none⟩ : Addr).add 4) fun (x226 : Bool) =>
  L.ite x226 (
   L.load (.agg [.str, .int .i64, .int .i64, .int .i64, .int .i64, .int .i64]) ((⟨b1, 0, none⟩ : Addr).add 5) fun (x227 : ByteArray × Int × Int × Int × Int × Int × Unit) =>
   L.call Pr n_spec_Config [.agg #[.string x227.1, .int .i64 x227.2.1, .int .i64 x227.2.2.1, .int .i64 x227.2.2.2.1, .int .i64 x227.2.2.2.2.1, .int .i64 x227.2.2.2.2.2.1]] (.one (.one (.int .i64))) fun (x228 : Int) =>
   K (.int .i64 x228)) <|
  L.load (.one (.bool)) ((⟨b4, 0, none⟩ : Addr).add 5) fun (x229 : Bool) =>
  L.ite x229 (
   L.load (.agg [.str, .str, .slice, .int .i64]) ((⟨b1, 0, none⟩ : Addr).add 11) fun (x230 : ByteArray × ByteArray × Sl × Int × Unit) =>
   L.call Pr n_spec_Route [.agg #[.string x230.1, .string x230.2.1, .slice x230.2.2.1.a x230.2.2.1.len x230.2.2.1.cap, .int .i64 x230.2.2.2.1]] (.one (.one (.int .i64))) fun (x231 : Int) =>
   K (.int .i64 x231)) <|
  k25 (())) fun z26 =>
 K (.int .i64 0)
theorem D_event_Check (p0 : HT [.int .i64, .str, .str, .int .i64, .int .i64, .str, .int .i64, .int .i64, .int .i64, .int .i64, .int .i64, .str, .str, .slice, .int .i64]) (K : Value → PT) : denF Pr Dt Tryz.f26 A_event_Check [.ag [.int .i64 p0.1, .string p0.2.1, .string p0.2.2.1, .int .i64 p0.2.2.2.1, .int .i64 p0.2.2.2.2.1, .string p0.2.2.2.2.2.1, .int .i64 p0.2.2.2.2.2.2.1, .int .i64 p0.2.2.2.2.2.2.2.1, .int .i64 p0.2.2.2.2.2.2.2.2.1, .int .i64 p0.2.2.2.2.2.2.2.2.2.1, .int .i64 p0.2.2.2.2.2.2.2.2.2.2.1, .string p0.2.2.2.2.2.2.2.2.2.2.2.1, .string p0.2.2.2.2.2.2.2.2.2.2.2.2.1, .slice p0.2.2.2.2.2.2.2.2.2.2.2.2.2.1.a p0.2.2.2.2.2.2.2.2.2.2.2.2.2.1.len p0.2.2.2.2.2.2.2.2.2.2.2.2.2.1.cap, .int .i64 p0.2.2.2.2.2.2.2.2.2.2.2.2.2.2.1]] K = F_event_Check p0 K := by kernel_rfl
theorem C_event_Check (p0 : HT [.int .i64, .str, .str, .int .i64, .int .i64, .str, .int .i64, .int .i64, .int .i64, .int .i64, .int .i64, .str, .str, .slice, .int .i64]) {K : Value → PT} {w : World} (h : F_event_Check p0 K w) : Calls Pr n_event_Check [(.ag [.int .i64 p0.1, .string p0.2.1, .string p0.2.2.1, .int .i64 p0.2.2.2.1, .int .i64 p0.2.2.2.2.1, .string p0.2.2.2.2.2.1, .int .i64 p0.2.2.2.2.2.2.1, .int .i64 p0.2.2.2.2.2.2.2.1, .int .i64 p0.2.2.2.2.2.2.2.2.1, .int .i64 p0.2.2.2.2.2.2.2.2.2.1, .int .i64 p0.2.2.2.2.2.2.2.2.2.2.1, .string p0.2.2.2.2.2.2.2.2.2.2.2.1, .string p0.2.2.2.2.2.2.2.2.2.2.2.2.1, .slice p0.2.2.2.2.2.2.2.2.2.2.2.2.2.1.a p0.2.2.2.2.2.2.2.2.2.2.2.2.2.1.len p0.2.2.2.2.2.2.2.2.2.2.2.2.2.1.cap, .int .i64 p0.2.2.2.2.2.2.2.2.2.2.2.2.2.2.1] : SV).toV].toArray w fun e w2 => ∃ v, e = .returned v ∧ K v w2 :=
  denF_ok Tok (f := 26) (fn := Tryz.f26) (an := A_event_Check) (args := [.ag [.int .i64 p0.1, .string p0.2.1, .string p0.2.2.1, .int .i64 p0.2.2.2.1, .int .i64 p0.2.2.2.2.1, .string p0.2.2.2.2.2.1, .int .i64 p0.2.2.2.2.2.2.1, .int .i64 p0.2.2.2.2.2.2.2.1, .int .i64 p0.2.2.2.2.2.2.2.2.1, .int .i64 p0.2.2.2.2.2.2.2.2.2.1, .int .i64 p0.2.2.2.2.2.2.2.2.2.2.1, .string p0.2.2.2.2.2.2.2.2.2.2.2.1, .string p0.2.2.2.2.2.2.2.2.2.2.2.2.1, .slice p0.2.2.2.2.2.2.2.2.2.2.2.2.2.1.a p0.2.2.2.2.2.2.2.2.2.2.2.2.2.1.len p0.2.2.2.2.2.2.2.2.2.2.2.2.2.1.cap, .int .i64 p0.2.2.2.2.2.2.2.2.2.2.2.2.2.2.1]]) (by kernel_rfl) (by kernel_rfl) ((congrFun (D_event_Check p0 K) w).mpr h)
def A_system_line_string : Ann := (.seq .auto (.seq .auto (.seq (.seq .auto (.one [(5, (.one (.slice))), (14, (.one (.int .i64)))] (.seq .auto (.seq .auto (.seq .auto .auto (some [(5, (.one (.slice)))])) none) none)) none) .auto none) none) none)
def F_system_line_string (p0 : ByteArray) (p1 : Sl) (K : Value → PT) : PT :=
 L.new [.string p0] T_string fun b1 =>
 L.loop (Y := Sl × Int × Unit) (⟨some ⟨b1, 0, none⟩, 1, 1⟩, 0, ()) fun y2 again3 =>
 L.ite (decide (y2.2.1 < ((p1.len : Nat) : Int))) (
  L.join (Y := Sl × Unit) (fun k4 =>
   L.idx p1.a y2.2.1 p1.len 1 fun a6 =>
   L.load (.one (.str)) a6 fun (x7 : ByteArray) =>
   L.ite true (
    L.new [.string x7] T_string fun b8 =>
    L.sem Pr (.one (.one .slice)) (Builtin.append_ #[T_s_string, T_s_string] T_s_string #[.slice y2.1.a y2.1.len y2.1.cap, .slice (some ⟨b8, 0, none⟩) 1 1]) fun (s9 : Sl) =>
    k4 (⟨s9.a, s9.len, s9.cap⟩, ())) <|
   L.semR Pr (.tup [(.one (.int .i64)), .one .bool]) (Instr.typeAssert (.iface T_string (.string x7)) T_interface T_int true) fun (x10 : Int × Bool × Unit) =>
   L.ite x10.2.1 (
    L.call Pr n_strconv_Itoa [.int .i64 x10.1] (.one (.one (.str))) fun (x11 : ByteArray) =>
    L.new [.string x11] T_string fun b12 =>
    L.sem Pr (.one (.one .slice)) (Builtin.append_ #[T_s_string, T_s_string] T_s_string #[.slice y2.1.a y2.1.len y2.1.cap, .slice (some ⟨b12, 0, none⟩) 1 1]) fun (s13 : Sl) =>
    k4 (⟨s13.a, s13.len, s13.cap⟩, ())) <|
   k4 (⟨y2.1.a, y2.1.len, y2.1.cap⟩, ())) fun z5 =>
  again3 (⟨z5.1.a, z5.1.len, z5.1.cap⟩, IntKind.wrap .i64 (y2.2.1 + 1), ())) <|
 L.call Pr n_strings_Join [.slice y2.1.a y2.1.len y2.1.cap, .string s___b5c5] (.one (.one (.str))) fun (x14 : ByteArray) =>
 K (.string x14)
theorem D_system_line_string (p0 : ByteArray) (p1 : Sl) (K : Value → PT) : denF Pr Dt Tryz.f27 A_system_line_string [.v (.string p0), .v (.slice p1.a p1.len p1.cap)] K = F_system_line_string p0 p1 K := by kernel_rfl
theorem C_system_line_string (p0 : ByteArray) (p1 : Sl) {K : Value → PT} {w : World} (h : F_system_line_string p0 p1 K w) : Calls Pr n_system_line_string [.string p0, .slice p1.a p1.len p1.cap].toArray w fun e w2 => ∃ v, e = .returned v ∧ K v w2 :=
  denF_ok Tok (f := 27) (fn := Tryz.f27) (an := A_system_line_string) (args := [.v (.string p0), .v (.slice p1.a p1.len p1.cap)]) (by kernel_rfl) (by kernel_rfl) ((congrFun (D_system_line_string p0 p1 K) w).mpr h)
def A_api_Errno_Error : Ann := .auto
def F_api_Errno_Error (p0 : Int) (K : Value → PT) : PT :=
 L.ite (decide (p0 ≤ 6)) (
  L.call Pr n_api_early [.int .i64 p0] (.one (.one (.str))) fun (x1 : ByteArray) =>
  K (.string x1)) <|
 L.call Pr n_api_late [.int .i64 p0] (.one (.one (.str))) fun (x2 : ByteArray) =>
 K (.string x2)
theorem D_api_Errno_Error (p0 : Int) (K : Value → PT) : denF Pr Dt Tryz.f28 A_api_Errno_Error [.v (.int .i64 p0)] K = F_api_Errno_Error p0 K := by kernel_rfl
theorem C_api_Errno_Error (p0 : Int) {K : Value → PT} {w : World} (h : F_api_Errno_Error p0 K w) : Calls Pr n_api_Errno_Error [.int .i64 p0].toArray w fun e w2 => ∃ v, e = .returned v ∧ K v w2 :=
  denF_ok Tok (f := 28) (fn := Tryz.f28) (an := A_api_Errno_Error) (args := [.v (.int .i64 p0)]) (by kernel_rfl) (by kernel_rfl) ((congrFun (D_api_Errno_Error p0 K) w).mpr h)
def A_system_System_config : Ann := .auto
def F_system_System_config (p0 : Option Addr) (p1 : HT [.int .i64, .str, .str, .int .i64, .int .i64, .str, .int .i64, .int .i64, .int .i64, .int .i64, .int .i64, .str, .str, .slice, .int .i64]) (K : Value → PT) : PT :=
 L.new [.int .i64 p1.1, .string p1.2.1, .string p1.2.2.1, .int .i64 p1.2.2.2.1, .int .i64 p1.2.2.2.2.1, .string p1.2.2.2.2.2.1, .int .i64 p1.2.2.2.2.2.2.1, .int .i64 p1.2.2.2.2.2.2.2.1, .int .i64 p1.2.2.2.2.2.2.2.2.1, .int .i64 p1.2.2.2.2.2.2.2.2.2.1, .int .i64 p1.2.2.2.2.2.2.2.2.2.2.1, .string p1.2.2.2.2.2.2.2.2.2.2.2.1, .string p1.2.2.2.2.2.2.2.2.2.2.2.2.1, .slice p1.2.2.2.2.2.2.2.2.2.2.2.2.2.1.a p1.2.2.2.2.2.2.2.2.2.2.2.2.2.1.len p1.2.2.2.2.2.2.2.2.2.2.2.2.2.1.cap, .int .i64 p1.2.2.2.2.2.2.2.2.2.2.2.2.2.2.1] T_api_Event fun b1 =>
 L.draw <|
 L.nonnil p0 fun a2 =>
 L.load (.one (.ptr)) (a2.add 0) fun (x3 : Option Addr) =>
 L.load (.agg [.str, .int .i64, .int .i64, .int .i64, .int .i64, .int .i64]) ((⟨b1, 0, none⟩ : Addr).add 5) fun (x4 : ByteArray × Int × Int × Int × Int × Int × Unit) =>
 L.load (.one (.int .i64)) ((⟨b1, 0, none⟩ : Addr).add 3) fun (x5 : Int) =>
 L.call Pr n_shelf_Shelf_PutConfig [.pointer x3, .agg #[.string x4.1, .int .i64 x4.2.1, .int .i64 x4.2.2.1, .int .i64 x4.2.2.2.1, .int .i64 x4.2.2.2.2.1, .int .i64 x4.2.2.2.2.2.1], .int .i64 x5] (.tup [(.one (.int .i64)), (.one (.int .i64))]) fun (x6 : Int × Int × Unit) =>
 L.load (.one (.str)) (((⟨b1, 0, none⟩ : Addr).add 5).add 0) fun (x7 : ByteArray) =>
 L.call Pr n_system_put [.string s_config, .string x7, .int .i64 x6.1, .int .i64 x6.2.1] (.one (.one (.slice))) fun (x8 : Sl) =>
 K (.slice x8.a x8.len x8.cap)
theorem D_system_System_config (p0 : Option Addr) (p1 : HT [.int .i64, .str, .str, .int .i64, .int .i64, .str, .int .i64, .int .i64, .int .i64, .int .i64, .int .i64, .str, .str, .slice, .int .i64]) (K : Value → PT) : denF Pr Dt Tryz.f29 A_system_System_config [.v (.pointer p0), .ag [.int .i64 p1.1, .string p1.2.1, .string p1.2.2.1, .int .i64 p1.2.2.2.1, .int .i64 p1.2.2.2.2.1, .string p1.2.2.2.2.2.1, .int .i64 p1.2.2.2.2.2.2.1, .int .i64 p1.2.2.2.2.2.2.2.1, .int .i64 p1.2.2.2.2.2.2.2.2.1, .int .i64 p1.2.2.2.2.2.2.2.2.2.1, .int .i64 p1.2.2.2.2.2.2.2.2.2.2.1, .string p1.2.2.2.2.2.2.2.2.2.2.2.1, .string p1.2.2.2.2.2.2.2.2.2.2.2.2.1, .slice p1.2.2.2.2.2.2.2.2.2.2.2.2.2.1.a p1.2.2.2.2.2.2.2.2.2.2.2.2.2.1.len p1.2.2.2.2.2.2.2.2.2.2.2.2.2.1.cap, .int .i64 p1.2.2.2.2.2.2.2.2.2.2.2.2.2.2.1]] K = F_system_System_config p0 p1 K := by kernel_rfl
theorem C_system_System_config (p0 : Option Addr) (p1 : HT [.int .i64, .str, .str, .int .i64, .int .i64, .str, .int .i64, .int .i64, .int .i64, .int .i64, .int .i64, .str, .str, .slice, .int .i64]) {K : Value → PT} {w : World} (h : F_system_System_config p0 p1 K w) : Calls Pr n_system_System_config [.pointer p0, (.ag [.int .i64 p1.1, .string p1.2.1, .string p1.2.2.1, .int .i64 p1.2.2.2.1, .int .i64 p1.2.2.2.2.1, .string p1.2.2.2.2.2.1, .int .i64 p1.2.2.2.2.2.2.1, .int .i64 p1.2.2.2.2.2.2.2.1, .int .i64 p1.2.2.2.2.2.2.2.2.1, .int .i64 p1.2.2.2.2.2.2.2.2.2.1, .int .i64 p1.2.2.2.2.2.2.2.2.2.2.1, .string p1.2.2.2.2.2.2.2.2.2.2.2.1, .string p1.2.2.2.2.2.2.2.2.2.2.2.2.1, .slice p1.2.2.2.2.2.2.2.2.2.2.2.2.2.1.a p1.2.2.2.2.2.2.2.2.2.2.2.2.2.1.len p1.2.2.2.2.2.2.2.2.2.2.2.2.2.1.cap, .int .i64 p1.2.2.2.2.2.2.2.2.2.2.2.2.2.2.1] : SV).toV].toArray w fun e w2 => ∃ v, e = .returned v ∧ K v w2 :=
  denF_ok Tok (f := 29) (fn := Tryz.f29) (an := A_system_System_config) (args := [.v (.pointer p0), .ag [.int .i64 p1.1, .string p1.2.1, .string p1.2.2.1, .int .i64 p1.2.2.2.1, .int .i64 p1.2.2.2.2.1, .string p1.2.2.2.2.2.1, .int .i64 p1.2.2.2.2.2.2.1, .int .i64 p1.2.2.2.2.2.2.2.1, .int .i64 p1.2.2.2.2.2.2.2.2.1, .int .i64 p1.2.2.2.2.2.2.2.2.2.1, .int .i64 p1.2.2.2.2.2.2.2.2.2.2.1, .string p1.2.2.2.2.2.2.2.2.2.2.2.1, .string p1.2.2.2.2.2.2.2.2.2.2.2.2.1, .slice p1.2.2.2.2.2.2.2.2.2.2.2.2.2.1.a p1.2.2.2.2.2.2.2.2.2.2.2.2.2.1.len p1.2.2.2.2.2.2.2.2.2.2.2.2.2.1.cap, .int .i64 p1.2.2.2.2.2.2.2.2.2.2.2.2.2.2.1]]) (by kernel_rfl) (by kernel_rfl) ((congrFun (D_system_System_config p0 p1 K) w).mpr h)
theorem E_system_System_config : Enters Pr n_system_System_config := enters_of_B (by kernel_rfl)
def A_system_System_tick : Ann := (.seq .auto (.seq .auto (.seq .auto (.seq .auto (.seq (.seq .auto (.one [(33, (.one (.int .i64)))] .auto) none) .auto none) none) none) none) none)
def F_system_System_tick (p0 : Option Addr) (p1 : HT [.int .i64, .str, .str, .int .i64, .int .i64, .str, .int .i64, .int .i64, .int .i64, .int .i64, .int .i64, .str, .str, .slice, .int .i64]) (K : Value → PT) : PT :=
 L.new [.int .i64 p1.1, .string p1.2.1, .string p1.2.2.1, .int .i64 p1.2.2.2.1, .int .i64 p1.2.2.2.2.1, .string p1.2.2.2.2.2.1, .int .i64 p1.2.2.2.2.2.2.1, .int .i64 p1.2.2.2.2.2.2.2.1, .int .i64 p1.2.2.2.2.2.2.2.2.1, .int .i64 p1.2.2.2.2.2.2.2.2.2.1, .int .i64 p1.2.2.2.2.2.2.2.2.2.2.1, .string p1.2.2.2.2.2.2.2.2.2.2.2.1, .string p1.2.2.2.2.2.2.2.2.2.2.2.2.1, .slice p1.2.2.2.2.2.2.2.2.2.2.2.2.2.1.a p1.2.2.2.2.2.2.2.2.2.2.2.2.2.1.len p1.2.2.2.2.2.2.2.2.2.2.2.2.2.1.cap, .int .i64 p1.2.2.2.2.2.2.2.2.2.2.2.2.2.2.1] T_api_Event fun b1 =>
 L.nonnil p0 fun a2 =>
 L.load (.one (.int .i64)) (a2.add 6) fun (x3 : Int) =>
 L.ite (decide (x3 ≥ 1048576)) (
  L.call Pr n_system_refused [.int .i64 9] (.one (.one (.slice))) fun (x4 : Sl) =>
  K (.slice x4.a x4.len x4.cap)) <|
 L.nonnil p0 fun a5 =>
 L.load (.one (.int .i64)) (a5.add 6) fun (x6 : Int) =>
 L.nonnil p0 fun a7 =>
 L.store (a7.add 6) [.int .i64 (IntKind.wrap .i64 (x6 + 1))] <|
 L.draw <|
 L.nonnil p0 fun a8 =>
 L.load (.one (.ptr)) (a8.add 4) fun (x9 : Option Addr) =>
 L.nonnil p0 fun a10 =>
 L.load (.one (.int .i64)) (a10.add 6) fun (x11 : Int) =>
 L.call Pr n_gate_Gate_Tick [.pointer x9, .int .i64 x11] (.one (.one (.slice))) fun (x12 : Sl) =>
 L.call Pr n_system_System_Revisions [.pointer p0] (.one (.one (.slice))) fun (x13 : Sl) =>
 L.loop (Y := Int × Unit) (0, ()) fun y14 again15 =>
 L.ite (decide (y14.1 < ((x13.len : Nat) : Int))) (
  L.idx x13.a y14.1 x13.len 1 fun a16 =>
  L.load (.one (.str)) a16 fun (x17 : ByteArray) =>
  L.draw <|
  L.nonnil p0 fun a18 =>
  L.load (.one (.map)) (a18.add 5) fun (x19 : Option Nat) =>
  L.semR Pr (.one (.one (.ptr))) (Instr.lookup T_system_things_p_system_beside (.map x19) (.string x17) false) fun (x20 : Option Addr) =>
  L.nonnil x20 fun a21 =>
  L.load (.one (.ptr)) (a21.add 0) fun (x22 : Option Addr) =>
  L.nonnil p0 fun a23 =>
  L.load (.one (.ptr)) (a23.add 4) fun (x24 : Option Addr) =>
  L.call Pr n_gate_Gate_Busy [.pointer x24, .string x17] (.one (.one (.int .i64))) fun (x25 : Int) =>
  L.chk (a21.add 0) [.pointer x22] <|
  L.chkSem Pr (Instr.lookup T_system_things_p_system_beside (.map x19) (.string x17) false) (.pointer x20) <|
  L.chk (a18.add 5) [.map x19] <|
  L.call Pr n_gauge_Gauge_Add [.pointer x22, .int .i64 x25] (.tup []) fun (x26 : Unit) =>
  again15 (IntKind.wrap .i64 (y14.1 + 1), ())) <|
 L.nonnil p0 fun a27 =>
 L.load (.one (.int .i64)) (a27.add 6) fun (x28 : Int) =>
 L.new [.int .i64 x28] T_int fun b29 =>
 L.call Pr n_system_line_int [.string s_tick, .slice (some ⟨b29, 0, none⟩) 1 1] (.one (.one (.str))) fun (x30 : ByteArray) =>
 L.new [.string x30] T_string fun b31 =>
 L.call Pr n_system_told [.slice x12.a x12.len x12.cap, .slice (some ⟨b31, 0, none⟩) 1 1] (.one (.one (.slice))) fun (x32 : Sl) =>
 K (.slice x32.a x32.len x32.cap)
theorem D_system_System_tick (p0 : Option Addr) (p1 : HT [.int .i64, .str, .str, .int .i64, .int .i64, .str, .int .i64, .int .i64, .int .i64, .int .i64, .int .i64, .str, .str, .slice, .int .i64]) (K : Value → PT) : denF Pr Dt Tryz.f36 A_system_System_tick [.v (.pointer p0), .ag [.int .i64 p1.1, .string p1.2.1, .string p1.2.2.1, .int .i64 p1.2.2.2.1, .int .i64 p1.2.2.2.2.1, .string p1.2.2.2.2.2.1, .int .i64 p1.2.2.2.2.2.2.1, .int .i64 p1.2.2.2.2.2.2.2.1, .int .i64 p1.2.2.2.2.2.2.2.2.1, .int .i64 p1.2.2.2.2.2.2.2.2.2.1, .int .i64 p1.2.2.2.2.2.2.2.2.2.2.1, .string p1.2.2.2.2.2.2.2.2.2.2.2.1, .string p1.2.2.2.2.2.2.2.2.2.2.2.2.1, .slice p1.2.2.2.2.2.2.2.2.2.2.2.2.2.1.a p1.2.2.2.2.2.2.2.2.2.2.2.2.2.1.len p1.2.2.2.2.2.2.2.2.2.2.2.2.2.1.cap, .int .i64 p1.2.2.2.2.2.2.2.2.2.2.2.2.2.2.1]] K = F_system_System_tick p0 p1 K := by kernel_rfl
theorem C_system_System_tick (p0 : Option Addr) (p1 : HT [.int .i64, .str, .str, .int .i64, .int .i64, .str, .int .i64, .int .i64, .int .i64, .int .i64, .int .i64, .str, .str, .slice, .int .i64]) {K : Value → PT} {w : World} (h : F_system_System_tick p0 p1 K w) : Calls Pr n_system_System_tick [.pointer p0, (.ag [.int .i64 p1.1, .string p1.2.1, .string p1.2.2.1, .int .i64 p1.2.2.2.1, .int .i64 p1.2.2.2.2.1, .string p1.2.2.2.2.2.1, .int .i64 p1.2.2.2.2.2.2.1, .int .i64 p1.2.2.2.2.2.2.2.1, .int .i64 p1.2.2.2.2.2.2.2.2.1, .int .i64 p1.2.2.2.2.2.2.2.2.2.1, .int .i64 p1.2.2.2.2.2.2.2.2.2.2.1, .string p1.2.2.2.2.2.2.2.2.2.2.2.1, .string p1.2.2.2.2.2.2.2.2.2.2.2.2.1, .slice p1.2.2.2.2.2.2.2.2.2.2.2.2.2.1.a p1.2.2.2.2.2.2.2.2.2.2.2.2.2.1.len p1.2.2.2.2.2.2.2.2.2.2.2.2.2.1.cap, .int .i64 p1.2.2.2.2.2.2.2.2.2.2.2.2.2.2.1] : SV).toV].toArray w fun e w2 => ∃ v, e = .returned v ∧ K v w2 :=
  denF_ok Tok (f := 36) (fn := Tryz.f36) (an := A_system_System_tick) (args := [.v (.pointer p0), .ag [.int .i64 p1.1, .string p1.2.1, .string p1.2.2.1, .int .i64 p1.2.2.2.1, .int .i64 p1.2.2.2.2.1, .string p1.2.2.2.2.2.1, .int .i64 p1.2.2.2.2.2.2.1, .int .i64 p1.2.2.2.2.2.2.2.1, .int .i64 p1.2.2.2.2.2.2.2.2.1, .int .i64 p1.2.2.2.2.2.2.2.2.2.1, .int .i64 p1.2.2.2.2.2.2.2.2.2.2.1, .string p1.2.2.2.2.2.2.2.2.2.2.2.1, .string p1.2.2.2.2.2.2.2.2.2.2.2.2.1, .slice p1.2.2.2.2.2.2.2.2.2.2.2.2.2.1.a p1.2.2.2.2.2.2.2.2.2.2.2.2.2.1.len p1.2.2.2.2.2.2.2.2.2.2.2.2.2.1.cap, .int .i64 p1.2.2.2.2.2.2.2.2.2.2.2.2.2.2.1]]) (by kernel_rfl) (by kernel_rfl) ((congrFun (D_system_System_tick p0 p1 K) w).mpr h)
theorem E_system_System_tick : Enters Pr n_system_System_tick := enters_of_B (by kernel_rfl)
def A_system_System_stamp : Ann := (.seq .auto (.seq (.one [(5, (.one (.adr))), (7, (.one (.int .i64))), (8, (.one (.bool)))] .auto) .auto none) none)
def F_system_System_stamp (p0 : Option Addr) (p1 : HT [.int .i64, .str, .str, .int .i64, .int .i64, .str, .int .i64, .int .i64, .int .i64, .int .i64, .int .i64, .str, .str, .slice, .int .i64]) (K : Value → PT) : PT :=
 L.new [.int .i64 p1.1, .string p1.2.1, .string p1.2.2.1, .int .i64 p1.2.2.2.1, .int .i64 p1.2.2.2.2.1, .string p1.2.2.2.2.2.1, .int .i64 p1.2.2.2.2.2.2.1, .int .i64 p1.2.2.2.2.2.2.2.1, .int .i64 p1.2.2.2.2.2.2.2.2.1, .int .i64 p1.2.2.2.2.2.2.2.2.2.1, .int .i64 p1.2.2.2.2.2.2.2.2.2.2.1, .string p1.2.2.2.2.2.2.2.2.2.2.2.1, .string p1.2.2.2.2.2.2.2.2.2.2.2.2.1, .slice p1.2.2.2.2.2.2.2.2.2.2.2.2.2.1.a p1.2.2.2.2.2.2.2.2.2.2.2.2.2.1.len p1.2.2.2.2.2.2.2.2.2.2.2.2.2.1.cap, .int .i64 p1.2.2.2.2.2.2.2.2.2.2.2.2.2.2.1] T_api_Event fun b1 =>
 L.join (Y := Addr × Int × Bool × Unit) (fun k2 =>
  L.draw <|
  L.nonnil p0 fun a4 =>
  L.load (.one (.ptr)) (a4.add 0) fun (x5 : Option Addr) =>
  L.load (.one (.str)) ((⟨b1, 0, none⟩ : Addr).add 1) fun (x6 : ByteArray) =>
  L.alts [(
    L.call Pr n_shelf_Shelf_Config [.pointer x5, .string x6] (.tup [(.agg [.str, .int .i64, .int .i64, .int .i64, .int .i64, .int .i64]), (.one (.int .i64)), (.one (.int .i64)), (.one (.bool))]) fun (x7 : (ByteArray × Int × Int × Int × Int × Int × Unit) × Int × Int × Bool × Unit) =>
    L.new [.string s_, .int .i64 0, .int .i64 0, .int .i64 0, .int .i64 0, .int .i64 0] T_api_Config fun b8 =>
    L.chk ((⟨b1, 0, none⟩ : Addr).add 1) [.string x6] <|
    L.chk (a4.add 0) [.pointer x5] <|
    L.store (⟨b8, 0, none⟩) [.string x7.1.1, .int .i64 x7.1.2.1, .int .i64 x7.1.2.2.1, .int .i64 x7.1.2.2.2.1, .int .i64 x7.1.2.2.2.2.1, .int .i64 x7.1.2.2.2.2.2.1] <|
    k2 (⟨b8, 0, none⟩, x7.2.2.1, x7.2.2.2.1, ())),(
    L.new [.string s_, .int .i64 0, .int .i64 0, .int .i64 0, .int .i64 0, .int .i64 0] T_api_Config fun b9 =>
    L.chk ((⟨b1, 0, none⟩ : Addr).add 1) [.string x6] <|
    L.chk (a4.add 0) [.pointer x5] <|
    L.call Pr n_shelf_Shelf_Config [.pointer x5, .string x6] (.tup [(.agg [.str, .int .i64, .int .i64, .int .i64, .int .i64, .int .i64]), (.one (.int .i64)), (.one (.int .i64)), (.one (.bool))]) fun (x10 : (ByteArray × Int × Int × Int × Int × Int × Unit) × Int × Int × Bool × Unit) =>
    L.store (⟨b9, 0, none⟩) [.string x10.1.1, .int .i64 x10.1.2.1, .int .i64 x10.1.2.2.1, .int .i64 x10.1.2.2.2.1, .int .i64 x10.1.2.2.2.2.1, .int .i64 x10.1.2.2.2.2.2.1] <|
    k2 (⟨b9, 0, none⟩, x10.2.2.1, x10.2.2.2.1, ()))]) fun z3 =>
 L.ite (!z3.2.2.1) (
  L.call Pr n_system_refused [.int .i64 6] (.one (.one (.slice))) fun (x11 : Sl) =>
  K (.slice x11.a x11.len x11.cap)) <|
 L.ite (decide (z3.2.1 > 999999)) (
  L.call Pr n_system_refused [.int .i64 3] (.one (.one (.slice))) fun (x12 : Sl) =>
  K (.slice x12.a x12.len x12.cap)) <|
 L.draw <|
 L.nonnil p0 fun a13 =>
 L.load (.one (.ptr)) (a13.add 1) fun (x14 : Option Addr) =>
 L.load (.agg [.str, .int .i64, .int .i64, .int .i64, .int .i64, .int .i64]) z3.1 fun (x15 : ByteArray × Int × Int × Int × Int × Int × Unit) =>
 L.call Pr n_stamp_Book_Stamp [.pointer x14, .agg #[.string x15.1, .int .i64 x15.2.1, .int .i64 x15.2.2.1, .int .i64 x15.2.2.2.1, .int .i64 x15.2.2.2.2.1, .int .i64 x15.2.2.2.2.2.1], .int .i64 z3.2.1] (.tup [(.one (.str)), (.one (.bool))]) fun (x16 : ByteArray × Bool × Unit) =>
 L.ite (!x16.2.1) (
  L.new [.string x16.1] T_string fun b17 =>
  L.call Pr n_system_line_string [.string s_same, .slice (some ⟨b17, 0, none⟩) 1 1] (.one (.one (.str))) fun (x18 : ByteArray) =>
  L.new [.string x18] T_string fun b19 =>
  K (.slice (some ⟨b19, 0, none⟩) 1 1)) <|
 L.load (.one (.int .i64)) (z3.1.add 3) fun (x20 : Int) =>
 L.draw <|
 L.nonnil p0 fun a21 =>
 L.load (.one (.map)) (a21.add 5) fun (x22 : Option Nat) =>
 L.call Pr n_gauge_New [] (.one (.one (.ptr))) fun (x23 : Option Addr) =>
 L.chk (a21.add 5) [.map x22] <|
 L.new [.pointer x23, .int .i64 (if 1 > x20 then 1 else x20), .int .i64 0] T_system_beside fun b24 =>
 L.chk (a21.add 5) [.map x22] <|
 L.semU Pr (Instr.mapUpdate T_system_things_p_system_beside (.map x22) (.string x16.1) (.pointer (some (⟨b24, 0, none⟩)))) <|
 L.new [.string x16.1] T_string fun b25 =>
 L.call Pr n_system_line_string [.string s_revision, .slice (some ⟨b25, 0, none⟩) 1 1] (.one (.one (.str))) fun (x26 : ByteArray) =>
 L.new [.string x16.1] T_string fun b27 =>
 L.call Pr n_system_line_string [.string s_scale, .slice (some ⟨b27, 0, none⟩) 1 1] (.one (.one (.str))) fun (x28 : ByteArray) =>
 L.new [.int .i64 (if 1 > x20 then 1 else x20)] T_int fun b29 =>
 L.call Pr n_system_line_int [.string x28, .slice (some ⟨b29, 0, none⟩) 1 1] (.one (.one (.str))) fun (x30 : ByteArray) =>
 L.new [.string x26, .string x30] T_string fun b31 =>
 K (.slice (some ⟨b31, 0, none⟩) 2 2)
theorem D_system_System_stamp (p0 : Option Addr) (p1 : HT [.int .i64, .str, .str, .int .i64, .int .i64, .str, .int .i64, .int .i64, .int .i64, .int .i64, .int .i64, .str, .str, .slice, .int .i64]) (K : Value → PT) : denF Pr Dt Tryz.f37 A_system_System_stamp [.v (.pointer p0), .ag [.int .i64 p1.1, .string p1.2.1, .string p1.2.2.1, .int .i64 p1.2.2.2.1, .int .i64 p1.2.2.2.2.1, .string p1.2.2.2.2.2.1, .int .i64 p1.2.2.2.2.2.2.1, .int .i64 p1.2.2.2.2.2.2.2.1, .int .i64 p1.2.2.2.2.2.2.2.2.1, .int .i64 p1.2.2.2.2.2.2.2.2.2.1, .int .i64 p1.2.2.2.2.2.2.2.2.2.2.1, .string p1.2.2.2.2.2.2.2.2.2.2.2.1, .string p1.2.2.2.2.2.2.2.2.2.2.2.2.1, .slice p1.2.2.2.2.2.2.2.2.2.2.2.2.2.1.a p1.2.2.2.2.2.2.2.2.2.2.2.2.2.1.len p1.2.2.2.2.2.2.2.2.2.2.2.2.2.1.cap, .int .i64 p1.2.2.2.2.2.2.2.2.2.2.2.2.2.2.1]] K = F_system_System_stamp p0 p1 K := by kernel_rfl
theorem C_system_System_stamp (p0 : Option Addr) (p1 : HT [.int .i64, .str, .str, .int .i64, .int .i64, .str, .int .i64, .int .i64, .int .i64, .int .i64, .int .i64, .str, .str, .slice, .int .i64]) {K : Value → PT} {w : World} (h : F_system_System_stamp p0 p1 K w) : Calls Pr n_system_System_stamp [.pointer p0, (.ag [.int .i64 p1.1, .string p1.2.1, .string p1.2.2.1, .int .i64 p1.2.2.2.1, .int .i64 p1.2.2.2.2.1, .string p1.2.2.2.2.2.1, .int .i64 p1.2.2.2.2.2.2.1, .int .i64 p1.2.2.2.2.2.2.2.1, .int .i64 p1.2.2.2.2.2.2.2.2.1, .int .i64 p1.2.2.2.2.2.2.2.2.2.1, .int .i64 p1.2.2.2.2.2.2.2.2.2.2.1, .string p1.2.2.2.2.2.2.2.2.2.2.2.1, .string p1.2.2.2.2.2.2.2.2.2.2.2.2.1, .slice p1.2.2.2.2.2.2.2.2.2.2.2.2.2.1.a p1.2.2.2.2.2.2.2.2.2.2.2.2.2.1.len p1.2.2.2.2.2.2.2.2.2.2.2.2.2.1.cap, .int .i64 p1.2.2.2.2.2.2.2.2.2.2.2.2.2.2.1] : SV).toV].toArray w fun e w2 => ∃ v, e = .returned v ∧ K v w2 :=
  denF_ok Tok (f := 37) (fn := Tryz.f37) (an := A_system_System_stamp) (args := [.v (.pointer p0), .ag [.int .i64 p1.1, .string p1.2.1, .string p1.2.2.1, .int .i64 p1.2.2.2.1, .int .i64 p1.2.2.2.2.1, .string p1.2.2.2.2.2.1, .int .i64 p1.2.2.2.2.2.2.1, .int .i64 p1.2.2.2.2.2.2.2.1, .int .i64 p1.2.2.2.2.2.2.2.2.1, .int .i64 p1.2.2.2.2.2.2.2.2.2.1, .int .i64 p1.2.2.2.2.2.2.2.2.2.2.1, .string p1.2.2.2.2.2.2.2.2.2.2.2.1, .string p1.2.2.2.2.2.2.2.2.2.2.2.2.1, .slice p1.2.2.2.2.2.2.2.2.2.2.2.2.2.1.a p1.2.2.2.2.2.2.2.2.2.2.2.2.2.1.len p1.2.2.2.2.2.2.2.2.2.2.2.2.2.1.cap, .int .i64 p1.2.2.2.2.2.2.2.2.2.2.2.2.2.2.1]]) (by kernel_rfl) (by kernel_rfl) ((congrFun (D_system_System_stamp p0 p1 K) w).mpr h)
theorem E_system_System_stamp : Enters Pr n_system_System_stamp := enters_of_B (by kernel_rfl)
def A_damperref1_Name : Ann := (.seq .auto (.seq .auto (.seq (.seq .auto (.one [(3, (.one (.int .i64)))] .auto) none) .auto none) none) none)
def F_damperref1_Name (p0 : ByteArray) (K : Value → PT) : PT :=
 L.ite (decide ((p0.size : Int) < 1)) (
  K (.bool false)) <|
 L.ite (decide ((p0.size : Int) > 16)) (
  K (.bool false)) <|
 L.guard ((0 : Int) ≤ 0 ∧ (0 : Int) < p0.size) <|
 L.ite (decide ((byteAt p0 0) < 97)) (
  K (.bool false)) <|
 L.guard ((0 : Int) ≤ 0 ∧ (0 : Int) < p0.size) <|
 L.ite (decide ((byteAt p0 0) > 122)) (
  K (.bool false)) <|
 L.guard ((0 : Int) ≤ (IntKind.wrap .i64 ((p0.size : Int) - 1)) ∧ (IntKind.wrap .i64 ((p0.size : Int) - 1)) < p0.size) <|
 L.ite ((byteAt p0 (IntKind.wrap .i64 ((p0.size : Int) - 1))) == 45) (
  K (.bool false)) <|
 L.loop (Y := Int × Unit) (0, ()) fun y1 again2 =>
 L.ite (decide (y1.1 < (p0.size : Int))) (
  L.guard ((0 : Int) ≤ y1.1 ∧ y1.1 < p0.size) <|
  L.call Pr n_damperref1_sign [.int .u8 (byteAt p0 y1.1)] (.one (.one (.bool))) fun (x3 : Bool) =>
  L.ite (!x3) (
   K (.bool false)) <|
  again2 (IntKind.wrap .i64 (y1.1 + 1), ())) <|
 K (.bool true)
theorem D_damperref1_Name (p0 : ByteArray) (K : Value → PT) : denF Pr Dt Tryz.f42 A_damperref1_Name [.v (.string p0)] K = F_damperref1_Name p0 K := by kernel_rfl
theorem C_damperref1_Name (p0 : ByteArray) {K : Value → PT} {w : World} (h : F_damperref1_Name p0 K w) : Calls Pr n_damperref1_Name [.string p0].toArray w fun e w2 => ∃ v, e = .returned v ∧ K v w2 :=
  denF_ok Tok (f := 42) (fn := Tryz.f42) (an := A_damperref1_Name) (args := [.v (.string p0)]) (by kernel_rfl) (by kernel_rfl) ((congrFun (D_damperref1_Name p0 K) w).mpr h)
def A_stamp_Book_All : Ann := .auto
def F_stamp_Book_All (p0 : Option Addr) (K : Value → PT) : PT :=
 L.nonnil p0 fun a1 =>
 L.load (.one (.map)) (a1.add 0) fun (x2 : Option Nat) =>
 L.call Pr n_stamp_shelf_api_Revision_names [.map x2] (.one (.one (.slice))) fun (x3 : Sl) =>
 L.call Pr n_slices_Clone_string_string [.slice x3.a x3.len x3.cap] (.one (.one (.slice))) fun (x4 : Sl) =>
 K (.slice x4.a x4.len x4.cap)
theorem D_stamp_Book_All (p0 : Option Addr) (K : Value → PT) : denF Pr Dt Tryz.f43 A_stamp_Book_All [.v (.pointer p0)] K = F_stamp_Book_All p0 K := by kernel_rfl
theorem C_stamp_Book_All (p0 : Option Addr) {K : Value → PT} {w : World} (h : F_stamp_Book_All p0 K w) : Calls Pr n_stamp_Book_All [.pointer p0].toArray w fun e w2 => ∃ v, e = .returned v ∧ K v w2 :=
  denF_ok Tok (f := 43) (fn := Tryz.f43) (an := A_stamp_Book_All) (args := [.v (.pointer p0)]) (by kernel_rfl) (by kernel_rfl) ((congrFun (D_stamp_Book_All p0 K) w).mpr h)
def A_shelf_made_api_Config : Ann := .auto
def F_shelf_made_api_Config (p0 : FV) (K : Value → PT) : PT :=
 L.sem Pr (.one (.one .map)) (Instr.makeMap T_map_string_shelf_thing_api_Config none) fun (m1 : Option Nat) =>
 L.new [.map m1, .func p0.fn p0.fs p0.cs] T_shelf_rack_api_Config fun b2 =>
 K (.pointer (some (⟨b2, 0, none⟩)))
theorem D_shelf_made_api_Config (p0 : FV) (K : Value → PT) : denF Pr Dt Tryz.f44 A_shelf_made_api_Config [.v (.func p0.fn p0.fs p0.cs)] K = F_shelf_made_api_Config p0 K := by kernel_rfl
theorem C_shelf_made_api_Config (p0 : FV) {K : Value → PT} {w : World} (h : F_shelf_made_api_Config p0 K w) : Calls Pr n_shelf_made_api_Config [.func p0.fn p0.fs p0.cs].toArray w fun e w2 => ∃ v, e = .returned v ∧ K v w2 :=
  denF_ok Tok (f := 44) (fn := Tryz.f44) (an := A_shelf_made_api_Config) (args := [.v (.func p0.fn p0.fs p0.cs)]) (by kernel_rfl) (by kernel_rfl) ((congrFun (D_shelf_made_api_Config p0 K) w).mpr h)
def A_shelf_New_1 : Ann := .auto
def F_shelf_New_1 (p0 : HT [.str, .int .i64, .int .i64, .int .i64, .int .i64, .int .i64]) (p1 : HT [.str, .int .i64, .int .i64, .int .i64, .int .i64, .int .i64]) (K : Value → PT) : PT :=
 L.new [.string p0.1, .int .i64 p0.2.1, .int .i64 p0.2.2.1, .int .i64 p0.2.2.2.1, .int .i64 p0.2.2.2.2.1, .int .i64 p0.2.2.2.2.2.1] T_api_Config fun b1 =>
 L.new [.string p1.1, .int .i64 p1.2.1, .int .i64 p1.2.2.1, .int .i64 p1.2.2.2.1, .int .i64 p1.2.2.2.2.1, .int .i64 p1.2.2.2.2.2.1] T_api_Config fun b2 =>
 L.load (.agg [.str, .int .i64, .int .i64, .int .i64, .int .i64, .int .i64]) (⟨b1, 0, none⟩) fun (x3 : ByteArray × Int × Int × Int × Int × Int × Unit) =>
 L.load (.agg [.str, .int .i64, .int .i64, .int .i64, .int .i64, .int .i64]) (⟨b2, 0, none⟩) fun (x4 : ByteArray × Int × Int × Int × Int × Int × Unit) =>
 L.chkSem Pr (do eqGuard .eql T_api_Config (.tmp 0) (.tmp 0) (.agg #[.string x3.1, .int .i64 x3.2.1, .int .i64 x3.2.2.1, .int .i64 x3.2.2.2.1, .int .i64 x3.2.2.2.2.1, .int .i64 x3.2.2.2.2.2.1]) (.agg #[.string x4.1, .int .i64 x4.2.1, .int .i64 x4.2.2.1, .int .i64 x4.2.2.2.1, .int .i64 x4.2.2.2.2.1, .int .i64 x4.2.2.2.2.2.1]); binOp .eql T_api_Config (.agg #[.string x3.1, .int .i64 x3.2.1, .int .i64 x3.2.2.1, .int .i64 x3.2.2.2.1, .int .i64 x3.2.2.2.2.1, .int .i64 x3.2.2.2.2.2.1]) (.agg #[.string x4.1, .int .i64 x4.2.1, .int .i64 x4.2.2.1, .int .i64 x4.2.2.2.1, .int .i64 x4.2.2.2.2.1, .int .i64 x4.2.2.2.2.2.1])) (.bool ((x3.1 == x4.1) && ((x3.2.1 == x4.2.1) && ((x3.2.2.1 == x4.2.2.1) && ((x3.2.2.2.1 == x4.2.2.2.1) && ((x3.2.2.2.2.1 == x4.2.2.2.2.1) && ((x3.2.2.2.2.2.1 == x4.2.2.2.2.2.1) && true))))))) <|
 K (.bool ((x3.1 == x4.1) && ((x3.2.1 == x4.2.1) && ((x3.2.2.1 == x4.2.2.1) && ((x3.2.2.2.1 == x4.2.2.2.1) && ((x3.2.2.2.2.1 == x4.2.2.2.2.1) && ((x3.2.2.2.2.2.1 == x4.2.2.2.2.2.1) && true)))))))
theorem D_shelf_New_1 (p0 : HT [.str, .int .i64, .int .i64, .int .i64, .int .i64, .int .i64]) (p1 : HT [.str, .int .i64, .int .i64, .int .i64, .int .i64, .int .i64]) (K : Value → PT) : denF Pr Dt Tryz.f45 A_shelf_New_1 [.ag [.string p0.1, .int .i64 p0.2.1, .int .i64 p0.2.2.1, .int .i64 p0.2.2.2.1, .int .i64 p0.2.2.2.2.1, .int .i64 p0.2.2.2.2.2.1], .ag [.string p1.1, .int .i64 p1.2.1, .int .i64 p1.2.2.1, .int .i64 p1.2.2.2.1, .int .i64 p1.2.2.2.2.1, .int .i64 p1.2.2.2.2.2.1]] K = F_shelf_New_1 p0 p1 K := by kernel_rfl
theorem C_shelf_New_1 (p0 : HT [.str, .int .i64, .int .i64, .int .i64, .int .i64, .int .i64]) (p1 : HT [.str, .int .i64, .int .i64, .int .i64, .int .i64, .int .i64]) {K : Value → PT} {w : World} (h : F_shelf_New_1 p0 p1 K w) : Calls Pr n_shelf_New_1 [(.ag [.string p0.1, .int .i64 p0.2.1, .int .i64 p0.2.2.1, .int .i64 p0.2.2.2.1, .int .i64 p0.2.2.2.2.1, .int .i64 p0.2.2.2.2.2.1] : SV).toV, (.ag [.string p1.1, .int .i64 p1.2.1, .int .i64 p1.2.2.1, .int .i64 p1.2.2.2.1, .int .i64 p1.2.2.2.2.1, .int .i64 p1.2.2.2.2.2.1] : SV).toV].toArray w fun e w2 => ∃ v, e = .returned v ∧ K v w2 :=
  denF_ok Tok (f := 45) (fn := Tryz.f45) (an := A_shelf_New_1) (args := [.ag [.string p0.1, .int .i64 p0.2.1, .int .i64 p0.2.2.1, .int .i64 p0.2.2.2.1, .int .i64 p0.2.2.2.2.1, .int .i64 p0.2.2.2.2.2.1], .ag [.string p1.1, .int .i64 p1.2.1, .int .i64 p1.2.2.1, .int .i64 p1.2.2.2.1, .int .i64 p1.2.2.2.2.1, .int .i64 p1.2.2.2.2.2.1]]) (by kernel_rfl) (by kernel_rfl) ((congrFun (D_shelf_New_1 p0 p1 K) w).mpr h)
theorem E_shelf_New_1 : Enters Pr n_shelf_New_1 := enters_of_B (by kernel_rfl)
def A_shelf_made_api_Route : Ann := .auto
def F_shelf_made_api_Route (p0 : FV) (K : Value → PT) : PT :=
 L.sem Pr (.one (.one .map)) (Instr.makeMap T_map_string_shelf_thing_api_Route none) fun (m1 : Option Nat) =>
 L.new [.map m1, .func p0.fn p0.fs p0.cs] T_shelf_rack_api_Route fun b2 =>
 K (.pointer (some (⟨b2, 0, none⟩)))
theorem D_shelf_made_api_Route (p0 : FV) (K : Value → PT) : denF Pr Dt Tryz.f46 A_shelf_made_api_Route [.v (.func p0.fn p0.fs p0.cs)] K = F_shelf_made_api_Route p0 K := by kernel_rfl
theorem C_shelf_made_api_Route (p0 : FV) {K : Value → PT} {w : World} (h : F_shelf_made_api_Route p0 K w) : Calls Pr n_shelf_made_api_Route [.func p0.fn p0.fs p0.cs].toArray w fun e w2 => ∃ v, e = .returned v ∧ K v w2 :=
  denF_ok Tok (f := 46) (fn := Tryz.f46) (an := A_shelf_made_api_Route) (args := [.v (.func p0.fn p0.fs p0.cs)]) (by kernel_rfl) (by kernel_rfl) ((congrFun (D_shelf_made_api_Route p0 K) w).mpr h)
def A_event_shape : Ann := (.seq .auto (.seq (.seq .auto (.seq .auto (.cond .auto (.seq .auto (.cond .auto (.seq .auto (.cond .auto (.seq .auto (.cond .auto (.seq .auto (.cond .auto (.seq .auto (.cond .auto (.seq .auto .auto (some [(26, (.one (.bool)))]))) none)) (some [(17, (.one (.bool)))]))) none)) none)) none)) none) none) .auto none) none)
def F_event_shape (p0 : Int) (K : Value → PT) : PT :=
 L.new [.bool false, .bool false, .bool false, .bool false, .bool false, .bool false] T_event_has fun b1 =>
 L.ite (p0 == 1) (
  L.store (⟨b1, 0, none⟩) [.bool true, .bool false, .bool false, .bool false, .bool true, .bool false] <|
  L.load (.agg [.bool, .bool, .bool, .bool, .bool, .bool]) (⟨b1, 0, none⟩) fun (x2 : Bool × Bool × Bool × Bool × Bool × Bool × Unit) =>
  K (.tuple #[.agg #[.bool x2.1, .bool x2.2.1, .bool x2.2.2.1, .bool x2.2.2.2.1, .bool x2.2.2.2.2.1, .bool x2.2.2.2.2.2.1], .bool true])) <|
 L.ite (p0 == 2) (
  L.store (⟨b1, 0, none⟩) [.bool true, .bool false, .bool false, .bool false, .bool false, .bool true] <|
  L.load (.agg [.bool, .bool, .bool, .bool, .bool, .bool]) (⟨b1, 0, none⟩) fun (x3 : Bool × Bool × Bool × Bool × Bool × Bool × Unit) =>
  K (.tuple #[.agg #[.bool x3.1, .bool x3.2.1, .bool x3.2.2.1, .bool x3.2.2.2.1, .bool x3.2.2.2.2.1, .bool x3.2.2.2.2.2.1], .bool true])) <|
 L.ite (p0 == 3) (
  L.store (⟨b1, 0, none⟩) [.bool true, .bool true, .bool false, .bool true, .bool false, .bool false] <|
  L.load (.agg [.bool, .bool, .bool, .bool, .bool, .bool]) (⟨b1, 0, none⟩) fun (x4 : Bool × Bool × Bool × Bool × Bool × Bool × Unit) =>
  K (.tuple #[.agg #[.bool x4.1, .bool x4.2.1, .bool x4.2.2.1, .bool x4.2.2.2.1, .bool x4.2.2.2.2.1, .bool x4.2.2.2.2.2.1], .bool true])) <|
 L.ite (p0 == 4) (
  L.store (⟨b1, 0, none⟩) [.bool true, .bool true, .bool true, .bool true, .bool false, .bool false] <|
  L.load (.agg [.bool, .bool, .bool, .bool, .bool, .bool]) (⟨b1, 0, none⟩) fun (x5 : Bool × Bool × Bool × Bool × Bool × Bool × Unit) =>
  K (.tuple #[.agg #[.bool x5.1, .bool x5.2.1, .bool x5.2.2.1, .bool x5.2.2.2.1, .bool x5.2.2.2.2.1, .bool x5.2.2.2.2.2.1], .bool true])) <|
 L.join (Y := Bool × Unit) (fun k6 =>
  L.ite (p0 == 5) (
   k6 (p0 == 5, ())) <|
  L.ite (p0 == 6) (
   k6 (p0 == 6, ())) <|
  L.ite (p0 == 7) (
   k6 (p0 == 7, ())) <|
  k6 (p0 == 8, ())) fun z7 =>
 L.ite z7.1 (
  L.store (⟨b1, 0, none⟩) [.bool true, .bool false, .bool false, .bool false, .bool false, .bool false] <|
  L.load (.agg [.bool, .bool, .bool, .bool, .bool, .bool]) (⟨b1, 0, none⟩) fun (x8 : Bool × Bool × Bool × Bool × Bool × Bool × Unit) =>
  K (.tuple #[.agg #[.bool x8.1, .bool x8.2.1, .bool x8.2.2.1, .bool x8.2.2.2.1, .bool x8.2.2.2.2.1, .bool x8.2.2.2.2.2.1], .bool true])) <|
 L.ite (p0 == 9) (
  L.store (⟨b1, 0, none⟩) [.bool false, .bool false, .bool false, .bool false, .bool false, .bool false] <|
  L.load (.agg [.bool, .bool, .bool, .bool, .bool, .bool]) (⟨b1, 0, none⟩) fun (x9 : Bool × Bool × Bool × Bool × Bool × Bool × Unit) =>
  K (.tuple #[.agg #[.bool x9.1, .bool x9.2.1, .bool x9.2.2.1, .bool x9.2.2.2.1, .bool x9.2.2.2.2.1, .bool x9.2.2.2.2.2.1], .bool true])) <|
 L.join (Y := Bool × Unit) (fun k10 =>
  L.ite (p0 == 10) (
   k10 (p0 == 10, ())) <|
  L.ite (p0 == 11) (
   k10 (p0 == 11, ())) <|
  L.ite (p0 == 12) (
   k10 (p0 == 12, ())) <|
  k10 (p0 == 13, ())) fun z11 =>
 L.ite z11.1 (
  L.store (⟨b1, 0, none⟩) [.bool false, .bool true, .bool false, .bool false, .bool false, .bool false] <|
  L.load (.agg [.bool, .bool, .bool, .bool, .bool, .bool]) (⟨b1, 0, none⟩) fun (x12 : Bool × Bool × Bool × Bool × Bool × Bool × Unit) =>
  K (.tuple #[.agg #[.bool x12.1, .bool x12.2.1, .bool x12.2.2.1, .bool x12.2.2.2.1, .bool x12.2.2.2.2.1, .bool x12.2.2.2.2.2.1], .bool true])) <|
 L.store (⟨b1, 0, none⟩) [.bool false, .bool false, .bool false, .bool false, .bool false, .bool false] <|
 L.load (.agg [.bool, .bool, .bool, .bool, .bool, .bool]) (⟨b1, 0, none⟩) fun (x13 : Bool × Bool × Bool × Bool × Bool × Bool × Unit) =>
 K (.tuple #[.agg #[.bool x13.1, .bool x13.2.1, .bool x13.2.2.1, .bool x13.2.2.2.1, .bool x13.2.2.2.2.1, .bool x13.2.2.2.2.2.1], .bool false])
theorem D_event_shape (p0 : Int) (K : Value → PT) : denF Pr Dt Tryz.f50 A_event_shape [.v (.int .i64 p0)] K = F_event_shape p0 K := by kernel_rfl
theorem C_event_shape (p0 : Int) {K : Value → PT} {w : World} (h : F_event_shape p0 K w) : Calls Pr n_event_shape [.int .i64 p0].toArray w fun e w2 => ∃ v, e = .returned v ∧ K v w2 :=
  denF_ok Tok (f := 50) (fn := Tryz.f50) (an := A_event_shape) (args := [.v (.int .i64 p0)]) (by kernel_rfl) (by kernel_rfl) ((congrFun (D_event_shape p0 K) w).mpr h)
def A_event_none_int : Ann := .auto
def F_event_none_int (p0 : Bool) (p1 : Int) (K : Value → PT) : PT :=
 L.ite p0 (
  K (.bool true)) <|
 K (.bool (p1 == 0))
theorem D_event_none_int (p0 : Bool) (p1 : Int) (K : Value → PT) : denF Pr Dt Tryz.f51 A_event_none_int [.v (.bool p0), .v (.int .i64 p1)] K = F_event_none_int p0 p1 K := by kernel_rfl
theorem C_event_none_int (p0 : Bool) (p1 : Int) {K : Value → PT} {w : World} (h : F_event_none_int p0 p1 K w) : Calls Pr n_event_none_int [.bool p0, .int .i64 p1].toArray w fun e w2 => ∃ v, e = .returned v ∧ K v w2 :=
  denF_ok Tok (f := 51) (fn := Tryz.f51) (an := A_event_none_int) (args := [.v (.bool p0), .v (.int .i64 p1)]) (by kernel_rfl) (by kernel_rfl) ((congrFun (D_event_none_int p0 p1 K) w).mpr h)
def A_event_none_string : Ann := .auto
def F_event_none_string (p0 : Bool) (p1 : ByteArray) (K : Value → PT) : PT :=
 L.ite p0 (
  K (.bool true)) <|
 K (.bool (p1.toList == s_.toList))
theorem D_event_none_string (p0 : Bool) (p1 : ByteArray) (K : Value → PT) : denF Pr Dt Tryz.f52 A_event_none_string [.v (.bool p0), .v (.string p1)] K = F_event_none_string p0 p1 K := by kernel_rfl
theorem C_event_none_string (p0 : Bool) (p1 : ByteArray) {K : Value → PT} {w : World} (h : F_event_none_string p0 p1 K w) : Calls Pr n_event_none_string [.bool p0, .string p1].toArray w fun e w2 => ∃ v, e = .returned v ∧ K v w2 :=
  denF_ok Tok (f := 52) (fn := Tryz.f52) (an := A_event_none_string) (args := [.v (.bool p0), .v (.string p1)]) (by kernel_rfl) (by kernel_rfl) ((congrFun (D_event_none_string p0 p1 K) w).mpr h)
def A_event_none_api_Config : Ann := .auto
def F_event_none_api_Config (p0 : Bool) (p1 : HT [.str, .int .i64, .int .i64, .int .i64, .int .i64, .int .i64]) (K : Value → PT) : PT :=
 L.new [.string p1.1, .int .i64 p1.2.1, .int .i64 p1.2.2.1, .int .i64 p1.2.2.2.1, .int .i64 p1.2.2.2.2.1, .int .i64 p1.2.2.2.2.2.1] T_api_Config fun b1 =>
 L.new [.string s_, .int .i64 0, .int .i64 0, .int .i64 0, .int .i64 0, .int .i64 0] T_api_Config fun b2 =>
 L.ite p0 (
  K (.bool true)) <|
 L.load (.agg [.str, .int .i64, .int .i64, .int .i64, .int .i64, .int .i64]) (⟨b1, 0, none⟩) fun (x3 : ByteArray × Int × Int × Int × Int × Int × Unit) =>
 L.load (.agg [.str, .int .i64, .int .i64, .int .i64, .int .i64, .int .i64]) (⟨b2, 0, none⟩) fun (x4 : ByteArray × Int × Int × Int × Int × Int × Unit) =>
 L.chkSem Pr (do eqGuard .eql T_api_Config (.tmp 0) (.tmp 0) (.agg #[.string x3.1, .int .i64 x3.2.1, .int .i64 x3.2.2.1, .int .i64 x3.2.2.2.1, .int .i64 x3.2.2.2.2.1, .int .i64 x3.2.2.2.2.2.1]) (.agg #[.string x4.1, .int .i64 x4.2.1, .int .i64 x4.2.2.1, .int .i64 x4.2.2.2.1, .int .i64 x4.2.2.2.2.1, .int .i64 x4.2.2.2.2.2.1]); binOp .eql T_api_Config (.agg #[.string x3.1, .int .i64 x3.2.1, .int .i64 x3.2.2.1, .int .i64 x3.2.2.2.1, .int .i64 x3.2.2.2.2.1, .int .i64 x3.2.2.2.2.2.1]) (.agg #[.string x4.1, .int .i64 x4.2.1, .int .i64 x4.2.2.1, .int .i64 x4.2.2.2.1, .int .i64 x4.2.2.2.2.1, .int .i64 x4.2.2.2.2.2.1])) (.bool ((x3.1 == x4.1) && ((x3.2.1 == x4.2.1) && ((x3.2.2.1 == x4.2.2.1) && ((x3.2.2.2.1 == x4.2.2.2.1) && ((x3.2.2.2.2.1 == x4.2.2.2.2.1) && ((x3.2.2.2.2.2.1 == x4.2.2.2.2.2.1) && true))))))) <|
 K (.bool ((x3.1 == x4.1) && ((x3.2.1 == x4.2.1) && ((x3.2.2.1 == x4.2.2.1) && ((x3.2.2.2.1 == x4.2.2.2.1) && ((x3.2.2.2.2.1 == x4.2.2.2.2.1) && ((x3.2.2.2.2.2.1 == x4.2.2.2.2.2.1) && true)))))))
theorem D_event_none_api_Config (p0 : Bool) (p1 : HT [.str, .int .i64, .int .i64, .int .i64, .int .i64, .int .i64]) (K : Value → PT) : denF Pr Dt Tryz.f53 A_event_none_api_Config [.v (.bool p0), .ag [.string p1.1, .int .i64 p1.2.1, .int .i64 p1.2.2.1, .int .i64 p1.2.2.2.1, .int .i64 p1.2.2.2.2.1, .int .i64 p1.2.2.2.2.2.1]] K = F_event_none_api_Config p0 p1 K := by kernel_rfl
theorem C_event_none_api_Config (p0 : Bool) (p1 : HT [.str, .int .i64, .int .i64, .int .i64, .int .i64, .int .i64]) {K : Value → PT} {w : World} (h : F_event_none_api_Config p0 p1 K w) : Calls Pr n_event_none_api_Config [.bool p0, (.ag [.string p1.1, .int .i64 p1.2.1, .int .i64 p1.2.2.1, .int .i64 p1.2.2.2.1, .int .i64 p1.2.2.2.2.1, .int .i64 p1.2.2.2.2.2.1] : SV).toV].toArray w fun e w2 => ∃ v, e = .returned v ∧ K v w2 :=
  denF_ok Tok (f := 53) (fn := Tryz.f53) (an := A_event_none_api_Config) (args := [.v (.bool p0), .ag [.string p1.1, .int .i64 p1.2.1, .int .i64 p1.2.2.1, .int .i64 p1.2.2.2.1, .int .i64 p1.2.2.2.2.1, .int .i64 p1.2.2.2.2.2.1]]) (by kernel_rfl) (by kernel_rfl) ((congrFun (D_event_none_api_Config p0 p1 K) w).mpr h)
def A_event_bare : Ann := .auto
def F_event_bare (p0 : HT [.str, .str, .slice, .int .i64]) (K : Value → PT) : PT :=
 L.new [.string p0.1, .string p0.2.1, .slice p0.2.2.1.a p0.2.2.1.len p0.2.2.1.cap, .int .i64 p0.2.2.2.1] T_api_Route fun b1 =>
 L.load (.one (.str)) ((⟨b1, 0, none⟩ : Addr).add 0) fun (x2 : ByteArray) =>
 L.ite (x2.toList == s_.toList) (
  L.load (.one (.str)) ((⟨b1, 0, none⟩ : Addr).add 1) fun (x3 : ByteArray) =>
  L.ite (x3.toList == s_.toList) (
   L.load (.one (.int .i64)) ((⟨b1, 0, none⟩ : Addr).add 3) fun (x4 : Int) =>
   L.ite (x4 == 0) (
    L.load (.one (.slice)) ((⟨b1, 0, none⟩ : Addr).add 2) fun (x5 : Sl) =>
    K (.bool (((x5.len : Nat) : Int) == 0))) <|
   K (.bool false)) <|
  K (.bool false)) <|
 K (.bool false)
theorem D_event_bare (p0 : HT [.str, .str, .slice, .int .i64]) (K : Value → PT) : denF Pr Dt Tryz.f54 A_event_bare [.ag [.string p0.1, .string p0.2.1, .slice p0.2.2.1.a p0.2.2.1.len p0.2.2.1.cap, .int .i64 p0.2.2.2.1]] K = F_event_bare p0 K := by kernel_rfl
theorem C_event_bare (p0 : HT [.str, .str, .slice, .int .i64]) {K : Value → PT} {w : World} (h : F_event_bare p0 K w) : Calls Pr n_event_bare [(.ag [.string p0.1, .string p0.2.1, .slice p0.2.2.1.a p0.2.2.1.len p0.2.2.1.cap, .int .i64 p0.2.2.2.1] : SV).toV].toArray w fun e w2 => ∃ v, e = .returned v ∧ K v w2 :=
  denF_ok Tok (f := 54) (fn := Tryz.f54) (an := A_event_bare) (args := [.ag [.string p0.1, .string p0.2.1, .slice p0.2.2.1.a p0.2.2.1.len p0.2.2.1.cap, .int .i64 p0.2.2.2.1]]) (by kernel_rfl) (by kernel_rfl) ((congrFun (D_event_bare p0 K) w).mpr h)
def A_event_number : Ann := (.seq .auto (.seq (.seq .auto (.seq .auto .auto (some [(5, (.one (.bool)))])) none) .auto none) none)
def F_event_number (p0 : HT [.int .i64, .str, .str, .int .i64, .int .i64, .str, .int .i64, .int .i64, .int .i64, .int .i64, .int .i64, .str, .str, .slice, .int .i64]) (K : Value → PT) : PT :=
 L.new [.int .i64 p0.1, .string p0.2.1, .string p0.2.2.1, .int .i64 p0.2.2.2.1, .int .i64 p0.2.2.2.2.1, .string p0.2.2.2.2.2.1, .int .i64 p0.2.2.2.2.2.2.1, .int .i64 p0.2.2.2.2.2.2.2.1, .int .i64 p0.2.2.2.2.2.2.2.2.1, .int .i64 p0.2.2.2.2.2.2.2.2.2.1, .int .i64 p0.2.2.2.2.2.2.2.2.2.2.1, .string p0.2.2.2.2.2.2.2.2.2.2.2.1, .string p0.2.2.2.2.2.2.2.2.2.2.2.2.1, .slice p0.2.2.2.2.2.2.2.2.2.2.2.2.2.1.a p0.2.2.2.2.2.2.2.2.2.2.2.2.2.1.len p0.2.2.2.2.2.2.2.2.2.2.2.2.2.1.cap, .int .i64 p0.2.2.2.2.2.2.2.2.2.2.2.2.2.2.1] T_api_Event fun b1 =>
 L.load (.one (.int .i64)) ((⟨b1, 0, none⟩ : Addr).add 0) fun (x2 : Int) =>
 L.join (Y := Bool × Unit) (fun k3 =>
  L.ite (x2 == 1) (
   k3 (x2 == 1, ())) <|
  k3 (x2 == 2, ())) fun z4 =>
 L.ite z4.1 (
  L.load (.one (.int .i64)) ((⟨b1, 0, none⟩ : Addr).add 3) fun (x5 : Int) =>
  L.call Pr n_event_within [.int .i64 x5, .int .i64 0, .int .i64 2147483647] (.one (.one (.bool))) fun (x6 : Bool) =>
  K (.bool x6)) <|
 L.ite (x2 == 3) (
  L.load (.one (.int .i64)) ((⟨b1, 0, none⟩ : Addr).add 3) fun (x7 : Int) =>
  L.call Pr n_event_within [.int .i64 x7, .int .i64 1, .int .i64 2] (.one (.one (.bool))) fun (x8 : Bool) =>
  K (.bool x8)) <|
 L.load (.one (.int .i64)) ((⟨b1, 0, none⟩ : Addr).add 3) fun (x9 : Int) =>
 L.call Pr n_event_within [.int .i64 x9, .int .i64 1, .int .i64 2147483647] (.one (.one (.bool))) fun (x10 : Bool) =>
 K (.bool x10)
theorem D_event_number (p0 : HT [.int .i64, .str, .str, .int .i64, .int .i64, .str, .int .i64, .int .i64, .int .i64, .int .i64, .int .i64, .str, .str, .slice, .int .i64]) (K : Value → PT) : denF Pr Dt Tryz.f55 A_event_number [.ag [.int .i64 p0.1, .string p0.2.1, .string p0.2.2.1, .int .i64 p0.2.2.2.1, .int .i64 p0.2.2.2.2.1, .string p0.2.2.2.2.2.1, .int .i64 p0.2.2.2.2.2.2.1, .int .i64 p0.2.2.2.2.2.2.2.1, .int .i64 p0.2.2.2.2.2.2.2.2.1, .int .i64 p0.2.2.2.2.2.2.2.2.2.1, .int .i64 p0.2.2.2.2.2.2.2.2.2.2.1, .string p0.2.2.2.2.2.2.2.2.2.2.2.1, .string p0.2.2.2.2.2.2.2.2.2.2.2.2.1, .slice p0.2.2.2.2.2.2.2.2.2.2.2.2.2.1.a p0.2.2.2.2.2.2.2.2.2.2.2.2.2.1.len p0.2.2.2.2.2.2.2.2.2.2.2.2.2.1.cap, .int .i64 p0.2.2.2.2.2.2.2.2.2.2.2.2.2.2.1]] K = F_event_number p0 K := by kernel_rfl
theorem C_event_number (p0 : HT [.int .i64, .str, .str, .int .i64, .int .i64, .str, .int .i64, .int .i64, .int .i64, .int .i64, .int .i64, .str, .str, .slice, .int .i64]) {K : Value → PT} {w : World} (h : F_event_number p0 K w) : Calls Pr n_event_number [(.ag [.int .i64 p0.1, .string p0.2.1, .string p0.2.2.1, .int .i64 p0.2.2.2.1, .int .i64 p0.2.2.2.2.1, .string p0.2.2.2.2.2.1, .int .i64 p0.2.2.2.2.2.2.1, .int .i64 p0.2.2.2.2.2.2.2.1, .int .i64 p0.2.2.2.2.2.2.2.2.1, .int .i64 p0.2.2.2.2.2.2.2.2.2.1, .int .i64 p0.2.2.2.2.2.2.2.2.2.2.1, .string p0.2.2.2.2.2.2.2.2.2.2.2.1, .string p0.2.2.2.2.2.2.2.2.2.2.2.2.1, .slice p0.2.2.2.2.2.2.2.2.2.2.2.2.2.1.a p0.2.2.2.2.2.2.2.2.2.2.2.2.2.1.len p0.2.2.2.2.2.2.2.2.2.2.2.2.2.1.cap, .int .i64 p0.2.2.2.2.2.2.2.2.2.2.2.2.2.2.1] : SV).toV].toArray w fun e w2 => ∃ v, e = .returned v ∧ K v w2 :=
  denF_ok Tok (f := 55) (fn := Tryz.f55) (an := A_event_number) (args := [.ag [.int .i64 p0.1, .string p0.2.1, .string p0.2.2.1, .int .i64 p0.2.2.2.1, .int .i64 p0.2.2.2.2.1, .string p0.2.2.2.2.2.1, .int .i64 p0.2.2.2.2.2.2.1, .int .i64 p0.2.2.2.2.2.2.2.1, .int .i64 p0.2.2.2.2.2.2.2.2.1, .int .i64 p0.2.2.2.2.2.2.2.2.2.1, .int .i64 p0.2.2.2.2.2.2.2.2.2.2.1, .string p0.2.2.2.2.2.2.2.2.2.2.2.1, .string p0.2.2.2.2.2.2.2.2.2.2.2.2.1, .slice p0.2.2.2.2.2.2.2.2.2.2.2.2.2.1.a p0.2.2.2.2.2.2.2.2.2.2.2.2.2.1.len p0.2.2.2.2.2.2.2.2.2.2.2.2.2.1.cap, .int .i64 p0.2.2.2.2.2.2.2.2.2.2.2.2.2.2.1]]) (by kernel_rfl) (by kernel_rfl) ((congrFun (D_event_number p0 K) w).mpr h)
def A_event_named : Ann := .auto
def F_event_named (p0 : HT [.int .i64, .str, .str, .int .i64, .int .i64, .str, .int .i64, .int .i64, .int .i64, .int .i64, .int .i64, .str, .str, .slice, .int .i64]) (K : Value → PT) : PT :=
 L.new [.int .i64 p0.1, .string p0.2.1, .string p0.2.2.1, .int .i64 p0.2.2.2.1, .int .i64 p0.2.2.2.2.1, .string p0.2.2.2.2.2.1, .int .i64 p0.2.2.2.2.2.2.1, .int .i64 p0.2.2.2.2.2.2.2.1, .int .i64 p0.2.2.2.2.2.2.2.2.1, .int .i64 p0.2.2.2.2.2.2.2.2.2.1, .int .i64 p0.2.2.2.2.2.2.2.2.2.2.1, .string p0.2.2.2.2.2.2.2.2.2.2.2.1, .string p0.2.2.2.2.2.2.2.2.2.2.2.2.1, .slice p0.2.2.2.2.2.2.2.2.2.2.2.2.2.1.a p0.2.2.2.2.2.2.2.2.2.2.2.2.2.1.len p0.2.2.2.2.2.2.2.2.2.2.2.2.2.1.cap, .int .i64 p0.2.2.2.2.2.2.2.2.2.2.2.2.2.2.1] T_api_Event fun b1 =>
 L.load (.one (.int .i64)) ((⟨b1, 0, none⟩ : Addr).add 0) fun (x2 : Int) =>
 L.ite (x2 == 12) (
  L.load (.one (.str)) ((⟨b1, 0, none⟩ : Addr).add 1) fun (x3 : ByteArray) =>
  L.call Pr n_label_Split [.string x3] (.tup [(.one (.str)), (.one (.int .i64)), (.one (.bool))]) fun (x4 : ByteArray × Int × Bool × Unit) =>
  K (.bool x4.2.2.1)) <|
 L.load (.one (.int .i64)) ((⟨b1, 0, none⟩ : Addr).add 0) fun (x5 : Int) =>
 L.ite (x5 == 13) (
  L.load (.one (.str)) ((⟨b1, 0, none⟩ : Addr).add 1) fun (x6 : ByteArray) =>
  L.call Pr n_label_Split [.string x6] (.tup [(.one (.str)), (.one (.int .i64)), (.one (.bool))]) fun (x7 : ByteArray × Int × Bool × Unit) =>
  K (.bool x7.2.2.1)) <|
 L.load (.one (.str)) ((⟨b1, 0, none⟩ : Addr).add 1) fun (x8 : ByteArray) =>
 L.call Pr n_label_Name [.string x8] (.one (.one (.bool))) fun (x9 : Bool) =>
 K (.bool x9)
theorem D_event_named (p0 : HT [.int .i64, .str, .str, .int .i64, .int .i64, .str, .int .i64, .int .i64, .int .i64, .int .i64, .int .i64, .str, .str, .slice, .int .i64]) (K : Value → PT) : denF Pr Dt Tryz.f56 A_event_named [.ag [.int .i64 p0.1, .string p0.2.1, .string p0.2.2.1, .int .i64 p0.2.2.2.1, .int .i64 p0.2.2.2.2.1, .string p0.2.2.2.2.2.1, .int .i64 p0.2.2.2.2.2.2.1, .int .i64 p0.2.2.2.2.2.2.2.1, .int .i64 p0.2.2.2.2.2.2.2.2.1, .int .i64 p0.2.2.2.2.2.2.2.2.2.1, .int .i64 p0.2.2.2.2.2.2.2.2.2.2.1, .string p0.2.2.2.2.2.2.2.2.2.2.2.1, .string p0.2.2.2.2.2.2.2.2.2.2.2.2.1, .slice p0.2.2.2.2.2.2.2.2.2.2.2.2.2.1.a p0.2.2.2.2.2.2.2.2.2.2.2.2.2.1.len p0.2.2.2.2.2.2.2.2.2.2.2.2.2.1.cap, .int .i64 p0.2.2.2.2.2.2.2.2.2.2.2.2.2.2.1]] K = F_event_named p0 K := by kernel_rfl
theorem C_event_named (p0 : HT [.int .i64, .str, .str, .int .i64, .int .i64, .str, .int .i64, .int .i64, .int .i64, .int .i64, .int .i64, .str, .str, .slice, .int .i64]) {K : Value → PT} {w : World} (h : F_event_named p0 K w) : Calls Pr n_event_named [(.ag [.int .i64 p0.1, .string p0.2.1, .string p0.2.2.1, .int .i64 p0.2.2.2.1, .int .i64 p0.2.2.2.2.1, .string p0.2.2.2.2.2.1, .int .i64 p0.2.2.2.2.2.2.1, .int .i64 p0.2.2.2.2.2.2.2.1, .int .i64 p0.2.2.2.2.2.2.2.2.1, .int .i64 p0.2.2.2.2.2.2.2.2.2.1, .int .i64 p0.2.2.2.2.2.2.2.2.2.2.1, .string p0.2.2.2.2.2.2.2.2.2.2.2.1, .string p0.2.2.2.2.2.2.2.2.2.2.2.2.1, .slice p0.2.2.2.2.2.2.2.2.2.2.2.2.2.1.a p0.2.2.2.2.2.2.2.2.2.2.2.2.2.1.len p0.2.2.2.2.2.2.2.2.2.2.2.2.2.1.cap, .int .i64 p0.2.2.2.2.2.2.2.2.2.2.2.2.2.2.1] : SV).toV].toArray w fun e w2 => ∃ v, e = .returned v ∧ K v w2 :=
  denF_ok Tok (f := 56) (fn := Tryz.f56) (an := A_event_named) (args := [.ag [.int .i64 p0.1, .string p0.2.1, .string p0.2.2.1, .int .i64 p0.2.2.2.1, .int .i64 p0.2.2.2.2.1, .string p0.2.2.2.2.2.1, .int .i64 p0.2.2.2.2.2.2.1, .int .i64 p0.2.2.2.2.2.2.2.1, .int .i64 p0.2.2.2.2.2.2.2.2.1, .int .i64 p0.2.2.2.2.2.2.2.2.2.1, .int .i64 p0.2.2.2.2.2.2.2.2.2.2.1, .string p0.2.2.2.2.2.2.2.2.2.2.2.1, .string p0.2.2.2.2.2.2.2.2.2.2.2.2.1, .slice p0.2.2.2.2.2.2.2.2.2.2.2.2.2.1.a p0.2.2.2.2.2.2.2.2.2.2.2.2.2.1.len p0.2.2.2.2.2.2.2.2.2.2.2.2.2.1.cap, .int .i64 p0.2.2.2.2.2.2.2.2.2.2.2.2.2.2.1]]) (by kernel_rfl) (by kernel_rfl) ((congrFun (D_event_named p0 K) w).mpr h)
def A_label_Tag : Ann := .auto
def F_label_Tag (p0 : ByteArray) (K : Value → PT) : PT :=
 L.call Pr n_label_short [.string p0, .int .i64 8] (.one (.one (.bool))) fun (x1 : Bool) =>
 K (.bool x1)
theorem D_label_Tag (p0 : ByteArray) (K : Value → PT) : denF Pr Dt Tryz.f57 A_label_Tag [.v (.string p0)] K = F_label_Tag p0 K := by kernel_rfl
theorem C_label_Tag (p0 : ByteArray) {K : Value → PT} {w : World} (h : F_label_Tag p0 K w) : Calls Pr n_label_Tag [.string p0].toArray w fun e w2 => ∃ v, e = .returned v ∧ K v w2 :=
  denF_ok Tok (f := 57) (fn := Tryz.f57) (an := A_label_Tag) (args := [.v (.string p0)]) (by kernel_rfl) (by kernel_rfl) ((congrFun (D_label_Tag p0 K) w).mpr h)
def A_event_within : Ann := .auto
def F_event_within (p0 : Int) (p1 : Int) (p2 : Int) (K : Value → PT) : PT :=
 L.ite (decide (p0 ≥ p1)) (
  K (.bool (decide (p0 ≤ p2)))) <|
 K (.bool false)
theorem D_event_within (p0 : Int) (p1 : Int) (p2 : Int) (K : Value → PT) : denF Pr Dt Tryz.f58 A_event_within [.v (.int .i64 p0), .v (.int .i64 p1), .v (.int .i64 p2)] K = F_event_within p0 p1 p2 K := by kernel_rfl
theorem C_event_within (p0 : Int) (p1 : Int) (p2 : Int) {K : Value → PT} {w : World} (h : F_event_within p0 p1 p2 K w) : Calls Pr n_event_within [.int .i64 p0, .int .i64 p1, .int .i64 p2].toArray w fun e w2 => ∃ v, e = .returned v ∧ K v w2 :=
  denF_ok Tok (f := 58) (fn := Tryz.f58) (an := A_event_within) (args := [.v (.int .i64 p0), .v (.int .i64 p1), .v (.int .i64 p2)]) (by kernel_rfl) (by kernel_rfl) ((congrFun (D_event_within p0 p1 p2 K) w).mpr h)
def A_spec_Config : Ann := (.seq .auto (.seq (.seq .auto (.cond .auto (.seq .auto .auto (some [(8, (.one (.bool)))]))) none) .auto none) none)
def F_spec_Config (p0 : HT [.str, .int .i64, .int .i64, .int .i64, .int .i64, .int .i64]) (K : Value → PT) : PT :=
 L.new [.string p0.1, .int .i64 p0.2.1, .int .i64 p0.2.2.1, .int .i64 p0.2.2.2.1, .int .i64 p0.2.2.2.2.1, .int .i64 p0.2.2.2.2.2.1] T_api_Config fun b1 =>
 L.load (.one (.str)) ((⟨b1, 0, none⟩ : Addr).add 0) fun (x2 : ByteArray) =>
 L.call Pr n_label_Name [.string x2] (.one (.one (.bool))) fun (x3 : Bool) =>
 L.ite (!x3) (
  K (.int .i64 1)) <|
 L.join (Y := Bool × Unit) (fun k4 =>
  L.load (.one (.int .i64)) ((⟨b1, 0, none⟩ : Addr).add 1) fun (x6 : Int) =>
  L.call Pr n_spec_span_has [.agg #[.int .i64 0, .int .i64 255], .int .i64 x6] (.one (.one (.bool))) fun (x7 : Bool) =>
  L.ite (!x7) (
   k4 (!x7, ())) <|
  L.load (.one (.int .i64)) ((⟨b1, 0, none⟩ : Addr).add 2) fun (x8 : Int) =>
  L.call Pr n_spec_span_has [.agg #[.int .i64 1, .int .i64 8], .int .i64 x8] (.one (.one (.bool))) fun (x9 : Bool) =>
  L.ite (!x9) (
   k4 (!x9, ())) <|
  L.load (.one (.int .i64)) ((⟨b1, 0, none⟩ : Addr).add 4) fun (x10 : Int) =>
  L.call Pr n_spec_span_has [.agg #[.int .i64 1, .int .i64 10], .int .i64 x10] (.one (.one (.bool))) fun (x11 : Bool) =>
  L.ite (!x11) (
   k4 (!x11, ())) <|
  L.load (.one (.int .i64)) ((⟨b1, 0, none⟩ : Addr).add 4) fun (x12 : Int) =>
  L.load (.one (.int .i64)) ((⟨b1, 0, none⟩ : Addr).add 3) fun (x13 : Int) =>
  L.call Pr n_spec_span_has [.agg #[.int .i64 0, .int .i64 x12], .int .i64 x13] (.one (.one (.bool))) fun (x14 : Bool) =>
  L.ite (!x14) (
   k4 (!x14, ())) <|
  L.load (.one (.int .i64)) ((⟨b1, 0, none⟩ : Addr).add 5) fun (x15 : Int) =>
  L.call Pr n_spec_span_has [.agg #[.int .i64 0, .int .i64 30], .int .i64 x15] (.one (.one (.bool))) fun (x16 : Bool) =>
  k4 (!x16, ())) fun z5 =>
 L.ite z5.1 (
  K (.int .i64 2)) <|
 K (.int .i64 0)
theorem D_spec_Config (p0 : HT [.str, .int .i64, .int .i64, .int .i64, .int .i64, .int .i64]) (K : Value → PT) : denF Pr Dt Tryz.f59 A_spec_Config [.ag [.string p0.1, .int .i64 p0.2.1, .int .i64 p0.2.2.1, .int .i64 p0.2.2.2.1, .int .i64 p0.2.2.2.2.1, .int .i64 p0.2.2.2.2.2.1]] K = F_spec_Config p0 K := by kernel_rfl
theorem C_spec_Config (p0 : HT [.str, .int .i64, .int .i64, .int .i64, .int .i64, .int .i64]) {K : Value → PT} {w : World} (h : F_spec_Config p0 K w) : Calls Pr n_spec_Config [(.ag [.string p0.1, .int .i64 p0.2.1, .int .i64 p0.2.2.1, .int .i64 p0.2.2.2.1, .int .i64 p0.2.2.2.2.1, .int .i64 p0.2.2.2.2.2.1] : SV).toV].toArray w fun e w2 => ∃ v, e = .returned v ∧ K v w2 :=
  denF_ok Tok (f := 59) (fn := Tryz.f59) (an := A_spec_Config) (args := [.ag [.string p0.1, .int .i64 p0.2.1, .int .i64 p0.2.2.1, .int .i64 p0.2.2.2.1, .int .i64 p0.2.2.2.2.1, .int .i64 p0.2.2.2.2.2.1]]) (by kernel_rfl) (by kernel_rfl) ((congrFun (D_spec_Config p0 K) w).mpr h)
def A_spec_Route : Ann := (.seq .auto (.seq (.seq .auto .auto (some [(6, (.one (.bool)))])) (.seq (.seq .auto (.one [(31, (.one (.int .i64)))] .auto) none) .auto none) none) none)
def F_spec_Route (p0 : HT [.str, .str, .slice, .int .i64]) (K : Value → PT) : PT :=
 L.new [.string p0.1, .string p0.2.1, .slice p0.2.2.1.a p0.2.2.1.len p0.2.2.1.cap, .int .i64 p0.2.2.2.1] T_api_Route fun b1 =>
 L.join (Y := Bool × Unit) (fun k2 =>
  L.load (.one (.str)) ((⟨b1, 0, none⟩ : Addr).add 0) fun (x4 : ByteArray) =>
  L.call Pr n_label_Name [.string x4] (.one (.one (.bool))) fun (x5 : Bool) =>
  L.ite (!x5) (
   k2 (!x5, ())) <|
  L.load (.one (.str)) ((⟨b1, 0, none⟩ : Addr).add 1) fun (x6 : ByteArray) =>
  L.call Pr n_label_Name [.string x6] (.one (.one (.bool))) fun (x7 : Bool) =>
  k2 (!x7, ())) fun z3 =>
 L.ite z3.1 (
  K (.int .i64 1)) <|
 L.load (.one (.int .i64)) ((⟨b1, 0, none⟩ : Addr).add 3) fun (x8 : Int) =>
 L.call Pr n_spec_span_has [.agg #[.int .i64 0, .int .i64 60], .int .i64 x8] (.one (.one (.bool))) fun (x9 : Bool) =>
 L.ite (!x9) (
  K (.int .i64 2)) <|
 L.load (.one (.slice)) ((⟨b1, 0, none⟩ : Addr).add 2) fun (x10 : Sl) =>
 L.call Pr n_spec_span_has [.agg #[.int .i64 1, .int .i64 6], .int .i64 ((x10.len : Nat) : Int)] (.one (.one (.bool))) fun (x11 : Bool) =>
 L.ite (!x11) (
  K (.int .i64 3)) <|
 L.load (.one (.slice)) ((⟨b1, 0, none⟩ : Addr).add 2) fun (x12 : Sl) =>
 L.loop (Y := Int × Unit) (0, ()) fun y13 again14 =>
 L.ite (decide (y13.1 < ((x12.len : Nat) : Int))) (
  L.idx x12.a y13.1 x12.len 3 fun a15 =>
  L.load (.agg [.str, .str, .int .i64]) a15 fun (x16 : ByteArray × ByteArray × Int × Unit) =>
  L.new [.string s_, .string s_, .int .i64 0] T_api_Target fun b17 =>
  L.store (⟨b17, 0, none⟩) [.string x16.1, .string x16.2.1, .int .i64 x16.2.2.1] <|
  L.load (.agg [.str, .str, .int .i64]) (⟨b17, 0, none⟩) fun (x18 : ByteArray × ByteArray × Int × Unit) =>
  L.call Pr n_spec_target [.agg #[.string x18.1, .string x18.2.1, .int .i64 x18.2.2.1]] (.one (.one (.int .i64))) fun (x19 : Int) =>
  L.ite (x19 != 0) (
   K (.int .i64 x19)) <|
  again14 (IntKind.wrap .i64 (y13.1 + 1), ())) <|
 L.load (.one (.slice)) ((⟨b1, 0, none⟩ : Addr).add 2) fun (x20 : Sl) =>
 L.call Pr n_spec_all [.slice x20.a x20.len x20.cap] (.one (.one (.int .i64))) fun (x21 : Int) =>
 K (.int .i64 x21)
theorem D_spec_Route (p0 : HT [.str, .str, .slice, .int .i64]) (K : Value → PT) : denF Pr Dt Tryz.f60 A_spec_Route [.ag [.string p0.1, .string p0.2.1, .slice p0.2.2.1.a p0.2.2.1.len p0.2.2.1.cap, .int .i64 p0.2.2.2.1]] K = F_spec_Route p0 K := by kernel_rfl
theorem C_spec_Route (p0 : HT [.str, .str, .slice, .int .i64]) {K : Value → PT} {w : World} (h : F_spec_Route p0 K w) : Calls Pr n_spec_Route [(.ag [.string p0.1, .string p0.2.1, .slice p0.2.2.1.a p0.2.2.1.len p0.2.2.1.cap, .int .i64 p0.2.2.2.1] : SV).toV].toArray w fun e w2 => ∃ v, e = .returned v ∧ K v w2 :=
  denF_ok Tok (f := 60) (fn := Tryz.f60) (an := A_spec_Route) (args := [.ag [.string p0.1, .string p0.2.1, .slice p0.2.2.1.a p0.2.2.1.len p0.2.2.1.cap, .int .i64 p0.2.2.2.1]]) (by kernel_rfl) (by kernel_rfl) ((congrFun (D_spec_Route p0 K) w).mpr h)
def A_api_early : Ann := .auto
def F_api_early (p0 : Int) (K : Value → PT) : PT :=
 L.ite (p0 == 0) (
  K (.string s_ok)) <|
 L.ite (p0 == 1) (
  K (.string s_name)) <|
 L.ite (p0 == 2) (
  K (.string s_arg)) <|
 L.ite (p0 == 3) (
  K (.string s_long)) <|
 L.ite (p0 == 4) (
  K (.string s_sum)) <|
 L.ite (p0 == 5) (
  K (.string s_twice)) <|
 L.ite (p0 == 6) (
  K (.string s_none)) <|
 K (.string s_error)
theorem D_api_early (p0 : Int) (K : Value → PT) : denF Pr Dt Tryz.f63 A_api_early [.v (.int .i64 p0)] K = F_api_early p0 K := by kernel_rfl
theorem C_api_early (p0 : Int) {K : Value → PT} {w : World} (h : F_api_early p0 K w) : Calls Pr n_api_early [.int .i64 p0].toArray w fun e w2 => ∃ v, e = .returned v ∧ K v w2 :=
  denF_ok Tok (f := 63) (fn := Tryz.f63) (an := A_api_early) (args := [.v (.int .i64 p0)]) (by kernel_rfl) (by kernel_rfl) ((congrFun (D_api_early p0 K) w).mpr h)
def A_api_late : Ann := .auto
def F_api_late (p0 : Int) (K : Value → PT) : PT :=
 L.ite (p0 == 7) (
  K (.string s_stale)) <|
 L.ite (p0 == 8) (
  K (.string s_full)) <|
 L.ite (p0 == 9) (
  K (.string s_state)) <|
 L.ite (p0 == 10) (
  K (.string s_cut)) <|
 L.ite (p0 == 11) (
  K (.string s_more)) <|
 L.ite (p0 == 12) (
  K (.string s_kind)) <|
 K (.string s_error)
theorem D_api_late (p0 : Int) (K : Value → PT) : denF Pr Dt Tryz.f64 A_api_late [.v (.int .i64 p0)] K = F_api_late p0 K := by kernel_rfl
theorem C_api_late (p0 : Int) {K : Value → PT} {w : World} (h : F_api_late p0 K w) : Calls Pr n_api_late [.int .i64 p0].toArray w fun e w2 => ∃ v, e = .returned v ∧ K v w2 :=
  denF_ok Tok (f := 64) (fn := Tryz.f64) (an := A_api_late) (args := [.v (.int .i64 p0)]) (by kernel_rfl) (by kernel_rfl) ((congrFun (D_api_late p0 K) w).mpr h)
def A_shelf_Shelf_PutConfig : Ann := (.seq .auto (.seq .auto (.seq .auto .auto (some [(8, (.one (.int .i64)))])) none) none)
def F_shelf_Shelf_PutConfig (p0 : Option Addr) (p1 : HT [.str, .int .i64, .int .i64, .int .i64, .int .i64, .int .i64]) (p2 : Int) (K : Value → PT) : PT :=
 L.new [.string p1.1, .int .i64 p1.2.1, .int .i64 p1.2.2.1, .int .i64 p1.2.2.2.1, .int .i64 p1.2.2.2.2.1, .int .i64 p1.2.2.2.2.2.1] T_api_Config fun b1 =>
 L.load (.agg [.str, .int .i64, .int .i64, .int .i64, .int .i64, .int .i64]) (⟨b1, 0, none⟩) fun (x2 : ByteArray × Int × Int × Int × Int × Int × Unit) =>
 L.call Pr n_spec_Config [.agg #[.string x2.1, .int .i64 x2.2.1, .int .i64 x2.2.2.1, .int .i64 x2.2.2.2.1, .int .i64 x2.2.2.2.2.1, .int .i64 x2.2.2.2.2.2.1]] (.one (.one (.int .i64))) fun (x3 : Int) =>
 L.join (Y := Int × Unit) (fun k4 =>
  L.ite (x3 == 0) (
   L.draw <|
   L.nonnil p0 fun a6 =>
   L.load (.one (.ptr)) (a6.add 0) fun (x7 : Option Addr) =>
   L.load (.one (.str)) ((⟨b1, 0, none⟩ : Addr).add 0) fun (x8 : ByteArray) =>
   L.call Pr n_shelf_rack_api_Config_may [.pointer x7, .string x8, .int .i64 p2, .bool true] (.one (.one (.int .i64))) fun (x9 : Int) =>
   k4 (x9, ())) <|
  k4 (x3, ())) fun z5 =>
 L.ite (z5.1 != 0) (
  K (.tuple #[.int .i64 0, .int .i64 z5.1])) <|
 L.nonnil p0 fun a10 =>
 L.load (.one (.int .i64)) (a10.add 2) fun (x11 : Int) =>
 L.nonnil p0 fun a12 =>
 L.store (a12.add 2) [.int .i64 (IntKind.wrap .i64 (x11 + 1))] <|
 L.draw <|
 L.nonnil p0 fun a13 =>
 L.load (.one (.ptr)) (a13.add 0) fun (x14 : Option Addr) =>
 L.load (.one (.str)) ((⟨b1, 0, none⟩ : Addr).add 0) fun (x15 : ByteArray) =>
 L.load (.agg [.str, .int .i64, .int .i64, .int .i64, .int .i64, .int .i64]) (⟨b1, 0, none⟩) fun (x16 : ByteArray × Int × Int × Int × Int × Int × Unit) =>
 L.nonnil p0 fun a17 =>
 L.load (.one (.int .i64)) (a17.add 2) fun (x18 : Int) =>
 L.call Pr n_shelf_rack_api_Config_put [.pointer x14, .string x15, .agg #[.string x16.1, .int .i64 x16.2.1, .int .i64 x16.2.2.1, .int .i64 x16.2.2.2.1, .int .i64 x16.2.2.2.2.1, .int .i64 x16.2.2.2.2.2.1], .int .i64 x18] (.tup []) fun (x19 : Unit) =>
 L.nonnil p0 fun a20 =>
 L.load (.one (.int .i64)) (a20.add 2) fun (x21 : Int) =>
 K (.tuple #[.int .i64 x21, .int .i64 0])
theorem D_shelf_Shelf_PutConfig (p0 : Option Addr) (p1 : HT [.str, .int .i64, .int .i64, .int .i64, .int .i64, .int .i64]) (p2 : Int) (K : Value → PT) : denF Pr Dt Tryz.f65 A_shelf_Shelf_PutConfig [.v (.pointer p0), .ag [.string p1.1, .int .i64 p1.2.1, .int .i64 p1.2.2.1, .int .i64 p1.2.2.2.1, .int .i64 p1.2.2.2.2.1, .int .i64 p1.2.2.2.2.2.1], .v (.int .i64 p2)] K = F_shelf_Shelf_PutConfig p0 p1 p2 K := by kernel_rfl
theorem C_shelf_Shelf_PutConfig (p0 : Option Addr) (p1 : HT [.str, .int .i64, .int .i64, .int .i64, .int .i64, .int .i64]) (p2 : Int) {K : Value → PT} {w : World} (h : F_shelf_Shelf_PutConfig p0 p1 p2 K w) : Calls Pr n_shelf_Shelf_PutConfig [.pointer p0, (.ag [.string p1.1, .int .i64 p1.2.1, .int .i64 p1.2.2.1, .int .i64 p1.2.2.2.1, .int .i64 p1.2.2.2.2.1, .int .i64 p1.2.2.2.2.2.1] : SV).toV, .int .i64 p2].toArray w fun e w2 => ∃ v, e = .returned v ∧ K v w2 :=
  denF_ok Tok (f := 65) (fn := Tryz.f65) (an := A_shelf_Shelf_PutConfig) (args := [.v (.pointer p0), .ag [.string p1.1, .int .i64 p1.2.1, .int .i64 p1.2.2.1, .int .i64 p1.2.2.2.1, .int .i64 p1.2.2.2.2.1, .int .i64 p1.2.2.2.2.2.1], .v (.int .i64 p2)]) (by kernel_rfl) (by kernel_rfl) ((congrFun (D_shelf_Shelf_PutConfig p0 p1 p2 K) w).mpr h)
def A_system_put : Ann := .auto
def F_system_put (p0 : ByteArray) (p1 : ByteArray) (p2 : Int) (p3 : Int) (K : Value → PT) : PT :=
 L.ite (p3 != 0) (
  L.call Pr n_system_refused [.int .i64 p3] (.one (.one (.slice))) fun (x1 : Sl) =>
  K (.slice x1.a x1.len x1.cap)) <|
 L.new [.string p1] T_string fun b2 =>
 L.call Pr n_system_line_string [.string p0, .slice (some ⟨b2, 0, none⟩) 1 1] (.one (.one (.str))) fun (x3 : ByteArray) =>
 L.new [.int .i64 p2] T_int fun b4 =>
 L.call Pr n_system_line_int [.string x3, .slice (some ⟨b4, 0, none⟩) 1 1] (.one (.one (.str))) fun (x5 : ByteArray) =>
 L.new [.string x5] T_string fun b6 =>
 K (.slice (some ⟨b6, 0, none⟩) 1 1)
theorem D_system_put (p0 : ByteArray) (p1 : ByteArray) (p2 : Int) (p3 : Int) (K : Value → PT) : denF Pr Dt Tryz.f66 A_system_put [.v (.string p0), .v (.string p1), .v (.int .i64 p2), .v (.int .i64 p3)] K = F_system_put p0 p1 p2 p3 K := by kernel_rfl
theorem C_system_put (p0 : ByteArray) (p1 : ByteArray) (p2 : Int) (p3 : Int) {K : Value → PT} {w : World} (h : F_system_put p0 p1 p2 p3 K w) : Calls Pr n_system_put [.string p0, .string p1, .int .i64 p2, .int .i64 p3].toArray w fun e w2 => ∃ v, e = .returned v ∧ K v w2 :=
  denF_ok Tok (f := 66) (fn := Tryz.f66) (an := A_system_put) (args := [.v (.string p0), .v (.string p1), .v (.int .i64 p2), .v (.int .i64 p3)]) (by kernel_rfl) (by kernel_rfl) ((congrFun (D_system_put p0 p1 p2 p3 K) w).mpr h)
def A_system_refused : Ann := .auto
def F_system_refused (p0 : Int) (K : Value → PT) : PT :=
 L.call Pr n_api_Errno_Error [.int .i64 p0] (.one (.one (.str))) fun (x1 : ByteArray) =>
 L.new [.string x1] T_string fun b2 =>
 L.call Pr n_system_line_string [.string s_refused, .slice (some ⟨b2, 0, none⟩) 1 1] (.one (.one (.str))) fun (x3 : ByteArray) =>
 L.new [.string x3] T_string fun b4 =>
 K (.slice (some ⟨b4, 0, none⟩) 1 1)
theorem D_system_refused (p0 : Int) (K : Value → PT) : denF Pr Dt Tryz.f69 A_system_refused [.v (.int .i64 p0)] K = F_system_refused p0 K := by kernel_rfl
theorem C_system_refused (p0 : Int) {K : Value → PT} {w : World} (h : F_system_refused p0 K w) : Calls Pr n_system_refused [.int .i64 p0].toArray w fun e w2 => ∃ v, e = .returned v ∧ K v w2 :=
  denF_ok Tok (f := 69) (fn := Tryz.f69) (an := A_system_refused) (args := [.v (.int .i64 p0)]) (by kernel_rfl) (by kernel_rfl) ((congrFun (D_system_refused p0 K) w).mpr h)
def A_system_told : Ann := (.seq .auto (.seq (.seq .auto (.seq .auto .auto (some [(8, (.one (.str)))])) none) .auto none) none)
def F_system_told (p0 : Sl) (p1 : Sl) (K : Value → PT) : PT :=
 L.new [.slice p1.a p1.len p1.cap] T_s_string fun b1 =>
 L.call Pr n_system_lines [.slice p0.a p0.len p0.cap] (.one (.one (.func))) fun (x2 : FV) =>
 L.range Pr none (.func x2.fn x2.fs x2.cs) [(.one (.str))] (fun l3 (y4 : ByteArray × Unit) R5 =>
  L.begin Pr l3 <|
  L.load (.one (.slice)) (⟨b1, 0, none⟩) fun (x8 : Sl) =>
  L.new [.string y4.1] T_string fun b9 =>
  L.sem Pr (.one (.one .slice)) (Builtin.append_ #[T_s_string, T_s_string] T_s_string #[.slice x8.a x8.len x8.cap, .slice (some ⟨b9, 0, none⟩) 1 1]) fun (s10 : Sl) =>
  L.store (⟨b1, 0, none⟩) [.slice s10.a s10.len s10.cap] <|
  L.endRound Pr l3 none R5) fun d6 j7 =>
 L.jump j7 (
  L.load (.one (.slice)) (⟨b1, 0, none⟩) fun (x11 : Sl) =>
  L.call Pr n_slices_Clone_string_string [.slice x11.a x11.len x11.cap] (.one (.one (.slice))) fun (x12 : Sl) =>
  L.unmark Pr (d6 ++ []) <|
  K (.slice x12.a x12.len x12.cap)) (
  L.unmark Pr (d6 ++ []) <|
  K (.slice none 0 0)) []
theorem D_system_told (p0 : Sl) (p1 : Sl) (K : Value → PT) : denF Pr Dt Tryz.f73 A_system_told [.v (.slice p0.a p0.len p0.cap), .v (.slice p1.a p1.len p1.cap)] K = F_system_told p0 p1 K := by kernel_rfl
theorem C_system_told (p0 : Sl) (p1 : Sl) {K : Value → PT} {w : World} (h : F_system_told p0 p1 K w) : Calls Pr n_system_told [.slice p0.a p0.len p0.cap, .slice p1.a p1.len p1.cap].toArray w fun e w2 => ∃ v, e = .returned v ∧ K v w2 :=
  denF_ok Tok (f := 73) (fn := Tryz.f73) (an := A_system_told) (args := [.v (.slice p0.a p0.len p0.cap), .v (.slice p1.a p1.len p1.cap)]) (by kernel_rfl) (by kernel_rfl) ((congrFun (D_system_told p0 p1 K) w).mpr h)
def A_system_line_int : Ann := (.seq .auto (.seq .auto (.seq (.seq .auto (.one [(5, (.one (.slice))), (14, (.one (.int .i64)))] (.seq .auto (.seq .auto (.seq .auto .auto (some [(5, (.one (.slice)))])) none) none)) none) .auto none) none) none)
def F_system_line_int (p0 : ByteArray) (p1 : Sl) (K : Value → PT) : PT :=
 L.new [.string p0] T_string fun b1 =>
 L.loop (Y := Sl × Int × Unit) (⟨some ⟨b1, 0, none⟩, 1, 1⟩, 0, ()) fun y2 again3 =>
 L.ite (decide (y2.2.1 < ((p1.len : Nat) : Int))) (
  L.join (Y := Sl × Unit) (fun k4 =>
   L.idx p1.a y2.2.1 p1.len 1 fun a6 =>
   L.load (.one (.int .i64)) a6 fun (x7 : Int) =>
   L.semR Pr (.tup [(.one (.str)), .one .bool]) (Instr.typeAssert (.iface T_int (.int .i64 x7)) T_interface T_string true) fun (x8 : ByteArray × Bool × Unit) =>
   L.ite x8.2.1 (
    L.new [.string x8.1] T_string fun b9 =>
    L.sem Pr (.one (.one .slice)) (Builtin.append_ #[T_s_string, T_s_string] T_s_string #[.slice y2.1.a y2.1.len y2.1.cap, .slice (some ⟨b9, 0, none⟩) 1 1]) fun (s10 : Sl) =>
    k4 (⟨s10.a, s10.len, s10.cap⟩, ())) <|
   L.ite true (
    L.call Pr n_strconv_Itoa [.int .i64 x7] (.one (.one (.str))) fun (x11 : ByteArray) =>
    L.new [.string x11] T_string fun b12 =>
    L.sem Pr (.one (.one .slice)) (Builtin.append_ #[T_s_string, T_s_string] T_s_string #[.slice y2.1.a y2.1.len y2.1.cap, .slice (some ⟨b12, 0, none⟩) 1 1]) fun (s13 : Sl) =>
    k4 (⟨s13.a, s13.len, s13.cap⟩, ())) <|
   k4 (⟨y2.1.a, y2.1.len, y2.1.cap⟩, ())) fun z5 =>
  again3 (⟨z5.1.a, z5.1.len, z5.1.cap⟩, IntKind.wrap .i64 (y2.2.1 + 1), ())) <|
 L.call Pr n_strings_Join [.slice y2.1.a y2.1.len y2.1.cap, .string s___b5c5] (.one (.one (.str))) fun (x14 : ByteArray) =>
 K (.string x14)
theorem D_system_line_int (p0 : ByteArray) (p1 : Sl) (K : Value → PT) : denF Pr Dt Tryz.f75 A_system_line_int [.v (.string p0), .v (.slice p1.a p1.len p1.cap)] K = F_system_line_int p0 p1 K := by kernel_rfl
theorem C_system_line_int (p0 : ByteArray) (p1 : Sl) {K : Value → PT} {w : World} (h : F_system_line_int p0 p1 K w) : Calls Pr n_system_line_int [.string p0, .slice p1.a p1.len p1.cap].toArray w fun e w2 => ∃ v, e = .returned v ∧ K v w2 :=
  denF_ok Tok (f := 75) (fn := Tryz.f75) (an := A_system_line_int) (args := [.v (.string p0), .v (.slice p1.a p1.len p1.cap)]) (by kernel_rfl) (by kernel_rfl) ((congrFun (D_system_line_int p0 p1 K) w).mpr h)
def A_gate_Gate_Tick : Ann := (.seq .auto (.seq .auto (.seq (.seq .auto (.seq .auto (.seq .auto (.one [(20, (.one (.int .i64)))] .auto) none) (some [(14, (.one (.str))), (15, (.one (.ptr)))])) none) .auto none) none) none)
def F_gate_Gate_Tick (p0 : Option Addr) (p1 : Int) (K : Value → PT) : PT :=
 L.new [.pointer p0] T_p_gate_Gate fun b1 =>
 L.new [.int .i64 p1] T_int fun b2 =>
 L.new [.slice none 0 0] T_s_gate_Fate fun b3 =>
 L.load (.one (.ptr)) (⟨b1, 0, none⟩) fun (x4 : Option Addr) =>
 L.nonnil x4 fun a5 =>
 L.call Pr n_gate_book_wait_Line_each [.pointer (some (a5.add 2))] (.one (.one (.func))) fun (x6 : FV) =>
 L.range Pr none (.func x6.fn x6.fs x6.cs) [(.one (.str)), (.one (.ptr))] (fun l7 (y8 : ByteArray × Option Addr × Unit) R9 =>
  L.begin Pr l7 <|
  L.load (.one (.int .i64)) (⟨b2, 0, none⟩) fun (x12 : Int) =>
  L.call Pr n_wait_Line_Late [.pointer y8.2.1, .int .i64 x12] (.one (.one (.slice))) fun (x13 : Sl) =>
  L.loop (Y := Int × Unit) (0, ()) fun y14 again15 =>
  L.ite (decide (y14.1 < ((x13.len : Nat) : Int))) (
   L.idx x13.a y14.1 x13.len 1 fun a16 =>
   L.load (.one (.int .i64)) a16 fun (x17 : Int) =>
   L.draw <|
   L.load (.one (.slice)) (⟨b3, 0, none⟩) fun (x18 : Sl) =>
   L.load (.one (.ptr)) (⟨b1, 0, none⟩) fun (x19 : Option Addr) =>
   L.call Pr n_gate_why [.string s_timeout] (.one (.agg [.int .i64, .int .i64, .int .i64, .str])) fun (x20 : Int × Int × Int × ByteArray × Unit) =>
   L.chk (⟨b1, 0, none⟩) [.pointer x19] <|
   L.chk (⟨b3, 0, none⟩) [.slice x18.a x18.len x18.cap] <|
   L.call Pr n_gate_Gate_set [.pointer x19, .int .i64 x17, .string y8.1, .agg #[.int .i64 x20.1, .int .i64 x20.2.1, .int .i64 x20.2.2.1, .string x20.2.2.2.1]] (.one (.agg [.int .i64, .int .i64, .int .i64, .str])) fun (x21 : Int × Int × Int × ByteArray × Unit) =>
   L.chk (⟨b3, 0, none⟩) [.slice x18.a x18.len x18.cap] <|
   L.new [.int .i64 x21.1, .int .i64 x21.2.1, .int .i64 x21.2.2.1, .string x21.2.2.2.1] T_gate_Fate fun b22 =>
   L.chk (⟨b3, 0, none⟩) [.slice x18.a x18.len x18.cap] <|
   L.sem Pr (.one (.one .slice)) (Builtin.append_ #[T_s_gate_Fate, T_s_gate_Fate] T_s_gate_Fate #[.slice x18.a x18.len x18.cap, .slice (some ⟨b22, 0, none⟩) 1 1]) fun (s23 : Sl) =>
   L.store (⟨b3, 0, none⟩) [.slice s23.a s23.len s23.cap] <|
   again15 (IntKind.wrap .i64 (y14.1 + 1), ())) <|
  L.endRound Pr l7 none R9) fun d10 j11 =>
 L.jump j11 (
  L.load (.one (.slice)) (⟨b3, 0, none⟩) fun (x24 : Sl) =>
  L.call Pr n_slices_Clone_gate_Fate_gate_Fate [.slice x24.a x24.len x24.cap] (.one (.one (.slice))) fun (x25 : Sl) =>
  L.unmark Pr (d10 ++ []) <|
  K (.slice x25.a x25.len x25.cap)) (
  L.unmark Pr (d10 ++ []) <|
  K (.slice none 0 0)) []
theorem D_gate_Gate_Tick (p0 : Option Addr) (p1 : Int) (K : Value → PT) : denF Pr Dt Tryz.f84 A_gate_Gate_Tick [.v (.pointer p0), .v (.int .i64 p1)] K = F_gate_Gate_Tick p0 p1 K := by kernel_rfl
theorem C_gate_Gate_Tick (p0 : Option Addr) (p1 : Int) {K : Value → PT} {w : World} (h : F_gate_Gate_Tick p0 p1 K w) : Calls Pr n_gate_Gate_Tick [.pointer p0, .int .i64 p1].toArray w fun e w2 => ∃ v, e = .returned v ∧ K v w2 :=
  denF_ok Tok (f := 84) (fn := Tryz.f84) (an := A_gate_Gate_Tick) (args := [.v (.pointer p0), .v (.int .i64 p1)]) (by kernel_rfl) (by kernel_rfl) ((congrFun (D_gate_Gate_Tick p0 p1 K) w).mpr h)
def A_gauge_Gauge_Add : Ann := .auto
def F_gauge_Gauge_Add (p0 : Option Addr) (p1 : Int) (K : Value → PT) : PT :=
 L.nonnil p0 fun a1 =>
 L.call Pr n_gauge_ring_int_add [.pointer (some (a1.add 0)), .int .i64 (if 0 > p1 then 0 else p1)] (.tup []) fun (x2 : Unit) =>
 L.nonnil p0 fun a3 =>
 L.load (.one (.int .i64)) (a3.add 61) fun (x4 : Int) =>
 L.nonnil p0 fun a5 =>
 L.store (a5.add 61) [.int .i64 (IntKind.wrap .i64 (x4 + 1))] <|
 L.ite (decide ((if 0 > p1 then 0 else p1) > 0)) (
  L.nonnil p0 fun a6 =>
  L.store (a6.add 61) [.int .i64 0] <|
  K (.tuple #[])) <|
 K (.tuple #[])
theorem D_gauge_Gauge_Add (p0 : Option Addr) (p1 : Int) (K : Value → PT) : denF Pr Dt Tryz.f85 A_gauge_Gauge_Add [.v (.pointer p0), .v (.int .i64 p1)] K = F_gauge_Gauge_Add p0 p1 K := by kernel_rfl
theorem C_gauge_Gauge_Add (p0 : Option Addr) (p1 : Int) {K : Value → PT} {w : World} (h : F_gauge_Gauge_Add p0 p1 K w) : Calls Pr n_gauge_Gauge_Add [.pointer p0, .int .i64 p1].toArray w fun e w2 => ∃ v, e = .returned v ∧ K v w2 :=
  denF_ok Tok (f := 85) (fn := Tryz.f85) (an := A_gauge_Gauge_Add) (args := [.v (.pointer p0), .v (.int .i64 p1)]) (by kernel_rfl) (by kernel_rfl) ((congrFun (D_gauge_Gauge_Add p0 p1 K) w).mpr h)
def A_gate_Gate_Busy : Ann := .auto
def F_gate_Gate_Busy (p0 : Option Addr) (p1 : ByteArray) (K : Value → PT) : PT :=
 L.call Pr n_gate_Gate_Inside [.pointer p0, .string p1] (.tup [(.one (.slice)), (.one (.slice))]) fun (x1 : Sl × Sl × Unit) =>
 K (.int .i64 (IntKind.wrap .i64 (((x1.1.len : Nat) : Int) + ((x1.2.1.len : Nat) : Int))))
theorem D_gate_Gate_Busy (p0 : Option Addr) (p1 : ByteArray) (K : Value → PT) : denF Pr Dt Tryz.f86 A_gate_Gate_Busy [.v (.pointer p0), .v (.string p1)] K = F_gate_Gate_Busy p0 p1 K := by kernel_rfl
theorem C_gate_Gate_Busy (p0 : Option Addr) (p1 : ByteArray) {K : Value → PT} {w : World} (h : F_gate_Gate_Busy p0 p1 K w) : Calls Pr n_gate_Gate_Busy [.pointer p0, .string p1].toArray w fun e w2 => ∃ v, e = .returned v ∧ K v w2 :=
  denF_ok Tok (f := 86) (fn := Tryz.f86) (an := A_gate_Gate_Busy) (args := [.v (.pointer p0), .v (.string p1)]) (by kernel_rfl) (by kernel_rfl) ((congrFun (D_gate_Gate_Busy p0 p1 K) w).mpr h)
def A_shelf_Shelf_Config : Ann := .auto
def F_shelf_Shelf_Config (p0 : Option Addr) (p1 : ByteArray) (K : Value → PT) : PT :=
 L.new [.string s_, .int .i64 0, .int .i64 0, .int .i64 0, .int .i64 0, .int .i64 0] T_api_Config fun b1 =>
 L.nonnil p0 fun a2 =>
 L.load (.one (.ptr)) (a2.add 0) fun (x3 : Option Addr) =>
 L.call Pr n_shelf_rack_api_Config_get [.pointer x3, .string p1] (.tup [(.agg [.str, .int .i64, .int .i64, .int .i64, .int .i64, .int .i64, .int .i64, .int .i64, .bool]), (.one (.bool))]) fun (x4 : (ByteArray × Int × Int × Int × Int × Int × Int × Int × Bool × Unit) × Bool × Unit) =>
 L.new [.string s_, .int .i64 0, .int .i64 0, .int .i64 0, .int .i64 0, .int .i64 0, .int .i64 0, .int .i64 0, .bool false] T_shelf_thing_api_Config fun b5 =>
 L.store (⟨b5, 0, none⟩) [.string x4.1.1, .int .i64 x4.1.2.1, .int .i64 x4.1.2.2.1, .int .i64 x4.1.2.2.2.1, .int .i64 x4.1.2.2.2.2.1, .int .i64 x4.1.2.2.2.2.2.1, .int .i64 x4.1.2.2.2.2.2.2.1, .int .i64 x4.1.2.2.2.2.2.2.2.1, .bool x4.1.2.2.2.2.2.2.2.2.1] <|
 L.ite (!x4.2.1) (
  L.store (⟨b1, 0, none⟩) [.string s_, .int .i64 0, .int .i64 0, .int .i64 0, .int .i64 0, .int .i64 0] <|
  L.load (.agg [.str, .int .i64, .int .i64, .int .i64, .int .i64, .int .i64]) (⟨b1, 0, none⟩) fun (x6 : ByteArray × Int × Int × Int × Int × Int × Unit) =>
  K (.tuple #[.agg #[.string x6.1, .int .i64 x6.2.1, .int .i64 x6.2.2.1, .int .i64 x6.2.2.2.1, .int .i64 x6.2.2.2.2.1, .int .i64 x6.2.2.2.2.2.1], .int .i64 0, .int .i64 0, .bool false])) <|
 L.draw <|
 L.load (.agg [.str, .int .i64, .int .i64, .int .i64, .int .i64, .int .i64]) ((⟨b5, 0, none⟩ : Addr).add 0) fun (x7 : ByteArray × Int × Int × Int × Int × Int × Unit) =>
 L.load (.one (.int .i64)) ((⟨b5, 0, none⟩ : Addr).add 6) fun (x8 : Int) =>
 L.load (.one (.int .i64)) ((⟨b5, 0, none⟩ : Addr).add 7) fun (x9 : Int) =>
 L.store (⟨b1, 0, none⟩) [.string x7.1, .int .i64 x7.2.1, .int .i64 x7.2.2.1, .int .i64 x7.2.2.2.1, .int .i64 x7.2.2.2.2.1, .int .i64 x7.2.2.2.2.2.1] <|
 L.chk ((⟨b5, 0, none⟩ : Addr).add 7) [.int .i64 x9] <|
 L.chk ((⟨b5, 0, none⟩ : Addr).add 6) [.int .i64 x8] <|
 L.chk ((⟨b5, 0, none⟩ : Addr).add 7) [.int .i64 x9] <|
 L.load (.agg [.str, .int .i64, .int .i64, .int .i64, .int .i64, .int .i64]) (⟨b1, 0, none⟩) fun (x10 : ByteArray × Int × Int × Int × Int × Int × Unit) =>
 K (.tuple #[.agg #[.string x10.1, .int .i64 x10.2.1, .int .i64 x10.2.2.1, .int .i64 x10.2.2.2.1, .int .i64 x10.2.2.2.2.1, .int .i64 x10.2.2.2.2.2.1], .int .i64 x8, .int .i64 x9, .bool true])
theorem D_shelf_Shelf_Config (p0 : Option Addr) (p1 : ByteArray) (K : Value → PT) : denF Pr Dt Tryz.f87 A_shelf_Shelf_Config [.v (.pointer p0), .v (.string p1)] K = F_shelf_Shelf_Config p0 p1 K := by kernel_rfl
theorem C_shelf_Shelf_Config (p0 : Option Addr) (p1 : ByteArray) {K : Value → PT} {w : World} (h : F_shelf_Shelf_Config p0 p1 K w) : Calls Pr n_shelf_Shelf_Config [.pointer p0, .string p1].toArray w fun e w2 => ∃ v, e = .returned v ∧ K v w2 :=
  denF_ok Tok (f := 87) (fn := Tryz.f87) (an := A_shelf_Shelf_Config) (args := [.v (.pointer p0), .v (.string p1)]) (by kernel_rfl) (by kernel_rfl) ((congrFun (D_shelf_Shelf_Config p0 p1 K) w).mpr h)
def A_stamp_Book_Stamp : Ann := .auto
def F_stamp_Book_Stamp (p0 : Option Addr) (p1 : HT [.str, .int .i64, .int .i64, .int .i64, .int .i64, .int .i64]) (p2 : Int) (K : Value → PT) : PT :=
 L.new [.string p1.1, .int .i64 p1.2.1, .int .i64 p1.2.2.1, .int .i64 p1.2.2.2.1, .int .i64 p1.2.2.2.2.1, .int .i64 p1.2.2.2.2.2.1] T_api_Config fun b1 =>
 L.load (.one (.str)) ((⟨b1, 0, none⟩ : Addr).add 0) fun (x2 : ByteArray) =>
 L.call Pr n_label_Rev [.string x2, .int .i64 p2] (.one (.one (.str))) fun (x3 : ByteArray) =>
 L.ite (x3.toList == s_.toList) (
  K (.tuple #[.string x3, .bool false])) <|
 L.nonnil p0 fun a4 =>
 L.load (.one (.map)) (a4.add 0) fun (x5 : Option Nat) =>
 L.semR Pr (.one (.agg [.str, .int .i64, .str, .int .i64, .int .i64, .int .i64, .int .i64, .int .i64])) (Instr.lookup T_stamp_shelf_api_Revision (.map x5) (.string x3) false) fun (x6 : ByteArray × Int × ByteArray × Int × Int × Int × Int × Int × Unit) =>
 L.chkSem Pr (do eqGuard .neq T_api_Revision (.tmp 0) (.tmp 0) (.agg #[.string x6.1, .int .i64 x6.2.1, .string x6.2.2.1, .int .i64 x6.2.2.2.1, .int .i64 x6.2.2.2.2.1, .int .i64 x6.2.2.2.2.2.1, .int .i64 x6.2.2.2.2.2.2.1, .int .i64 x6.2.2.2.2.2.2.2.1]) (.agg #[.string s_, .int .i64 0, .string s_, .int .i64 0, .int .i64 0, .int .i64 0, .int .i64 0, .int .i64 0]); binOp .neq T_api_Revision (.agg #[.string x6.1, .int .i64 x6.2.1, .string x6.2.2.1, .int .i64 x6.2.2.2.1, .int .i64 x6.2.2.2.2.1, .int .i64 x6.2.2.2.2.2.1, .int .i64 x6.2.2.2.2.2.2.1, .int .i64 x6.2.2.2.2.2.2.2.1]) (.agg #[.string s_, .int .i64 0, .string s_, .int .i64 0, .int .i64 0, .int .i64 0, .int .i64 0, .int .i64 0])) (.bool (!((x6.1 == s_) && ((x6.2.1 == 0) && ((x6.2.2.1 == s_) && ((x6.2.2.2.1 == 0) && ((x6.2.2.2.2.1 == 0) && ((x6.2.2.2.2.2.1 == 0) && ((x6.2.2.2.2.2.2.1 == 0) && ((x6.2.2.2.2.2.2.2.1 == 0) && true)))))))))) <|
 L.ite (!((x6.1 == s_) && ((x6.2.1 == 0) && ((x6.2.2.1 == s_) && ((x6.2.2.2.1 == 0) && ((x6.2.2.2.2.1 == 0) && ((x6.2.2.2.2.2.1 == 0) && ((x6.2.2.2.2.2.2.1 == 0) && ((x6.2.2.2.2.2.2.2.1 == 0) && true))))))))) (
  K (.tuple #[.string x3, .bool false])) <|
 L.draw <|
 L.nonnil p0 fun a7 =>
 L.load (.one (.map)) (a7.add 0) fun (x8 : Option Nat) =>
 L.load (.agg [.str, .int .i64, .int .i64, .int .i64, .int .i64, .int .i64]) (⟨b1, 0, none⟩) fun (x9 : ByteArray × Int × Int × Int × Int × Int × Unit) =>
 L.semU Pr (Instr.mapUpdate T_stamp_shelf_api_Revision (.map x8) (.string x3) (.agg #[.string x3, .int .i64 p2, .string x9.1, .int .i64 x9.2.1, .int .i64 x9.2.2.1, .int .i64 x9.2.2.2.1, .int .i64 x9.2.2.2.2.1, .int .i64 x9.2.2.2.2.2.1])) <|
 K (.tuple #[.string x3, .bool true])
theorem D_stamp_Book_Stamp (p0 : Option Addr) (p1 : HT [.str, .int .i64, .int .i64, .int .i64, .int .i64, .int .i64]) (p2 : Int) (K : Value → PT) : denF Pr Dt Tryz.f88 A_stamp_Book_Stamp [.v (.pointer p0), .ag [.string p1.1, .int .i64 p1.2.1, .int .i64 p1.2.2.1, .int .i64 p1.2.2.2.1, .int .i64 p1.2.2.2.2.1, .int .i64 p1.2.2.2.2.2.1], .v (.int .i64 p2)] K = F_stamp_Book_Stamp p0 p1 p2 K := by kernel_rfl
theorem C_stamp_Book_Stamp (p0 : Option Addr) (p1 : HT [.str, .int .i64, .int .i64, .int .i64, .int .i64, .int .i64]) (p2 : Int) {K : Value → PT} {w : World} (h : F_stamp_Book_Stamp p0 p1 p2 K w) : Calls Pr n_stamp_Book_Stamp [.pointer p0, (.ag [.string p1.1, .int .i64 p1.2.1, .int .i64 p1.2.2.1, .int .i64 p1.2.2.2.1, .int .i64 p1.2.2.2.2.1, .int .i64 p1.2.2.2.2.2.1] : SV).toV, .int .i64 p2].toArray w fun e w2 => ∃ v, e = .returned v ∧ K v w2 :=
  denF_ok Tok (f := 88) (fn := Tryz.f88) (an := A_stamp_Book_Stamp) (args := [.v (.pointer p0), .ag [.string p1.1, .int .i64 p1.2.1, .int .i64 p1.2.2.1, .int .i64 p1.2.2.2.1, .int .i64 p1.2.2.2.2.1, .int .i64 p1.2.2.2.2.2.1], .v (.int .i64 p2)]) (by kernel_rfl) (by kernel_rfl) ((congrFun (D_stamp_Book_Stamp p0 p1 p2 K) w).mpr h)
def A_gauge_New : Ann := .auto
def F_gauge_New  (K : Value → PT) : PT :=
 L.new [.int .i64 0, .int .i64 0, .int .i64 0, .int .i64 0, .int .i64 0, .int .i64 0, .int .i64 0, .int .i64 0, .int .i64 0, .int .i64 0, .int .i64 0, .int .i64 0, .int .i64 0, .int .i64 0, .int .i64 0, .int .i64 0, .int .i64 0, .int .i64 0, .int .i64 0, .int .i64 0, .int .i64 0, .int .i64 0, .int .i64 0, .int .i64 0, .int .i64 0, .int .i64 0, .int .i64 0, .int .i64 0, .int .i64 0, .int .i64 0, .int .i64 0, .int .i64 0, .int .i64 0, .int .i64 0, .int .i64 0, .int .i64 0, .int .i64 0, .int .i64 0, .int .i64 0, .int .i64 0, .int .i64 0, .int .i64 0, .int .i64 0, .int .i64 0, .int .i64 0, .int .i64 0, .int .i64 0, .int .i64 0, .int .i64 0, .int .i64 0, .int .i64 0, .int .i64 0, .int .i64 0, .int .i64 0, .int .i64 0, .int .i64 0, .int .i64 0, .int .i64 0, .int .i64 0, .int .i64 0, .int .i64 0, .int .i64 0] T_gauge_Gauge fun b1 =>
 K (.pointer (some (⟨b1, 0, none⟩)))
theorem D_gauge_New  (K : Value → PT) : denF Pr Dt Tryz.f89 A_gauge_New [] K = F_gauge_New  K := by kernel_rfl
theorem C_gauge_New  {K : Value → PT} {w : World} (h : F_gauge_New  K w) : Calls Pr n_gauge_New [].toArray w fun e w2 => ∃ v, e = .returned v ∧ K v w2 :=
  denF_ok Tok (f := 89) (fn := Tryz.f89) (an := A_gauge_New) (args := []) (by kernel_rfl) (by kernel_rfl) ((congrFun (D_gauge_New  K) w).mpr h)
def A_damperref1_sign : Ann := .auto
def F_damperref1_sign (p0 : Int) (K : Value → PT) : PT :=
 L.ite (decide (p0 ≥ 97)) (
  L.ite (decide (p0 ≤ 122)) (
   K (.bool true)) <|
  L.ite (decide (p0 ≥ 48)) (
   L.ite (decide (p0 ≤ 57)) (
    K (.bool true)) <|
   K (.bool (p0 == 45))) <|
  K (.bool (p0 == 45))) <|
 L.ite (decide (p0 ≥ 48)) (
  L.ite (decide (p0 ≤ 57)) (
   K (.bool true)) <|
  K (.bool (p0 == 45))) <|
 K (.bool (p0 == 45))
theorem D_damperref1_sign (p0 : Int) (K : Value → PT) : denF Pr Dt Tryz.f104 A_damperref1_sign [.v (.int .u8 p0)] K = F_damperref1_sign p0 K := by kernel_rfl
theorem C_damperref1_sign (p0 : Int) {K : Value → PT} {w : World} (h : F_damperref1_sign p0 K w) : Calls Pr n_damperref1_sign [.int .u8 p0].toArray w fun e w2 => ∃ v, e = .returned v ∧ K v w2 :=
  denF_ok Tok (f := 104) (fn := Tryz.f104) (an := A_damperref1_sign) (args := [.v (.int .u8 p0)]) (by kernel_rfl) (by kernel_rfl) ((congrFun (D_damperref1_sign p0 K) w).mpr h)
def A_slices_Clone_string_string : Ann := .auto
def F_slices_Clone_string_string (p0 : Sl) (K : Value → PT) : PT :=
 L.ite ((p0.a).isNone) (
  K (.slice none 0 0)) <|
 L.new [] T_string fun b1 =>
 L.sem Pr (.one (.one .slice)) (Builtin.append_ #[T_s_string, T_s_string] T_s_string #[.slice (some ⟨b1, 0, none⟩) 0 0, .slice p0.a p0.len p0.cap]) fun (s2 : Sl) =>
 K (.slice s2.a s2.len s2.cap)
theorem D_slices_Clone_string_string (p0 : Sl) (K : Value → PT) : denF Pr Dt Tryz.f105 A_slices_Clone_string_string [.v (.slice p0.a p0.len p0.cap)] K = F_slices_Clone_string_string p0 K := by kernel_rfl
theorem C_slices_Clone_string_string (p0 : Sl) {K : Value → PT} {w : World} (h : F_slices_Clone_string_string p0 K w) : Calls Pr n_slices_Clone_string_string [.slice p0.a p0.len p0.cap].toArray w fun e w2 => ∃ v, e = .returned v ∧ K v w2 :=
  denF_ok Tok (f := 105) (fn := Tryz.f105) (an := A_slices_Clone_string_string) (args := [.v (.slice p0.a p0.len p0.cap)]) (by kernel_rfl) (by kernel_rfl) ((congrFun (D_slices_Clone_string_string p0 K) w).mpr h)
def A_stamp_shelf_api_Revision_names : Ann := .auto
def F_stamp_shelf_api_Revision_names (p0 : Option Nat) (K : Value → PT) : PT :=
 L.call Pr n_maps_Keys_stamp_shelf_api_Revision_string_api_Revision [.map p0] (.one (.one (.func))) fun (x1 : FV) =>
 L.call Pr n_slices_Sorted_string [.func x1.fn x1.fs x1.cs] (.one (.one (.slice))) fun (x2 : Sl) =>
 K (.slice x2.a x2.len x2.cap)
theorem D_stamp_shelf_api_Revision_names (p0 : Option Nat) (K : Value → PT) : denF Pr Dt Tryz.f106 A_stamp_shelf_api_Revision_names [.v (.map p0)] K = F_stamp_shelf_api_Revision_names p0 K := by kernel_rfl
theorem C_stamp_shelf_api_Revision_names (p0 : Option Nat) {K : Value → PT} {w : World} (h : F_stamp_shelf_api_Revision_names p0 K w) : Calls Pr n_stamp_shelf_api_Revision_names [.map p0].toArray w fun e w2 => ∃ v, e = .returned v ∧ K v w2 :=
  denF_ok Tok (f := 106) (fn := Tryz.f106) (an := A_stamp_shelf_api_Revision_names) (args := [.v (.map p0)]) (by kernel_rfl) (by kernel_rfl) ((congrFun (D_stamp_shelf_api_Revision_names p0 K) w).mpr h)
def A_label_Split : Ann := .auto
def F_label_Split (p0 : ByteArray) (K : Value → PT) : PT :=
 L.call Pr n_strings_LastIndex [.string p0, .string s___b5d2] (.one (.one (.int .i64))) fun (x1 : Int) =>
 L.ite (decide (x1 < 0)) (
  K (.tuple #[.string s_, .int .i64 0, .bool false])) <|
 L.guard ((0 : Int) ≤ (IntKind.wrap .i64 (x1 + 1)) ∧ (IntKind.wrap .i64 (x1 + 1)) ≤ (p0.size : Int) ∧ (p0.size : Int) ≤ p0.size) <|
 L.call Pr n_strconv_Atoi [.string (p0.extract (Int.toNat (IntKind.wrap .i64 (x1 + 1))) (Int.toNat (p0.size : Int)))] (.tup [(.one (.int .i64)), (.one (.iface))]) fun (x2 : Int × Option (TypeId × Value) × Unit) =>
 L.ite (!(x2.2.1).isNone) (
  K (.tuple #[.string s_, .int .i64 0, .bool false])) <|
 L.guard ((0 : Int) ≤ 0 ∧ 0 ≤ x1 ∧ x1 ≤ p0.size) <|
 L.call Pr n_label_Rev [.string (p0.extract (Int.toNat 0) (Int.toNat x1)), .int .i64 x2.1] (.one (.one (.str))) fun (x3 : ByteArray) =>
 L.ite (!(x3.toList == p0.toList)) (
  K (.tuple #[.string s_, .int .i64 0, .bool false])) <|
 L.guard ((0 : Int) ≤ 0 ∧ 0 ≤ x1 ∧ x1 ≤ p0.size) <|
 K (.tuple #[.string (p0.extract (Int.toNat 0) (Int.toNat x1)), .int .i64 x2.1, .bool true])
theorem D_label_Split (p0 : ByteArray) (K : Value → PT) : denF Pr Dt Tryz.f109 A_label_Split [.v (.string p0)] K = F_label_Split p0 K := by kernel_rfl
theorem C_label_Split (p0 : ByteArray) {K : Value → PT} {w : World} (h : F_label_Split p0 K w) : Calls Pr n_label_Split [.string p0].toArray w fun e w2 => ∃ v, e = .returned v ∧ K v w2 :=
  denF_ok Tok (f := 109) (fn := Tryz.f109) (an := A_label_Split) (args := [.v (.string p0)]) (by kernel_rfl) (by kernel_rfl) ((congrFun (D_label_Split p0 K) w).mpr h)
def A_label_Name : Ann := .auto
def F_label_Name (p0 : ByteArray) (K : Value → PT) : PT :=
 L.call Pr n_label_short [.string p0, .int .i64 16] (.one (.one (.bool))) fun (x1 : Bool) =>
 K (.bool x1)
theorem D_label_Name (p0 : ByteArray) (K : Value → PT) : denF Pr Dt Tryz.f110 A_label_Name [.v (.string p0)] K = F_label_Name p0 K := by kernel_rfl
theorem C_label_Name (p0 : ByteArray) {K : Value → PT} {w : World} (h : F_label_Name p0 K w) : Calls Pr n_label_Name [.string p0].toArray w fun e w2 => ∃ v, e = .returned v ∧ K v w2 :=
  denF_ok Tok (f := 110) (fn := Tryz.f110) (an := A_label_Name) (args := [.v (.string p0)]) (by kernel_rfl) (by kernel_rfl) ((congrFun (D_label_Name p0 K) w).mpr h)
def A_label_short : Ann := (.seq .auto (.seq .auto (.seq (.seq .auto (.one [(5, (.one (.int .i32)))] (.seq .auto (.seq (.cond .auto .auto) (.seq .auto (.seq (.seq .auto (.cond .auto .auto) none) .auto (some [])) none) none) none)) none) .auto none) none) none)
def F_label_short (p0 : ByteArray) (p1 : Int) (K : Value → PT) : PT :=
 L.sem Pr (.one (.one .ptr)) (Instr.range T_string (.string p0)) fun (it1 : Option Addr) =>
 L.loop (Y := Int × Unit) (45, ()) fun y2 again3 =>
 L.next Pr [(.one (.int .i64)), (.one (.int .i32))] (Instr.next (.pointer it1) true T_) (
  L.ite (y2.1 != 45) (
   K (.bool (decide ((p0.size : Int) ≤ p1)))) <|
  K (.bool false)) fun (x4 : Int × Int × Unit) =>
 L.join (Y := Unit) (fun k5 =>
  L.call Pr n_label_sign [.int .i32 x4.2.1] (.one (.one (.bool))) fun (x7 : Bool) =>
  L.ite (!x7) (
   K (.bool false)) <|
  L.ite (x4.1 == 0) (
   L.call Pr n_label_letter [.int .i32 x4.2.1] (.one (.one (.bool))) fun (x8 : Bool) =>
   L.ite (!x8) (
    K (.bool false)) <|
   k5 (())) <|
  k5 (())) fun z6 =>
 again3 (x4.2.1, ())
theorem D_label_short (p0 : ByteArray) (p1 : Int) (K : Value → PT) : denF Pr Dt Tryz.f111 A_label_short [.v (.string p0), .v (.int .i64 p1)] K = F_label_short p0 p1 K := by kernel_rfl
theorem C_label_short (p0 : ByteArray) (p1 : Int) {K : Value → PT} {w : World} (h : F_label_short p0 p1 K w) : Calls Pr n_label_short [.string p0, .int .i64 p1].toArray w fun e w2 => ∃ v, e = .returned v ∧ K v w2 :=
  denF_ok Tok (f := 111) (fn := Tryz.f111) (an := A_label_short) (args := [.v (.string p0), .v (.int .i64 p1)]) (by kernel_rfl) (by kernel_rfl) ((congrFun (D_label_short p0 p1 K) w).mpr h)
def A_spec_span_has : Ann := .auto
def F_spec_span_has (p0 : HT [.int .i64, .int .i64]) (p1 : Int) (K : Value → PT) : PT :=
 L.new [.int .i64 p0.1, .int .i64 p0.2.1] T_spec_span fun b1 =>
 L.load (.one (.int .i64)) ((⟨b1, 0, none⟩ : Addr).add 0) fun (x2 : Int) =>
 L.ite (decide (p1 ≥ x2)) (
  L.load (.one (.int .i64)) ((⟨b1, 0, none⟩ : Addr).add 1) fun (x3 : Int) =>
  K (.bool (decide (p1 ≤ x3)))) <|
 K (.bool false)
theorem D_spec_span_has (p0 : HT [.int .i64, .int .i64]) (p1 : Int) (K : Value → PT) : denF Pr Dt Tryz.f112 A_spec_span_has [.ag [.int .i64 p0.1, .int .i64 p0.2.1], .v (.int .i64 p1)] K = F_spec_span_has p0 p1 K := by kernel_rfl
theorem C_spec_span_has (p0 : HT [.int .i64, .int .i64]) (p1 : Int) {K : Value → PT} {w : World} (h : F_spec_span_has p0 p1 K w) : Calls Pr n_spec_span_has [(.ag [.int .i64 p0.1, .int .i64 p0.2.1] : SV).toV, .int .i64 p1].toArray w fun e w2 => ∃ v, e = .returned v ∧ K v w2 :=
  denF_ok Tok (f := 112) (fn := Tryz.f112) (an := A_spec_span_has) (args := [.ag [.int .i64 p0.1, .int .i64 p0.2.1], .v (.int .i64 p1)]) (by kernel_rfl) (by kernel_rfl) ((congrFun (D_spec_span_has p0 p1 K) w).mpr h)
theorem E_spec_span_has : Enters Pr n_spec_span_has := enters_of_B (by kernel_rfl)
def A_spec_target : Ann := (.seq .auto (.seq .auto (.seq .auto (.seq (.seq (.seq .auto (.cond .auto .auto) none) .auto (some [(16, (.one (.bool)))])) .auto none) none) none) none)
def F_spec_target (p0 : HT [.str, .str, .int .i64]) (K : Value → PT) : PT :=
 L.new [.string p0.1, .string p0.2.1, .int .i64 p0.2.2.1] T_api_Target fun b1 =>
 L.load (.one (.str)) ((⟨b1, 0, none⟩ : Addr).add 0) fun (x2 : ByteArray) =>
 L.call Pr n_label_Split [.string x2] (.tup [(.one (.str)), (.one (.int .i64)), (.one (.bool))]) fun (x3 : ByteArray × Int × Bool × Unit) =>
 L.join (Y := Bool × Unit) (fun k4 =>
  L.load (.one (.str)) ((⟨b1, 0, none⟩ : Addr).add 0) fun (x6 : ByteArray) =>
  L.ite (!(x6.toList == s_.toList)) (
   L.ite (!x3.2.2.1) (
    k4 (!x3.2.2.1, ())) <|
   L.load (.one (.str)) ((⟨b1, 0, none⟩ : Addr).add 1) fun (x7 : ByteArray) =>
   L.ite (!(x7.toList == s_.toList)) (
    L.load (.one (.str)) ((⟨b1, 0, none⟩ : Addr).add 1) fun (x8 : ByteArray) =>
    L.call Pr n_label_Tag [.string x8] (.one (.one (.bool))) fun (x9 : Bool) =>
    k4 (!x9, ())) <|
   k4 (false, ())) <|
  L.load (.one (.str)) ((⟨b1, 0, none⟩ : Addr).add 1) fun (x10 : ByteArray) =>
  L.ite (!(x10.toList == s_.toList)) (
   L.load (.one (.str)) ((⟨b1, 0, none⟩ : Addr).add 1) fun (x11 : ByteArray) =>
   L.call Pr n_label_Tag [.string x11] (.one (.one (.bool))) fun (x12 : Bool) =>
   k4 (!x12, ())) <|
  k4 (false, ())) fun z5 =>
 L.ite z5.1 (
  K (.int .i64 1)) <|
 L.load (.one (.int .i64)) ((⟨b1, 0, none⟩ : Addr).add 2) fun (x13 : Int) =>
 L.callV Pr (.func (.func n_spec_span_has) #[.agg #[.int .i64 0, .int .i64 100]] #[]) [.int .i64 x13] (.one (.one (.bool))) fun (x14 : Bool) =>
 L.ite (!x14) (
  K (.int .i64 2)) <|
 K (.int .i64 0)
theorem D_spec_target (p0 : HT [.str, .str, .int .i64]) (K : Value → PT) : denF Pr Dt Tryz.f113 A_spec_target [.ag [.string p0.1, .string p0.2.1, .int .i64 p0.2.2.1]] K = F_spec_target p0 K := by kernel_rfl
theorem C_spec_target (p0 : HT [.str, .str, .int .i64]) {K : Value → PT} {w : World} (h : F_spec_target p0 K w) : Calls Pr n_spec_target [(.ag [.string p0.1, .string p0.2.1, .int .i64 p0.2.2.1] : SV).toV].toArray w fun e w2 => ∃ v, e = .returned v ∧ K v w2 :=
  denF_ok Tok (f := 113) (fn := Tryz.f113) (an := A_spec_target) (args := [.ag [.string p0.1, .string p0.2.1, .int .i64 p0.2.2.1]]) (by kernel_rfl) (by kernel_rfl) ((congrFun (D_spec_target p0 K) w).mpr h)
def A_spec_all : Ann := (.seq .auto (.seq .auto (.seq (.seq .auto (.one [(3, (.one (.int .i64))), (8, (.one (.int .i64)))] (.seq .auto (.seq .auto (.seq (.seq .auto (.seq .auto (.seq .auto (.cond .auto .auto) none) none) none) .auto (some [(3, (.one (.int .i64)))])) none) none)) none) .auto none) none) none)
def F_spec_all (p0 : Sl) (K : Value → PT) : PT :=
 L.loop (Y := Int × Int × Unit) (0, 0, ()) fun y1 again2 =>
 L.ite (decide (y1.2.1 < ((p0.len : Nat) : Int))) (
  L.join (Y := Int × Unit) (fun k3 =>
   L.idx p0.a y1.2.1 p0.len 3 fun a5 =>
   L.load (.agg [.str, .str, .int .i64]) a5 fun (x6 : ByteArray × ByteArray × Int × Unit) =>
   L.new [.string s_, .string s_, .int .i64 0] T_api_Target fun b7 =>
   L.store (⟨b7, 0, none⟩) [.string x6.1, .string x6.2.1, .int .i64 x6.2.2.1] <|
   L.load (.one (.int .i64)) ((⟨b7, 0, none⟩ : Addr).add 2) fun (x8 : Int) =>
   L.load (.one (.str)) ((⟨b7, 0, none⟩ : Addr).add 1) fun (x9 : ByteArray) =>
   L.ite (!(x9.toList == s_.toList)) (
    L.guard (0 ≤ (0 : Int) ∧ (0 : Int) ≤ y1.2.1 ∧ y1.2.1 ≤ ((p0.cap : Nat) : Int) ∧ ((p0.cap : Nat) : Int) ≤ p0.cap) <|
    L.call Pr n_slices_ContainsFunc_api_Target_api_Target [.slice (if Int.toNat ((p0.cap : Nat) : Int) = Int.toNat (0 : Int) then p0.a else Option.map (fun a : Addr => a.add (Int.toNat (0 : Int) * 3)) p0.a) (Int.toNat y1.2.1 - Int.toNat (0 : Int)) (Int.toNat ((p0.cap : Nat) : Int) - Int.toNat (0 : Int)), .func (.func n_spec_all_1) #[] #[.pointer (some (⟨b7, 0, none⟩))]] (.one (.one (.bool))) fun (x10 : Bool) =>
    L.ite x10 (
     K (.int .i64 5)) <|
    k3 (IntKind.wrap .i64 (y1.1 + x8), ())) <|
   k3 (IntKind.wrap .i64 (y1.1 + x8), ())) fun z4 =>
  again2 (z4.1, IntKind.wrap .i64 (y1.2.1 + 1), ())) <|
 L.ite (y1.1 != 100) (
  K (.int .i64 4)) <|
 K (.int .i64 0)
theorem D_spec_all (p0 : Sl) (K : Value → PT) : denF Pr Dt Tryz.f114 A_spec_all [.v (.slice p0.a p0.len p0.cap)] K = F_spec_all p0 K := by kernel_rfl
theorem C_spec_all (p0 : Sl) {K : Value → PT} {w : World} (h : F_spec_all p0 K w) : Calls Pr n_spec_all [.slice p0.a p0.len p0.cap].toArray w fun e w2 => ∃ v, e = .returned v ∧ K v w2 :=
  denF_ok Tok (f := 114) (fn := Tryz.f114) (an := A_spec_all) (args := [.v (.slice p0.a p0.len p0.cap)]) (by kernel_rfl) (by kernel_rfl) ((congrFun (D_spec_all p0 K) w).mpr h)
def A_shelf_rack_api_Config_may : Ann := (.seq .auto (.seq .auto (.seq (.seq .auto (.cond .auto (.seq .auto (.cond .auto .auto) none)) none) .auto (some [])) none) none)
def F_shelf_rack_api_Config_may (p0 : Option Addr) (p1 : ByteArray) (p2 : Int) (p3 : Bool) (K : Value → PT) : PT :=
 L.nonnil p0 fun a1 =>
 L.load (.one (.map)) (a1.add 0) fun (x2 : Option Nat) =>
 L.semR Pr (.one (.agg [.str, .int .i64, .int .i64, .int .i64, .int .i64, .int .i64, .int .i64, .int .i64, .bool])) (Instr.lookup T_map_string_shelf_thing_api_Config (.map x2) (.string p1) false) fun (x3 : ByteArray × Int × Int × Int × Int × Int × Int × Int × Bool × Unit) =>
 L.new [.string s_, .int .i64 0, .int .i64 0, .int .i64 0, .int .i64 0, .int .i64 0, .int .i64 0, .int .i64 0, .bool false] T_shelf_thing_api_Config fun b4 =>
 L.store (⟨b4, 0, none⟩) [.string x3.1, .int .i64 x3.2.1, .int .i64 x3.2.2.1, .int .i64 x3.2.2.2.1, .int .i64 x3.2.2.2.2.1, .int .i64 x3.2.2.2.2.2.1, .int .i64 x3.2.2.2.2.2.2.1, .int .i64 x3.2.2.2.2.2.2.2.1, .bool x3.2.2.2.2.2.2.2.2.1] <|
 L.join (Y := Unit) (fun k5 =>
  L.ite p3 (
   L.ite (p2 == 0) (
    L.load (.one (.bool)) ((⟨b4, 0, none⟩ : Addr).add 8) fun (x7 : Bool) =>
    L.ite x7 (
     K (.int .i64 5)) <|
    L.ite p3 (
     L.ite (p2 == 0) (
      K (.int .i64 0)) <|
     L.load (.one (.bool)) ((⟨b4, 0, none⟩ : Addr).add 8) fun (x8 : Bool) =>
     L.ite (!x8) (
      K (.int .i64 6)) <|
     L.load (.one (.int .i64)) ((⟨b4, 0, none⟩ : Addr).add 6) fun (x9 : Int) =>
     L.ite (x9 != p2) (
      K (.int .i64 7)) <|
     k5 (())) <|
    L.load (.one (.bool)) ((⟨b4, 0, none⟩ : Addr).add 8) fun (x10 : Bool) =>
    L.ite (!x10) (
     K (.int .i64 6)) <|
    L.load (.one (.int .i64)) ((⟨b4, 0, none⟩ : Addr).add 6) fun (x11 : Int) =>
    L.ite (x11 != p2) (
     K (.int .i64 7)) <|
    k5 (())) <|
   L.ite p3 (
    L.ite (p2 == 0) (
     K (.int .i64 0)) <|
    L.load (.one (.bool)) ((⟨b4, 0, none⟩ : Addr).add 8) fun (x12 : Bool) =>
    L.ite (!x12) (
     K (.int .i64 6)) <|
    L.load (.one (.int .i64)) ((⟨b4, 0, none⟩ : Addr).add 6) fun (x13 : Int) =>
    L.ite (x13 != p2) (
     K (.int .i64 7)) <|
    k5 (())) <|
   L.load (.one (.bool)) ((⟨b4, 0, none⟩ : Addr).add 8) fun (x14 : Bool) =>
   L.ite (!x14) (
    K (.int .i64 6)) <|
   L.load (.one (.int .i64)) ((⟨b4, 0, none⟩ : Addr).add 6) fun (x15 : Int) =>
   L.ite (x15 != p2) (
    K (.int .i64 7)) <|
   k5 (())) <|
  L.ite p3 (
   L.ite (p2 == 0) (
    K (.int .i64 0)) <|
   L.load (.one (.bool)) ((⟨b4, 0, none⟩ : Addr).add 8) fun (x16 : Bool) =>
   L.ite (!x16) (
    K (.int .i64 6)) <|
   L.load (.one (.int .i64)) ((⟨b4, 0, none⟩ : Addr).add 6) fun (x17 : Int) =>
   L.ite (x17 != p2) (
    K (.int .i64 7)) <|
   k5 (())) <|
  L.load (.one (.bool)) ((⟨b4, 0, none⟩ : Addr).add 8) fun (x18 : Bool) =>
  L.ite (!x18) (
   K (.int .i64 6)) <|
  L.load (.one (.int .i64)) ((⟨b4, 0, none⟩ : Addr).add 6) fun (x19 : Int) =>
  L.ite (x19 != p2) (
   K (.int .i64 7)) <|
  k5 (())) fun z6 =>
 K (.int .i64 0)
theorem D_shelf_rack_api_Config_may (p0 : Option Addr) (p1 : ByteArray) (p2 : Int) (p3 : Bool) (K : Value → PT) : denF Pr Dt Tryz.f119 A_shelf_rack_api_Config_may [.v (.pointer p0), .v (.string p1), .v (.int .i64 p2), .v (.bool p3)] K = F_shelf_rack_api_Config_may p0 p1 p2 p3 K := by kernel_rfl
theorem C_shelf_rack_api_Config_may (p0 : Option Addr) (p1 : ByteArray) (p2 : Int) (p3 : Bool) {K : Value → PT} {w : World} (h : F_shelf_rack_api_Config_may p0 p1 p2 p3 K w) : Calls Pr n_shelf_rack_api_Config_may [.pointer p0, .string p1, .int .i64 p2, .bool p3].toArray w fun e w2 => ∃ v, e = .returned v ∧ K v w2 :=
  denF_ok Tok (f := 119) (fn := Tryz.f119) (an := A_shelf_rack_api_Config_may) (args := [.v (.pointer p0), .v (.string p1), .v (.int .i64 p2), .v (.bool p3)]) (by kernel_rfl) (by kernel_rfl) ((congrFun (D_shelf_rack_api_Config_may p0 p1 p2 p3 K) w).mpr h)
def A_shelf_rack_api_Config_put : Ann := (.seq .auto (.seq .auto (.seq .auto .auto (some [])) none) none)
def F_shelf_rack_api_Config_put (p0 : Option Addr) (p1 : ByteArray) (p2 : HT [.str, .int .i64, .int .i64, .int .i64, .int .i64, .int .i64]) (p3 : Int) (K : Value → PT) : PT :=
 L.new [.string p2.1, .int .i64 p2.2.1, .int .i64 p2.2.2.1, .int .i64 p2.2.2.2.1, .int .i64 p2.2.2.2.2.1, .int .i64 p2.2.2.2.2.2.1] T_api_Config fun b1 =>
 L.nonnil p0 fun a2 =>
 L.load (.one (.map)) (a2.add 0) fun (x3 : Option Nat) =>
 L.semR Pr (.one (.agg [.str, .int .i64, .int .i64, .int .i64, .int .i64, .int .i64, .int .i64, .int .i64, .bool])) (Instr.lookup T_map_string_shelf_thing_api_Config (.map x3) (.string p1) false) fun (x4 : ByteArray × Int × Int × Int × Int × Int × Int × Int × Bool × Unit) =>
 L.new [.string s_, .int .i64 0, .int .i64 0, .int .i64 0, .int .i64 0, .int .i64 0, .int .i64 0, .int .i64 0, .bool false] T_shelf_thing_api_Config fun b5 =>
 L.store (⟨b5, 0, none⟩) [.string x4.1, .int .i64 x4.2.1, .int .i64 x4.2.2.1, .int .i64 x4.2.2.2.1, .int .i64 x4.2.2.2.2.1, .int .i64 x4.2.2.2.2.2.1, .int .i64 x4.2.2.2.2.2.2.1, .int .i64 x4.2.2.2.2.2.2.2.1, .bool x4.2.2.2.2.2.2.2.2.1] <|
 L.join (Y := Unit) (fun k6 =>
  L.draw <|
  L.load (.one (.bool)) ((⟨b5, 0, none⟩ : Addr).add 8) fun (x8 : Bool) =>
  L.ite (!x8) (
   L.load (.one (.int .i64)) ((⟨b5, 0, none⟩ : Addr).add 7) fun (x9 : Int) =>
   L.store ((⟨b5, 0, none⟩ : Addr).add 7) [.int .i64 (IntKind.wrap .i64 (x9 + 1))] <|
   k6 (())) <|
  L.nonnil p0 fun a10 =>
  L.load (.one (.func)) (a10.add 1) fun (x11 : FV) =>
  L.load (.agg [.str, .int .i64, .int .i64, .int .i64, .int .i64, .int .i64]) ((⟨b5, 0, none⟩ : Addr).add 0) fun (x12 : ByteArray × Int × Int × Int × Int × Int × Unit) =>
  L.load (.agg [.str, .int .i64, .int .i64, .int .i64, .int .i64, .int .i64]) (⟨b1, 0, none⟩) fun (x13 : ByteArray × Int × Int × Int × Int × Int × Unit) =>
  L.callV Pr (.func x11.fn x11.fs x11.cs) [.agg #[.string x12.1, .int .i64 x12.2.1, .int .i64 x12.2.2.1, .int .i64 x12.2.2.2.1, .int .i64 x12.2.2.2.2.1, .int .i64 x12.2.2.2.2.2.1], .agg #[.string x13.1, .int .i64 x13.2.1, .int .i64 x13.2.2.1, .int .i64 x13.2.2.2.1, .int .i64 x13.2.2.2.2.1, .int .i64 x13.2.2.2.2.2.1]] (.one (.one (.bool))) fun (x14 : Bool) =>
  L.ite (!x14) (
   L.load (.one (.int .i64)) ((⟨b5, 0, none⟩ : Addr).add 7) fun (x15 : Int) =>
   L.store ((⟨b5, 0, none⟩ : Addr).add 7) [.int .i64 (IntKind.wrap .i64 (x15 + 1))] <|
   k6 (())) <|
  k6 (())) fun z7 =>
 L.draw <|
 L.nonnil p0 fun a16 =>
 L.load (.one (.map)) (a16.add 0) fun (x17 : Option Nat) =>
 L.load (.agg [.str, .int .i64, .int .i64, .int .i64, .int .i64, .int .i64]) (⟨b1, 0, none⟩) fun (x18 : ByteArray × Int × Int × Int × Int × Int × Unit) =>
 L.load (.one (.int .i64)) ((⟨b5, 0, none⟩ : Addr).add 7) fun (x19 : Int) =>
 L.semU Pr (Instr.mapUpdate T_map_string_shelf_thing_api_Config (.map x17) (.string p1) (.agg #[.string x18.1, .int .i64 x18.2.1, .int .i64 x18.2.2.1, .int .i64 x18.2.2.2.1, .int .i64 x18.2.2.2.2.1, .int .i64 x18.2.2.2.2.2.1, .int .i64 p3, .int .i64 x19, .bool true])) <|
 K (.tuple #[])
theorem D_shelf_rack_api_Config_put (p0 : Option Addr) (p1 : ByteArray) (p2 : HT [.str, .int .i64, .int .i64, .int .i64, .int .i64, .int .i64]) (p3 : Int) (K : Value → PT) : denF Pr Dt Tryz.f120 A_shelf_rack_api_Config_put [.v (.pointer p0), .v (.string p1), .ag [.string p2.1, .int .i64 p2.2.1, .int .i64 p2.2.2.1, .int .i64 p2.2.2.2.1, .int .i64 p2.2.2.2.2.1, .int .i64 p2.2.2.2.2.2.1], .v (.int .i64 p3)] K = F_shelf_rack_api_Config_put p0 p1 p2 p3 K := by kernel_rfl
theorem C_shelf_rack_api_Config_put (p0 : Option Addr) (p1 : ByteArray) (p2 : HT [.str, .int .i64, .int .i64, .int .i64, .int .i64, .int .i64]) (p3 : Int) {K : Value → PT} {w : World} (h : F_shelf_rack_api_Config_put p0 p1 p2 p3 K w) : Calls Pr n_shelf_rack_api_Config_put [.pointer p0, .string p1, (.ag [.string p2.1, .int .i64 p2.2.1, .int .i64 p2.2.2.1, .int .i64 p2.2.2.2.1, .int .i64 p2.2.2.2.2.1, .int .i64 p2.2.2.2.2.2.1] : SV).toV, .int .i64 p3].toArray w fun e w2 => ∃ v, e = .returned v ∧ K v w2 :=
  denF_ok Tok (f := 120) (fn := Tryz.f120) (an := A_shelf_rack_api_Config_put) (args := [.v (.pointer p0), .v (.string p1), .ag [.string p2.1, .int .i64 p2.2.1, .int .i64 p2.2.2.1, .int .i64 p2.2.2.2.1, .int .i64 p2.2.2.2.2.1, .int .i64 p2.2.2.2.2.2.1], .v (.int .i64 p3)]) (by kernel_rfl) (by kernel_rfl) ((congrFun (D_shelf_rack_api_Config_put p0 p1 p2 p3 K) w).mpr h)
def A_gate_why : Ann := .auto
def F_gate_why (p0 : ByteArray) (K : Value → PT) : PT :=
 L.new [.int .i64 0, .int .i64 0, .int .i64 0, .string s_] T_gate_Fate fun b1 =>
 L.store (⟨b1, 0, none⟩) [.int .i64 0, .int .i64 4, .int .i64 0, .string p0] <|
 L.load (.agg [.int .i64, .int .i64, .int .i64, .str]) (⟨b1, 0, none⟩) fun (x2 : Int × Int × Int × ByteArray × Unit) =>
 K (.agg #[.int .i64 x2.1, .int .i64 x2.2.1, .int .i64 x2.2.2.1, .string x2.2.2.2.1])
theorem D_gate_why (p0 : ByteArray) (K : Value → PT) : denF Pr Dt Tryz.f129 A_gate_why [.v (.string p0)] K = F_gate_why p0 K := by kernel_rfl
theorem C_gate_why (p0 : ByteArray) {K : Value → PT} {w : World} (h : F_gate_why p0 K w) : Calls Pr n_gate_why [.string p0].toArray w fun e w2 => ∃ v, e = .returned v ∧ K v w2 :=
  denF_ok Tok (f := 129) (fn := Tryz.f129) (an := A_gate_why) (args := [.v (.string p0)]) (by kernel_rfl) (by kernel_rfl) ((congrFun (D_gate_why p0 K) w).mpr h)
def A_gate_Gate_set : Ann := .auto
def F_gate_Gate_set (p0 : Option Addr) (p1 : Int) (p2 : ByteArray) (p3 : HT [.int .i64, .int .i64, .int .i64, .str]) (K : Value → PT) : PT :=
 L.new [.int .i64 p3.1, .int .i64 p3.2.1, .int .i64 p3.2.2.1, .string p3.2.2.2.1] T_gate_Fate fun b1 =>
 L.new [.int .i64 0, .int .i64 0, .int .i64 0, .string s_] T_gate_Fate fun b2 =>
 L.store ((⟨b1, 0, none⟩ : Addr).add 0) [.int .i64 p1] <|
 L.draw <|
 L.nonnil p0 fun a3 =>
 L.load (.one (.map)) (a3.add 1) fun (x4 : Option Nat) =>
 L.load (.one (.int .i64)) ((⟨b1, 0, none⟩ : Addr).add 1) fun (x5 : Int) =>
 L.semU Pr (Instr.mapUpdate T_map_int_gate_request (.map x4) (.int .i64 p1) (.agg #[.string p2, .int .i64 x5])) <|
 L.load (.agg [.int .i64, .int .i64, .int .i64, .str]) (⟨b1, 0, none⟩) fun (x6 : Int × Int × Int × ByteArray × Unit) =>
 L.store (⟨b2, 0, none⟩) [.int .i64 x6.1, .int .i64 x6.2.1, .int .i64 x6.2.2.1, .string x6.2.2.2.1] <|
 L.load (.agg [.int .i64, .int .i64, .int .i64, .str]) (⟨b2, 0, none⟩) fun (x7 : Int × Int × Int × ByteArray × Unit) =>
 K (.agg #[.int .i64 x7.1, .int .i64 x7.2.1, .int .i64 x7.2.2.1, .string x7.2.2.2.1])
theorem D_gate_Gate_set (p0 : Option Addr) (p1 : Int) (p2 : ByteArray) (p3 : HT [.int .i64, .int .i64, .int .i64, .str]) (K : Value → PT) : denF Pr Dt Tryz.f130 A_gate_Gate_set [.v (.pointer p0), .v (.int .i64 p1), .v (.string p2), .ag [.int .i64 p3.1, .int .i64 p3.2.1, .int .i64 p3.2.2.1, .string p3.2.2.2.1]] K = F_gate_Gate_set p0 p1 p2 p3 K := by kernel_rfl
theorem C_gate_Gate_set (p0 : Option Addr) (p1 : Int) (p2 : ByteArray) (p3 : HT [.int .i64, .int .i64, .int .i64, .str]) {K : Value → PT} {w : World} (h : F_gate_Gate_set p0 p1 p2 p3 K w) : Calls Pr n_gate_Gate_set [.pointer p0, .int .i64 p1, .string p2, (.ag [.int .i64 p3.1, .int .i64 p3.2.1, .int .i64 p3.2.2.1, .string p3.2.2.2.1] : SV).toV].toArray w fun e w2 => ∃ v, e = .returned v ∧ K v w2 :=
  denF_ok Tok (f := 130) (fn := Tryz.f130) (an := A_gate_Gate_set) (args := [.v (.pointer p0), .v (.int .i64 p1), .v (.string p2), .ag [.int .i64 p3.1, .int .i64 p3.2.1, .int .i64 p3.2.2.1, .string p3.2.2.2.1]]) (by kernel_rfl) (by kernel_rfl) ((congrFun (D_gate_Gate_set p0 p1 p2 p3 K) w).mpr h)
def A_wait_Line_Len : Ann := .auto
def F_wait_Line_Len (p0 : Option Addr) (K : Value → PT) : PT :=
 L.nonnil p0 fun a1 =>
 L.load (.one (.slice)) ((a1.add 0).add 0) fun (x2 : Sl) =>
 K (.int .i64 ((x2.len : Nat) : Int))
theorem D_wait_Line_Len (p0 : Option Addr) (K : Value → PT) : denF Pr Dt Tryz.f132 A_wait_Line_Len [.v (.pointer p0)] K = F_wait_Line_Len p0 K := by kernel_rfl
theorem C_wait_Line_Len (p0 : Option Addr) {K : Value → PT} {w : World} (h : F_wait_Line_Len p0 K w) : Calls Pr n_wait_Line_Len [.pointer p0].toArray w fun e w2 => ∃ v, e = .returned v ∧ K v w2 :=
  denF_ok Tok (f := 132) (fn := Tryz.f132) (an := A_wait_Line_Len) (args := [.v (.pointer p0)]) (by kernel_rfl) (by kernel_rfl) ((congrFun (D_wait_Line_Len p0 K) w).mpr h)
def A_system_lines : Ann := .auto
def F_system_lines (p0 : Sl) (K : Value → PT) : PT :=
 L.new [.slice p0.a p0.len p0.cap] T_s_gate_Fate fun b1 =>
 K (.func (.func n_system_lines_1) #[] #[.pointer (some (⟨b1, 0, none⟩))])
end Go.Proofs.YtkebppklbobjcaaGreatDoor
