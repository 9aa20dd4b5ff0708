/- The functions of the program, read as predicates on the world, each with its contract (text G). No conditions beyond those its theorems state. -/
import Derived.Test.YthmpbgloifdcnaaGreatDenC
import Derived.Test.YthmpbgloifdcnaaGreatProg
set_option linter.all false
set_option maxRecDepth 100000
namespace Go.Proofs.YthmpbgloifdcnaaGreat
open Go.Dm
noncomputable abbrev Pr : Program := Tryz.prog
abbrev n_main_main : Nat := 0
abbrev n_gosem_cut : Nat := 1
abbrev n_gosem_cut_init : Nat := 2
abbrev n_damperlaw14_GateLate : Nat := 3
abbrev n_damperlaw14_GateOnce : Nat := 4
abbrev n_damperlaw14_GateKnown : Nat := 5
abbrev n_damperlaw14_known : Nat := 6
abbrev n_fleet_New : Nat := 7
abbrev n_damperlaw14_within : Nat := 8
abbrev n_gate_New : Nat := 9
abbrev n_fleet_Fleet_Scale : Nat := 10
abbrev n_gate_Gate_Tick : Nat := 11
abbrev n_gate_Gate_Arrive : Nat := 12
abbrev n_fleet_Fleet_Up : Nat := 13
abbrev n_gate_Gate_Flow : Nat := 14
abbrev n_fleet_Fleet_Kill : Nat := 15
abbrev n_gate_Gate_Lost : Nat := 16
abbrev n_gate_Gate_Done : Nat := 17
abbrev n_gate_Gate_Counts : Nat := 18
abbrev n_damperlaw14_told : Nat := 19
abbrev n_gate_Gate_Inside : Nat := 20
abbrev n_gate_Gate_Busy : Nat := 21
abbrev n_gate_Gate_Seen : Nat := 22
abbrev n_gate_New_1 : Nat := 23
abbrev n_wait_New : Nat := 24
abbrev n_fleet_Fleet_up : Nat := 25
abbrev n_pod_New : Nat := 26
abbrev n_fleet_Fleet_spare : Nat := 27
abbrev n_pod_Pod_Drain : Nat := 28
abbrev n_fleet_Fleet_end : Nat := 29
abbrev n_slices_Clone_int_int : Nat := 30
abbrev n_gate_book_wait_Line_each : Nat := 31
abbrev n_wait_Line_Late : Nat := 32
abbrev n_gate_Gate_set : Nat := 33
abbrev n_gate_why : Nat := 34
abbrev n_slices_Clone_gate_Fate_gate_Fate : Nat := 35
abbrev n_gate_book_wait_Line_at : Nat := 36
abbrev n_wait_Line_Len : Nat := 37
abbrev n_gate_Gate_send : Nat := 38
abbrev n_wait_Line_Push : Nat := 39
abbrev n_pod_Pod_Up : Nat := 40
abbrev n_wait_Line_All : Nat := 41
abbrev n_wait_Line_Pop : Nat := 42
abbrev n_pod_Pod_Kill : Nat := 43
abbrev n_fleet_Fleet_Give : Nat := 44
abbrev n_damperlaw14_digits : Nat := 45
abbrev n_slices_Sort_int_int : Nat := 46
abbrev n_fleet_Fleet_of : Nat := 47
abbrev n_pod_Pod_State : Nat := 48
abbrev n_pod_Pod_Load : Nat := 49
abbrev n_pod_Pod_end : Nat := 50
abbrev n_gate_book_wait_Line_each_1 : Nat := 51
abbrev n_slices_Sorted_string : Nat := 52
abbrev n_maps_Keys_map_string_wait_Line_string_wait_Line : Nat := 53
abbrev n_wait_row_int_part : Nat := 54
abbrev n_fleet_Fleet_Take : Nat := 55
abbrev n_wait_row_int_has : Nat := 56
abbrev n_wait_row_int_each : Nat := 57
abbrev n_slices_Sorted_int : Nat := 58
abbrev n_maps_Keys_map_int_bool_int_bool : Nat := 59
abbrev n_pod_bag_int_take : Nat := 60
abbrev n_pod_Pod_Give : Nat := 61
abbrev n_slices_pdqsortOrdered_int : Nat := 62
abbrev n_math_bits_Len : Nat := 63
abbrev n_fleet_Fleet_of_1 : Nat := 64
abbrev n_maps_Keys_map_int_fleet_one_int_fleet_one : Nat := 65
abbrev n_slices_Collect_string : Nat := 66
abbrev n_slices_Sort_string_string : Nat := 67
abbrev n_maps_Keys_map_string_wait_Line_string_wait_Line_1 : Nat := 68
abbrev n_slices_SortStableFunc_fleet_choice_fleet_choice : Nat := 69
abbrev n_fleet_Fleet_Take_1 : Nat := 70
abbrev n_pod_Pod_Take : Nat := 71
abbrev n_wait_row_int_each_1 : Nat := 72
abbrev n_slices_Collect_int : Nat := 73
abbrev n_maps_Keys_map_int_bool_int_bool_1 : Nat := 74
abbrev n_slices_insertionSortOrdered_int : Nat := 75
abbrev n_slices_heapSortOrdered_int : Nat := 76
abbrev n_slices_breakPatternsOrdered_int : Nat := 77
abbrev n_slices_choosePivotOrdered_int : Nat := 78
abbrev n_slices_reverseRangeOrdered_int : Nat := 79
abbrev n_slices_partialInsertionSortOrdered_int : Nat := 80
abbrev n_cmp_Less_int : Nat := 81
abbrev n_slices_partitionEqualOrdered_int : Nat := 82
abbrev n_slices_partitionOrdered_int : Nat := 83
abbrev n_math_bits_Len32 : Nat := 84
abbrev n_math_bits_Len64 : Nat := 85
abbrev n_maps_Keys_map_int_fleet_one_int_fleet_one_1 : Nat := 86
abbrev n_slices_AppendSeq_string_string : Nat := 87
abbrev n_slices_pdqsortOrdered_string : Nat := 88
abbrev n_slices_stableCmpFunc_fleet_choice : Nat := 89
abbrev n_pod_bag_int_put : Nat := 90
abbrev n_slices_AppendSeq_int_int : Nat := 91
abbrev n_slices_siftDownOrdered_int : Nat := 92
abbrev n_slices_nextPowerOfTwo : Nat := 93
abbrev n_slices_xorshift_Next : Nat := 94
abbrev n_slices_medianAdjacentOrdered_int : Nat := 95
abbrev n_slices_medianOrdered_int : Nat := 96
abbrev n_cmp_isNaN_int : Nat := 97
abbrev n_slices_insertionSortOrdered_string : Nat := 98
abbrev n_slices_heapSortOrdered_string : Nat := 99
abbrev n_slices_breakPatternsOrdered_string : Nat := 100
abbrev n_slices_choosePivotOrdered_string : Nat := 101
abbrev n_slices_reverseRangeOrdered_string : Nat := 102
abbrev n_slices_partialInsertionSortOrdered_string : Nat := 103
abbrev n_cmp_Less_string : Nat := 104
abbrev n_slices_partitionEqualOrdered_string : Nat := 105
abbrev n_slices_partitionOrdered_string : Nat := 106
abbrev n_slices_insertionSortCmpFunc_fleet_choice : Nat := 107
abbrev n_slices_symMergeCmpFunc_fleet_choice : Nat := 108
abbrev n_slices_order2Ordered_int : Nat := 109
abbrev n_slices_siftDownOrdered_string : Nat := 110
abbrev n_slices_medianAdjacentOrdered_string : Nat := 111
abbrev n_slices_medianOrdered_string : Nat := 112
abbrev n_cmp_isNaN_string : Nat := 113
abbrev n_slices_rotateCmpFunc_fleet_choice : Nat := 114
abbrev n_slices_order2Ordered_string : Nat := 115
abbrev n_slices_swapRangeCmpFunc_fleet_choice : Nat := 116
abbrev n_runtime_boundsError_Error : Nat := 117
abbrev n_runtime_boundsError_RuntimeError : Nat := 118
abbrev n_runtime_errorString_Error : Nat := 119
abbrev n_runtime_errorString_RuntimeError : Nat := 120
abbrev n_runtime_plainError_Error : Nat := 121
abbrev n_runtime_plainError_RuntimeError : Nat := 122
abbrev n_runtime_errorAddressString_Error : Nat := 123
abbrev n_runtime_errorAddressString_RuntimeError : Nat := 124
abbrev n_runtime_TypeAssertionError_Error : Nat := 125
abbrev n_runtime_TypeAssertionError_RuntimeError : Nat := 126
abbrev n_runtime_PanicNilError_Error : Nat := 127
abbrev n_runtime_PanicNilError_RuntimeError : Nat := 128
abbrev n_internal_abi_Type_Align : Nat := 129
abbrev n_internal_runtime_maps_unhashableTypeError_Error : Nat := 130
abbrev n_internal_runtime_maps_unhashableTypeError_RuntimeError : Nat := 131
abbrev n_fleet_Fleet_Live : Nat := 132
abbrev n_api_Errno_Error : Nat := 133
abbrev n_internal_abi_Kind_String : Nat := 134
abbrev T_ : Nat := 0
abbrev T_func : Nat := 1
abbrev T_int64 : Nat := 2
abbrev T_int : Nat := 3
abbrev T_bool : Nat := 4
abbrev T_uint8 : Nat := 5
abbrev T_abi_BoundsErrorCode : Nat := 6
abbrev T_struct_x_int64_y_int_signed_bo_10ef : Nat := 7
abbrev T_runtime_boundsError : Nat := 8
abbrev T_string : Nat := 9
abbrev T_runtime_errorString : Nat := 10
abbrev T_runtime_plainError : Nat := 11
abbrev T_uintptr : Nat := 12
abbrev T_struct_msg_string_addr_uintptr : Nat := 13
abbrev T_runtime_errorAddressString : Nat := 14
abbrev T_p_runtime_TypeAssertionError : Nat := 15
abbrev T_p_runtime_PanicNilError : Nat := 16
abbrev T_p_abi_Type : Nat := 17
abbrev T_struct_typ_p_abi_Type : Nat := 18
abbrev T_maps_unhashableTypeError : Nat := 19
abbrev T_interface : Nat := 20
abbrev T_int32 : Nat := 21
abbrev T_s_int : Nat := 22
abbrev T_func_bool : Nat := 23
abbrev T_p_fleet_Fleet : Nat := 24
abbrev T_func_int_p_fleet_Fleet : Nat := 25
abbrev T_func_int_int_int : Nat := 26
abbrev T_p_gate_Gate : Nat := 27
abbrev T_func_p_fleet_Fleet_int_int_p_gate_Gate : Nat := 28
abbrev T_s_int_s_int : Nat := 29
abbrev T_func_string_int_int_s_int_s_int : Nat := 30
abbrev T_s_gate_Fate : Nat := 31
abbrev T_func_int_s_gate_Fate : Nat := 32
abbrev T_struct_Id_int_What_int_Pod_int_71c7 : Nat := 33
abbrev T_gate_Fate : Nat := 34
abbrev T_func_int_string_int_s_gate_Fate : Nat := 35
abbrev T_api_Errno : Nat := 36
abbrev T_func_int_api_Errno : Nat := 37
abbrev T_func_string_s_gate_Fate : Nat := 38
abbrev T_func_int_s_int_int_bool : Nat := 39
abbrev T_s_bool : Nat := 40
abbrev T_s_int_api_Errno : Nat := 41
abbrev T_func_int_s_int_api_Errno : Nat := 42
abbrev T_func_s_int_s_gate_Fate : Nat := 43
abbrev T_s_gate_Fate_api_Errno : Nat := 44
abbrev T_func_int_s_gate_Fate_api_Errno : Nat := 45
abbrev T_int_int_int_int : Nat := 46
abbrev T_func_int_int_int_int : Nat := 47
abbrev T_func_int_int_s_int_bool : Nat := 48
abbrev T_func_s_gate_Fate_string : Nat := 49
abbrev T_func_string_s_int_s_int : Nat := 50
abbrev T_func_string_int : Nat := 51
abbrev T_func_int_bool : Nat := 52
abbrev T_map_int_fleet_one : Nat := 53
abbrev T_map_int_int : Nat := 54
abbrev T_struct_all_map_int_fleet_one_w_fe7c : Nat := 55
abbrev T_fleet_Fleet : Nat := 56
abbrev T_map_int_gate_request : Nat := 57
abbrev T_map_string_p_wait_Line : Nat := 58
abbrev T_p_wait_Line : Nat := 59
abbrev T_func_int_p_wait_Line : Nat := 60
abbrev T_func_p_wait_Line : Nat := 61
abbrev T_struct_all_map_string_p_wait_L_a721 : Nat := 62
abbrev T_gate_book_p_wait_Line : Nat := 63
abbrev T_struct_f_p_fleet_Fleet_all_map_2cc4 : Nat := 64
abbrev T_gate_Gate : Nat := 65
abbrev T_p_pod_Pod : Nat := 66
abbrev T_func_int_p_pod_Pod : Nat := 67
abbrev T_struct_rev_string_pod_p_pod_Pod : Nat := 68
abbrev T_fleet_one : Nat := 69
abbrev T_func_api_Errno : Nat := 70
abbrev T_func_int : Nat := 71
abbrev T_func_s_int_s_int : Nat := 72
abbrev T_func_func_string_p_wait_Line_bool : Nat := 73
abbrev T_iter_Seq2_string_p_wait_Line : Nat := 74
abbrev T_func_iter_Seq2_string_p_wait_Line : Nat := 75
abbrev T_func_int_s_int : Nat := 76
abbrev T_func_int_string_gate_Fate_gate_Fate : Nat := 77
abbrev T_func_string_gate_Fate : Nat := 78
abbrev T_func_s_gate_Fate_s_gate_Fate : Nat := 79
abbrev T_func_string_p_wait_Line : Nat := 80
abbrev T_func_int_1 : Nat := 81
abbrev T_gate_Fate_bool : Nat := 82
abbrev T_func_int_string_gate_Fate_bool : Nat := 83
abbrev T_func_int_int_api_Errno : Nat := 84
abbrev T_fleet_one_bool : Nat := 85
abbrev T_func_s_int : Nat := 86
abbrev T_int_bool : Nat := 87
abbrev T_func_int_bool_1 : Nat := 88
abbrev T_func_s_int_api_Errno : Nat := 89
abbrev T_struct_rev_string_what_int : Nat := 90
abbrev T_gate_request : Nat := 91
abbrev T_string_api_Errno : Nat := 92
abbrev T_func_int_string_api_Errno : Nat := 93
abbrev T_func_int_string : Nat := 94
abbrev T_func_s_int_1 : Nat := 95
abbrev T_p_wait_Line_bool : Nat := 96
abbrev T_gate_request_bool : Nat := 97
abbrev T_s_wait_held_int : Nat := 98
abbrev T_struct_l_s_wait_held_int : Nat := 99
abbrev T_wait_row_int : Nat := 100
abbrev T_struct_row_wait_row_int_room_int : Nat := 101
abbrev T_wait_Line : Nat := 102
abbrev T_func_func_int_p_pod_Pod_bool : Nat := 103
abbrev T_iter_Seq2_int_p_pod_Pod : Nat := 104
abbrev T_func_string_iter_Seq2_int_p_pod_Pod : Nat := 105
abbrev T_map_int_bool : Nat := 106
abbrev T_struct_all_map_int_bool_room_int : Nat := 107
abbrev T_pod_bag_int : Nat := 108
abbrev T_struct_state_int_has_pod_bag_int : Nat := 109
abbrev T_pod_Pod : Nat := 110
abbrev T_p_gate_book_p_wait_Line : Nat := 111
abbrev T_func_string_p_wait_Line_bool : Nat := 112
abbrev T_s_string : Nat := 113
abbrev T_func_iter_Seq_string_s_string : Nat := 114
abbrev T_func_func_string_bool : Nat := 115
abbrev T_iter_Seq_string : Nat := 116
abbrev T_func_map_string_p_wait_Line_it_a75e : Nat := 117
abbrev T_func_string_int_int_bool : Nat := 118
abbrev T_struct_what_int_until_int : Nat := 119
abbrev T_wait_held_int : Nat := 120
abbrev T_func_func_int_int_bool : Nat := 121
abbrev T_iter_Seq2_int_int : Nat := 122
abbrev T_func_iter_Seq2_int_int : Nat := 123
abbrev T_func_iter_Seq_int_s_int : Nat := 124
abbrev T_func_func_int_bool : Nat := 125
abbrev T_iter_Seq_int : Nat := 126
abbrev T_func_map_int_bool_iter_Seq_int : Nat := 127
abbrev T_s_uint8 : Nat := 128
abbrev T_func_s_int_int_int_int : Nat := 129
abbrev T_func_uint_int : Nat := 130
abbrev T_uint : Nat := 131
abbrev T_func_int_p_pod_Pod_bool : Nat := 132
abbrev T_func_map_int_fleet_one_iter_Seq_int : Nat := 133
abbrev T_func_s_string : Nat := 134
abbrev T_func_string_bool : Nat := 135
abbrev T_p_wait_row_int : Nat := 136
abbrev T_s_fleet_choice : Nat := 137
abbrev T_struct_load_int_id_int : Nat := 138
abbrev T_fleet_choice : Nat := 139
abbrev T_func_s_fleet_choice_func_fleet_cdf5 : Nat := 140
abbrev T_func_fleet_choice_fleet_choice_int : Nat := 141
abbrev T_func_int_int_bool : Nat := 142
abbrev T_p_pod_bag_int : Nat := 143
abbrev T_func_s_int_int_int : Nat := 144
abbrev T_slices_sortedHint : Nat := 145
abbrev T_int_slices_sortedHint : Nat := 146
abbrev T_func_s_int_int_int_int_slices_sortedHint : Nat := 147
abbrev T_func_s_int_int_int_bool : Nat := 148
abbrev T_func_s_int_int_int_int_int : Nat := 149
abbrev T_func_s_int_int_int_int_int_bool : Nat := 150
abbrev T_func_uint32_int : Nat := 151
abbrev T_uint32 : Nat := 152
abbrev T_func_uint64_int : Nat := 153
abbrev T_uint64 : Nat := 154
abbrev T_func_s_string_iter_Seq_string_s_string : Nat := 155
abbrev T_func_s_string_int_int_int : Nat := 156
abbrev T_func_s_fleet_choice_int_func_f_35ec : Nat := 157
abbrev T_func_s_int_iter_Seq_int_s_int : Nat := 158
abbrev T_slices_xorshift : Nat := 159
abbrev T_func_int_uint : Nat := 160
abbrev T_func_uint64 : Nat := 161
abbrev T_func_s_int_int_p_int_int : Nat := 162
abbrev T_p_int : Nat := 163
abbrev T_func_s_int_int_int_int_p_int_int : Nat := 164
abbrev T_func_s_string_int_int : Nat := 165
abbrev T_func_s_string_int_int_int_slic_b85c : Nat := 166
abbrev T_func_s_string_int_int_bool : Nat := 167
abbrev T_func_string_string_bool : Nat := 168
abbrev T_func_s_string_int_int_int_int : Nat := 169
abbrev T_func_s_string_int_int_int_int_bool : Nat := 170
abbrev T_func_s_fleet_choice_int_int_fu_3043 : Nat := 171
abbrev T_func_s_fleet_choice_int_int_in_38fa : Nat := 172
abbrev T_p_slices_xorshift : Nat := 173
abbrev T_int_int : Nat := 174
abbrev T_func_s_int_int_int_p_int_int_int : Nat := 175
abbrev T_func_s_string_int_p_int_int : Nat := 176
abbrev T_func_s_string_int_int_int_p_int_int : Nat := 177
abbrev T_func_s_string_int_int_p_int_int_int : Nat := 178
abbrev T_func_string : Nat := 179
abbrev T_struct__interface_p_abi_Type_c_b8d5 : Nat := 180
abbrev T_runtime_TypeAssertionError : Nat := 181
abbrev T_0_p_runtime_PanicNilError : Nat := 182
abbrev T_struct___0_p_runtime_PanicNilError : Nat := 183
abbrev T_runtime_PanicNilError : Nat := 184
abbrev T_abi_TFlag : Nat := 185
abbrev T_abi_Kind : Nat := 186
abbrev T_func_unsafe_Pointer_unsafe_Pointer_bool : Nat := 187
abbrev T_p_uint8 : Nat := 188
abbrev T_abi_NameOff : Nat := 189
abbrev T_abi_TypeOff : Nat := 190
abbrev T_struct_Size__uintptr_PtrBytes__b10b : Nat := 191
abbrev T_abi_Type : Nat := 192
abbrev T_unsafe_Pointer : Nat := 193
def s_a_1 : ByteArray := ⟨#[97, 45, 49]⟩
def s_timeout : ByteArray := ⟨#[116, 105, 109, 101, 111, 117, 116]⟩
def s_ : ByteArray := ⟨#[]⟩
def s_twice : ByteArray := ⟨#[116, 119, 105, 99, 101]⟩
def s_no_route : ByteArray := ⟨#[110, 111, 45, 114, 111, 117, 116, 101]⟩
def s_overflow : ByteArray := ⟨#[111, 118, 101, 114, 102, 108, 111, 119]⟩
def s_pod_lost : ByteArray := ⟨#[112, 111, 100, 45, 108, 111, 115, 116]⟩
def s__ : ByteArray := ⟨#[58]⟩
def s___b5c5 : ByteArray := ⟨#[32]⟩
def s___b5d2 : ByteArray := ⟨#[45]⟩
def ti_0 : TI := ⟨.tuple [], 1, none, none⟩
def ti_1 : TI := ⟨.func, 1, some (.one (.func)), some [.nilFunc]⟩
def ti_2 : TI := ⟨.int .i64, 1, some (.one (.int .i64)), some [.int .i64 0]⟩
def ti_3 : TI := ⟨.int .i64, 1, some (.one (.int .i64)), some [.int .i64 0]⟩
def ti_4 : TI := ⟨.bool, 1, some (.one (.bool)), some [.bool false]⟩
def ti_5 : TI := ⟨.int .u8, 1, some (.one (.int .u8)), some [.int .u8 0]⟩
def ti_6 : TI := ⟨.int .u8, 1, some (.one (.int .u8)), some [.int .u8 0]⟩
def ti_7 : TI := ⟨.struct [(2, 0), (3, 1), (4, 2), (6, 3)], 4, some (.agg [.int .i64, .int .i64, .bool, .int .u8]), some [.int .i64 0, .int .i64 0, .bool false, .int .u8 0]⟩
def ti_8 : TI := ⟨.struct [(2, 0), (3, 1), (4, 2), (6, 3)], 4, some (.agg [.int .i64, .int .i64, .bool, .int .u8]), some [.int .i64 0, .int .i64 0, .bool false, .int .u8 0]⟩
def ti_9 : TI := ⟨.str, 1, some (.one (.str)), some [.string s_]⟩
def ti_10 : TI := ⟨.str, 1, some (.one (.str)), some [.string s_]⟩
def ti_11 : TI := ⟨.str, 1, some (.one (.str)), some [.string s_]⟩
def ti_12 : TI := ⟨.int .u64, 1, some (.one (.int .u64)), some [.int .u64 0]⟩
def ti_13 : TI := ⟨.struct [(9, 0), (12, 1)], 2, some (.agg [.str, .int .u64]), some [.string s_, .int .u64 0]⟩
def ti_14 : TI := ⟨.struct [(9, 0), (12, 1)], 2, some (.agg [.str, .int .u64]), some [.string s_, .int .u64 0]⟩
def ti_15 : TI := ⟨.ptr, 1, some (.one (.ptr)), some [.pointer none]⟩
def ti_16 : TI := ⟨.ptr, 1, some (.one (.ptr)), some [.pointer none]⟩
def ti_17 : TI := ⟨.ptr, 1, some (.one (.ptr)), some [.pointer none]⟩
def ti_18 : TI := ⟨.struct [(17, 0)], 1, some (.agg [.ptr]), some [.pointer none]⟩
def ti_19 : TI := ⟨.struct [(17, 0)], 1, some (.agg [.ptr]), some [.pointer none]⟩
def ti_20 : TI := ⟨.iface, 1, some (.one (.iface)), some [.nilIface]⟩
def ti_21 : TI := ⟨.int .i32, 1, some (.one (.int .i32)), some [.int .i32 0]⟩
def ti_22 : TI := ⟨.slice 3, 1, some (.one (.slice)), some [.slice none 0 0]⟩
def ti_23 : TI := ⟨.func, 1, some (.one (.func)), some [.nilFunc]⟩
def ti_24 : TI := ⟨.ptr, 1, some (.one (.ptr)), some [.pointer none]⟩
def ti_25 : TI := ⟨.func, 1, some (.one (.func)), some [.nilFunc]⟩
def ti_26 : TI := ⟨.func, 1, some (.one (.func)), some [.nilFunc]⟩
def ti_27 : TI := ⟨.ptr, 1, some (.one (.ptr)), some [.pointer none]⟩
def ti_28 : TI := ⟨.func, 1, some (.one (.func)), some [.nilFunc]⟩
def ti_29 : TI := ⟨.tuple [22, 22], 1, none, none⟩
def ti_30 : TI := ⟨.func, 1, some (.one (.func)), some [.nilFunc]⟩
def ti_31 : TI := ⟨.slice 34, 1, some (.one (.slice)), some [.slice none 0 0]⟩
def ti_32 : TI := ⟨.func, 1, some (.one (.func)), some [.nilFunc]⟩
def ti_33 : TI := ⟨.struct [(3, 0), (3, 1), (3, 2), (9, 3)], 4, some (.agg [.int .i64, .int .i64, .int .i64, .str]), some [.int .i64 0, .int .i64 0, .int .i64 0, .string s_]⟩
def ti_34 : TI := ⟨.struct [(3, 0), (3, 1), (3, 2), (9, 3)], 4, some (.agg [.int .i64, .int .i64, .int .i64, .str]), some [.int .i64 0, .int .i64 0, .int .i64 0, .string s_]⟩
def ti_35 : TI := ⟨.func, 1, some (.one (.func)), some [.nilFunc]⟩
def ti_36 : TI := ⟨.int .i64, 1, some (.one (.int .i64)), some [.int .i64 0]⟩
def ti_37 : TI := ⟨.func, 1, some (.one (.func)), some [.nilFunc]⟩
def ti_38 : TI := ⟨.func, 1, some (.one (.func)), some [.nilFunc]⟩
def ti_39 : TI := ⟨.func, 1, some (.one (.func)), some [.nilFunc]⟩
def ti_40 : TI := ⟨.slice 4, 1, some (.one (.slice)), some [.slice none 0 0]⟩
def ti_41 : TI := ⟨.tuple [22, 36], 1, none, none⟩
def ti_42 : TI := ⟨.func, 1, some (.one (.func)), some [.nilFunc]⟩
def ti_43 : TI := ⟨.func, 1, some (.one (.func)), some [.nilFunc]⟩
def ti_44 : TI := ⟨.tuple [31, 36], 1, none, none⟩
def ti_45 : TI := ⟨.func, 1, some (.one (.func)), some [.nilFunc]⟩
def ti_46 : TI := ⟨.tuple [3, 3, 3, 3], 1, none, none⟩
def ti_47 : TI := ⟨.func, 1, some (.one (.func)), some [.nilFunc]⟩
def ti_48 : TI := ⟨.func, 1, some (.one (.func)), some [.nilFunc]⟩
def ti_49 : TI := ⟨.func, 1, some (.one (.func)), some [.nilFunc]⟩
def ti_50 : TI := ⟨.func, 1, some (.one (.func)), some [.nilFunc]⟩
def ti_51 : TI := ⟨.func, 1, some (.one (.func)), some [.nilFunc]⟩
def ti_52 : TI := ⟨.func, 1, some (.one (.func)), some [.nilFunc]⟩
def ti_53 : TI := ⟨.map 3 69, 1, some (.one (.map)), some [.map none]⟩
def ti_54 : TI := ⟨.map 3 3, 1, some (.one (.map)), some [.map none]⟩
def ti_55 : TI := ⟨.struct [(53, 0), (54, 1), (3, 2), (3, 3)], 4, some (.agg [.map, .map, .int .i64, .int .i64]), some [.map none, .map none, .int .i64 0, .int .i64 0]⟩
def ti_56 : TI := ⟨.struct [(53, 0), (54, 1), (3, 2), (3, 3)], 4, some (.agg [.map, .map, .int .i64, .int .i64]), some [.map none, .map none, .int .i64 0, .int .i64 0]⟩
def ti_57 : TI := ⟨.map 3 91, 1, some (.one (.map)), some [.map none]⟩
def ti_58 : TI := ⟨.map 9 59, 1, some (.one (.map)), some [.map none]⟩
def ti_59 : TI := ⟨.ptr, 1, some (.one (.ptr)), some [.pointer none]⟩
def ti_60 : TI := ⟨.func, 1, some (.one (.func)), some [.nilFunc]⟩
def ti_61 : TI := ⟨.func, 1, some (.one (.func)), some [.nilFunc]⟩
def ti_62 : TI := ⟨.struct [(58, 0), (61, 1)], 2, some (.agg [.map, .func]), some [.map none, .nilFunc]⟩
def ti_63 : TI := ⟨.struct [(58, 0), (61, 1)], 2, some (.agg [.map, .func]), some [.map none, .nilFunc]⟩
def ti_64 : TI := ⟨.struct [(24, 0), (57, 1), (63, 2), (3, 4), (3, 5)], 6, some (.agg [.ptr, .map, .map, .func, .int .i64, .int .i64]), some [.pointer none, .map none, .map none, .nilFunc, .int .i64 0, .int .i64 0]⟩
def ti_65 : TI := ⟨.struct [(24, 0), (57, 1), (63, 2), (3, 4), (3, 5)], 6, some (.agg [.ptr, .map, .map, .func, .int .i64, .int .i64]), some [.pointer none, .map none, .map none, .nilFunc, .int .i64 0, .int .i64 0]⟩
def ti_66 : TI := ⟨.ptr, 1, some (.one (.ptr)), some [.pointer none]⟩
def ti_67 : TI := ⟨.func, 1, some (.one (.func)), some [.nilFunc]⟩
def ti_68 : TI := ⟨.struct [(9, 0), (66, 1)], 2, some (.agg [.str, .ptr]), some [.string s_, .pointer none]⟩
def ti_69 : TI := ⟨.struct [(9, 0), (66, 1)], 2, some (.agg [.str, .ptr]), some [.string s_, .pointer none]⟩
def ti_70 : TI := ⟨.func, 1, some (.one (.func)), some [.nilFunc]⟩
def ti_71 : TI := ⟨.func, 1, some (.one (.func)), some [.nilFunc]⟩
def ti_72 : TI := ⟨.func, 1, some (.one (.func)), some [.nilFunc]⟩
def ti_73 : TI := ⟨.func, 1, some (.one (.func)), some [.nilFunc]⟩
def ti_74 : TI := ⟨.func, 1, some (.one (.func)), some [.nilFunc]⟩
def ti_75 : TI := ⟨.func, 1, some (.one (.func)), some [.nilFunc]⟩
def ti_76 : TI := ⟨.func, 1, some (.one (.func)), some [.nilFunc]⟩
def ti_77 : TI := ⟨.func, 1, some (.one (.func)), some [.nilFunc]⟩
def ti_78 : TI := ⟨.func, 1, some (.one (.func)), some [.nilFunc]⟩
def ti_79 : TI := ⟨.func, 1, some (.one (.func)), some [.nilFunc]⟩
def ti_80 : TI := ⟨.func, 1, some (.one (.func)), some [.nilFunc]⟩
def ti_81 : TI := ⟨.func, 1, some (.one (.func)), some [.nilFunc]⟩
def ti_82 : TI := ⟨.tuple [34, 4], 1, none, none⟩
def ti_83 : TI := ⟨.func, 1, some (.one (.func)), some [.nilFunc]⟩
def ti_84 : TI := ⟨.func, 1, some (.one (.func)), some [.nilFunc]⟩
def ti_85 : TI := ⟨.tuple [69, 4], 1, none, none⟩
def ti_86 : TI := ⟨.func, 1, some (.one (.func)), some [.nilFunc]⟩
def ti_87 : TI := ⟨.tuple [3, 4], 1, none, none⟩
def ti_88 : TI := ⟨.func, 1, some (.one (.func)), some [.nilFunc]⟩
def ti_89 : TI := ⟨.func, 1, some (.one (.func)), some [.nilFunc]⟩
def ti_90 : TI := ⟨.struct [(9, 0), (3, 1)], 2, some (.agg [.str, .int .i64]), some [.string s_, .int .i64 0]⟩
def ti_91 : TI := ⟨.struct [(9, 0), (3, 1)], 2, some (.agg [.str, .int .i64]), some [.string s_, .int .i64 0]⟩
def ti_92 : TI := ⟨.tuple [9, 36], 1, none, none⟩
def ti_93 : TI := ⟨.func, 1, some (.one (.func)), some [.nilFunc]⟩
def ti_94 : TI := ⟨.func, 1, some (.one (.func)), some [.nilFunc]⟩
def ti_95 : TI := ⟨.func, 1, some (.one (.func)), some [.nilFunc]⟩
def ti_96 : TI := ⟨.tuple [59, 4], 1, none, none⟩
def ti_97 : TI := ⟨.tuple [91, 4], 1, none, none⟩
def ti_98 : TI := ⟨.slice 120, 1, some (.one (.slice)), some [.slice none 0 0]⟩
def ti_99 : TI := ⟨.struct [(98, 0)], 1, some (.agg [.slice]), some [.slice none 0 0]⟩
def ti_100 : TI := ⟨.struct [(98, 0)], 1, some (.agg [.slice]), some [.slice none 0 0]⟩
def ti_101 : TI := ⟨.struct [(100, 0), (3, 1)], 2, some (.agg [.slice, .int .i64]), some [.slice none 0 0, .int .i64 0]⟩
def ti_102 : TI := ⟨.struct [(100, 0), (3, 1)], 2, some (.agg [.slice, .int .i64]), some [.slice none 0 0, .int .i64 0]⟩
def ti_103 : TI := ⟨.func, 1, some (.one (.func)), some [.nilFunc]⟩
def ti_104 : TI := ⟨.func, 1, some (.one (.func)), some [.nilFunc]⟩
def ti_105 : TI := ⟨.func, 1, some (.one (.func)), some [.nilFunc]⟩
def ti_106 : TI := ⟨.map 3 4, 1, some (.one (.map)), some [.map none]⟩
def ti_107 : TI := ⟨.struct [(106, 0), (3, 1)], 2, some (.agg [.map, .int .i64]), some [.map none, .int .i64 0]⟩
def ti_108 : TI := ⟨.struct [(106, 0), (3, 1)], 2, some (.agg [.map, .int .i64]), some [.map none, .int .i64 0]⟩
def ti_109 : TI := ⟨.struct [(3, 0), (108, 1)], 3, some (.agg [.int .i64, .map, .int .i64]), some [.int .i64 0, .map none, .int .i64 0]⟩
def ti_110 : TI := ⟨.struct [(3, 0), (108, 1)], 3, some (.agg [.int .i64, .map, .int .i64]), some [.int .i64 0, .map none, .int .i64 0]⟩
def ti_111 : TI := ⟨.ptr, 1, some (.one (.ptr)), some [.pointer none]⟩
def ti_112 : TI := ⟨.func, 1, some (.one (.func)), some [.nilFunc]⟩
def ti_113 : TI := ⟨.slice 9, 1, some (.one (.slice)), some [.slice none 0 0]⟩
def ti_114 : TI := ⟨.func, 1, some (.one (.func)), some [.nilFunc]⟩
def ti_115 : TI := ⟨.func, 1, some (.one (.func)), some [.nilFunc]⟩
def ti_116 : TI := ⟨.func, 1, some (.one (.func)), some [.nilFunc]⟩
def ti_117 : TI := ⟨.func, 1, some (.one (.func)), some [.nilFunc]⟩
def ti_118 : TI := ⟨.func, 1, some (.one (.func)), some [.nilFunc]⟩
def ti_119 : TI := ⟨.struct [(3, 0), (3, 1)], 2, some (.agg [.int .i64, .int .i64]), some [.int .i64 0, .int .i64 0]⟩
def ti_120 : TI := ⟨.struct [(3, 0), (3, 1)], 2, some (.agg [.int .i64, .int .i64]), some [.int .i64 0, .int .i64 0]⟩
def ti_121 : TI := ⟨.func, 1, some (.one (.func)), some [.nilFunc]⟩
def ti_122 : TI := ⟨.func, 1, some (.one (.func)), some [.nilFunc]⟩
def ti_123 : TI := ⟨.func, 1, some (.one (.func)), some [.nilFunc]⟩
def ti_124 : TI := ⟨.func, 1, some (.one (.func)), some [.nilFunc]⟩
def ti_125 : TI := ⟨.func, 1, some (.one (.func)), some [.nilFunc]⟩
def ti_126 : TI := ⟨.func, 1, some (.one (.func)), some [.nilFunc]⟩
def ti_127 : TI := ⟨.func, 1, some (.one (.func)), some [.nilFunc]⟩
def ti_128 : TI := ⟨.slice 5, 1, some (.one (.slice)), some [.slice none 0 0]⟩
def ti_129 : TI := ⟨.func, 1, some (.one (.func)), some [.nilFunc]⟩
def ti_130 : TI := ⟨.func, 1, some (.one (.func)), some [.nilFunc]⟩
def ti_131 : TI := ⟨.int .u64, 1, some (.one (.int .u64)), some [.int .u64 0]⟩
def ti_132 : TI := ⟨.func, 1, some (.one (.func)), some [.nilFunc]⟩
def ti_133 : TI := ⟨.func, 1, some (.one (.func)), some [.nilFunc]⟩
def ti_134 : TI := ⟨.func, 1, some (.one (.func)), some [.nilFunc]⟩
def ti_135 : TI := ⟨.func, 1, some (.one (.func)), some [.nilFunc]⟩
def ti_136 : TI := ⟨.ptr, 1, some (.one (.ptr)), some [.pointer none]⟩
def ti_137 : TI := ⟨.slice 139, 1, some (.one (.slice)), some [.slice none 0 0]⟩
def ti_138 : TI := ⟨.struct [(3, 0), (3, 1)], 2, some (.agg [.int .i64, .int .i64]), some [.int .i64 0, .int .i64 0]⟩
def ti_139 : TI := ⟨.struct [(3, 0), (3, 1)], 2, some (.agg [.int .i64, .int .i64]), some [.int .i64 0, .int .i64 0]⟩
def ti_140 : TI := ⟨.func, 1, some (.one (.func)), some [.nilFunc]⟩
def ti_141 : TI := ⟨.func, 1, some (.one (.func)), some [.nilFunc]⟩
def ti_142 : TI := ⟨.func, 1, some (.one (.func)), some [.nilFunc]⟩
def ti_143 : TI := ⟨.ptr, 1, some (.one (.ptr)), some [.pointer none]⟩
def ti_144 : TI := ⟨.func, 1, some (.one (.func)), some [.nilFunc]⟩
def ti_145 : TI := ⟨.int .i64, 1, some (.one (.int .i64)), some [.int .i64 0]⟩
def ti_146 : TI := ⟨.tuple [3, 145], 1, none, none⟩
def ti_147 : TI := ⟨.func, 1, some (.one (.func)), some [.nilFunc]⟩
def ti_148 : TI := ⟨.func, 1, some (.one (.func)), some [.nilFunc]⟩
def ti_149 : TI := ⟨.func, 1, some (.one (.func)), some [.nilFunc]⟩
def ti_150 : TI := ⟨.func, 1, some (.one (.func)), some [.nilFunc]⟩
def ti_151 : TI := ⟨.func, 1, some (.one (.func)), some [.nilFunc]⟩
def ti_152 : TI := ⟨.int .u32, 1, some (.one (.int .u32)), some [.int .u32 0]⟩
def ti_153 : TI := ⟨.func, 1, some (.one (.func)), some [.nilFunc]⟩
def ti_154 : TI := ⟨.int .u64, 1, some (.one (.int .u64)), some [.int .u64 0]⟩
def ti_155 : TI := ⟨.func, 1, some (.one (.func)), some [.nilFunc]⟩
def ti_156 : TI := ⟨.func, 1, some (.one (.func)), some [.nilFunc]⟩
def ti_157 : TI := ⟨.func, 1, some (.one (.func)), some [.nilFunc]⟩
def ti_158 : TI := ⟨.func, 1, some (.one (.func)), some [.nilFunc]⟩
def ti_159 : TI := ⟨.int .u64, 1, some (.one (.int .u64)), some [.int .u64 0]⟩
def ti_160 : TI := ⟨.func, 1, some (.one (.func)), some [.nilFunc]⟩
def ti_161 : TI := ⟨.func, 1, some (.one (.func)), some [.nilFunc]⟩
def ti_162 : TI := ⟨.func, 1, some (.one (.func)), some [.nilFunc]⟩
def ti_163 : TI := ⟨.ptr, 1, some (.one (.ptr)), some [.pointer none]⟩
def ti_164 : TI := ⟨.func, 1, some (.one (.func)), some [.nilFunc]⟩
def ti_165 : TI := ⟨.func, 1, some (.one (.func)), some [.nilFunc]⟩
def ti_166 : TI := ⟨.func, 1, some (.one (.func)), some [.nilFunc]⟩
def ti_167 : TI := ⟨.func, 1, some (.one (.func)), some [.nilFunc]⟩
def ti_168 : TI := ⟨.func, 1, some (.one (.func)), some [.nilFunc]⟩
def ti_169 : TI := ⟨.func, 1, some (.one (.func)), some [.nilFunc]⟩
def ti_170 : TI := ⟨.func, 1, some (.one (.func)), some [.nilFunc]⟩
def ti_171 : TI := ⟨.func, 1, some (.one (.func)), some [.nilFunc]⟩
def ti_172 : TI := ⟨.func, 1, some (.one (.func)), some [.nilFunc]⟩
def ti_173 : TI := ⟨.ptr, 1, some (.one (.ptr)), some [.pointer none]⟩
def ti_174 : TI := ⟨.tuple [3, 3], 1, none, none⟩
def ti_175 : TI := ⟨.func, 1, some (.one (.func)), some [.nilFunc]⟩
def ti_176 : TI := ⟨.func, 1, some (.one (.func)), some [.nilFunc]⟩
def ti_177 : TI := ⟨.func, 1, some (.one (.func)), some [.nilFunc]⟩
def ti_178 : TI := ⟨.func, 1, some (.one (.func)), some [.nilFunc]⟩
def ti_179 : TI := ⟨.func, 1, some (.one (.func)), some [.nilFunc]⟩
def ti_180 : TI := ⟨.struct [(17, 0), (17, 1), (17, 2), (9, 3)], 4, some (.agg [.ptr, .ptr, .ptr, .str]), some [.pointer none, .pointer none, .pointer none, .string s_]⟩
def ti_181 : TI := ⟨.struct [(17, 0), (17, 1), (17, 2), (9, 3)], 4, some (.agg [.ptr, .ptr, .ptr, .str]), some [.pointer none, .pointer none, .pointer none, .string s_]⟩
def ti_182 : TI := ⟨.arr 0 16, 0, some (.agg []), some []⟩
def ti_183 : TI := ⟨.struct [(182, 0)], 0, some (.agg []), some []⟩
def ti_184 : TI := ⟨.struct [(182, 0)], 0, some (.agg []), some []⟩
def ti_185 : TI := ⟨.int .u8, 1, some (.one (.int .u8)), some [.int .u8 0]⟩
def ti_186 : TI := ⟨.int .u8, 1, some (.one (.int .u8)), some [.int .u8 0]⟩
def ti_187 : TI := ⟨.func, 1, some (.one (.func)), some [.nilFunc]⟩
def ti_188 : TI := ⟨.ptr, 1, some (.one (.ptr)), some [.pointer none]⟩
def ti_189 : TI := ⟨.int .i32, 1, some (.one (.int .i32)), some [.int .i32 0]⟩
def ti_190 : TI := ⟨.int .i32, 1, some (.one (.int .i32)), some [.int .i32 0]⟩
def ti_191 : TI := ⟨.struct [(12, 0), (12, 1), (152, 2), (185, 3), (5, 4), (5, 5), (186, 6), (187, 7), (188, 8), (189, 9), (190, 10)], 11, some (.agg [.int .u64, .int .u64, .int .u32, .int .u8, .int .u8, .int .u8, .int .u8, .func, .ptr, .int .i32, .int .i32]), some [.int .u64 0, .int .u64 0, .int .u32 0, .int .u8 0, .int .u8 0, .int .u8 0, .int .u8 0, .nilFunc, .pointer none, .int .i32 0, .int .i32 0]⟩
def ti_192 : TI := ⟨.struct [(12, 0), (12, 1), (152, 2), (185, 3), (5, 4), (5, 5), (186, 6), (187, 7), (188, 8), (189, 9), (190, 10)], 11, some (.agg [.int .u64, .int .u64, .int .u32, .int .u8, .int .u8, .int .u8, .int .u8, .func, .ptr, .int .i32, .int .i32]), some [.int .u64 0, .int .u64 0, .int .u32 0, .int .u8 0, .int .u8 0, .int .u8 0, .int .u8 0, .nilFunc, .pointer none, .int .i32 0, .int .i32 0]⟩
def ti_193 : TI := ⟨.other, 1, none, none⟩
def fi_0 : Option RT := none
def fi_1 : Option RT := none
def fi_2 : Option RT := some (.tup [])
def fi_3 : Option RT := some (.one (.one (.bool)))
def fi_4 : Option RT := some (.one (.one (.bool)))
def fi_5 : Option RT := some (.one (.one (.bool)))
def fi_6 : Option RT := some (.one (.one (.bool)))
def fi_7 : Option RT := some (.one (.one (.ptr)))
def fi_8 : Option RT := some (.one (.one (.int .i64)))
def fi_9 : Option RT := some (.one (.one (.ptr)))
def fi_10 : Option RT := some (.tup [(.one (.slice)), (.one (.slice))])
def fi_11 : Option RT := some (.one (.one (.slice)))
def fi_12 : Option RT := some (.one (.one (.slice)))
def fi_13 : Option RT := some (.one (.one (.int .i64)))
def fi_14 : Option RT := some (.one (.one (.slice)))
def fi_15 : Option RT := some (.tup [(.one (.slice)), (.one (.int .i64))])
def fi_16 : Option RT := some (.one (.one (.slice)))
def fi_17 : Option RT := some (.tup [(.one (.slice)), (.one (.int .i64))])
def fi_18 : Option RT := some (.tup [(.one (.int .i64)), (.one (.int .i64)), (.one (.int .i64)), (.one (.int .i64))])
def fi_19 : Option RT := some (.one (.one (.str)))
def fi_20 : Option RT := some (.tup [(.one (.slice)), (.one (.slice))])
def fi_21 : Option RT := some (.one (.one (.int .i64)))
def fi_22 : Option RT := some (.one (.one (.bool)))
def fi_23 : Option RT := some (.one (.one (.ptr)))
def fi_24 : Option RT := some (.one (.one (.ptr)))
def fi_25 : Option RT := some (.one (.one (.int .i64)))
def fi_26 : Option RT := some (.one (.one (.ptr)))
def fi_27 : Option RT := some (.one (.one (.int .i64)))
def fi_28 : Option RT := some (.one (.one (.int .i64)))
def fi_29 : Option RT := some (.tup [])
def fi_30 : Option RT := some (.one (.one (.slice)))
def fi_31 : Option RT := some (.one (.one (.func)))
def fi_32 : Option RT := some (.one (.one (.slice)))
def fi_33 : Option RT := some (.one (.agg [.int .i64, .int .i64, .int .i64, .str]))
def fi_34 : Option RT := some (.one (.agg [.int .i64, .int .i64, .int .i64, .str]))
def fi_35 : Option RT := some (.one (.one (.slice)))
def fi_36 : Option RT := some (.one (.one (.ptr)))
def fi_37 : Option RT := some (.one (.one (.int .i64)))
def fi_38 : Option RT := some (.tup [(.agg [.int .i64, .int .i64, .int .i64, .str]), (.one (.bool))])
def fi_39 : Option RT := some (.one (.one (.int .i64)))
def fi_40 : Option RT := some (.one (.one (.int .i64)))
def fi_41 : Option RT := some (.one (.one (.slice)))
def fi_42 : Option RT := some (.tup [(.one (.int .i64)), (.one (.bool))])
def fi_43 : Option RT := some (.tup [(.one (.slice)), (.one (.int .i64))])
def fi_44 : Option RT := some (.tup [(.one (.str)), (.one (.int .i64))])
def fi_45 : Option RT := some (.one (.one (.str)))
def fi_46 : Option RT := some (.tup [])
def fi_47 : Option RT := some (.one (.one (.func)))
def fi_48 : Option RT := some (.one (.one (.int .i64)))
def fi_49 : Option RT := some (.one (.one (.int .i64)))
def fi_50 : Option RT := some (.tup [])
def fi_51 : Option RT := some (.tup [])
def fi_52 : Option RT := some (.one (.one (.slice)))
def fi_53 : Option RT := some (.one (.one (.func)))
def fi_54 : Option RT := some (.one (.one (.slice)))
def fi_55 : Option RT := some (.tup [(.one (.int .i64)), (.one (.bool))])
def fi_56 : Option RT := some (.one (.one (.bool)))
def fi_57 : Option RT := some (.one (.one (.func)))
def fi_58 : Option RT := some (.one (.one (.slice)))
def fi_59 : Option RT := some (.one (.one (.func)))
def fi_60 : Option RT := some (.one (.one (.int .i64)))
def fi_61 : Option RT := some (.one (.one (.int .i64)))
def fi_62 : Option RT := some (.tup [])
def fi_63 : Option RT := some (.one (.one (.int .i64)))
def fi_64 : Option RT := some (.tup [])
def fi_65 : Option RT := some (.one (.one (.func)))
def fi_66 : Option RT := some (.one (.one (.slice)))
def fi_67 : Option RT := some (.tup [])
def fi_68 : Option RT := some (.tup [])
def fi_69 : Option RT := some (.tup [])
def fi_70 : Option RT := some (.one (.one (.int .i64)))
def fi_71 : Option RT := some (.one (.one (.int .i64)))
def fi_72 : Option RT := some (.tup [])
def fi_73 : Option RT := some (.one (.one (.slice)))
def fi_74 : Option RT := some (.tup [])
def fi_75 : Option RT := some (.tup [])
def fi_76 : Option RT := some (.tup [])
def fi_77 : Option RT := some (.tup [])
def fi_78 : Option RT := some (.tup [(.one (.int .i64)), (.one (.int .i64))])
def fi_79 : Option RT := some (.tup [])
def fi_80 : Option RT := some (.one (.one (.bool)))
def fi_81 : Option RT := some (.one (.one (.bool)))
def fi_82 : Option RT := some (.one (.one (.int .i64)))
def fi_83 : Option RT := some (.tup [(.one (.int .i64)), (.one (.bool))])
def fi_84 : Option RT := some (.one (.one (.int .i64)))
def fi_85 : Option RT := some (.one (.one (.int .i64)))
def fi_86 : Option RT := some (.tup [])
def fi_87 : Option RT := some (.one (.one (.slice)))
def fi_88 : Option RT := some (.tup [])
def fi_89 : Option RT := some (.tup [])
def fi_90 : Option RT := some (.one (.one (.int .i64)))
def fi_91 : Option RT := some (.one (.one (.slice)))
def fi_92 : Option RT := some (.tup [])
def fi_93 : Option RT := some (.one (.one (.int .u64)))
def fi_94 : Option RT := some (.one (.one (.int .u64)))
def fi_95 : Option RT := some (.one (.one (.int .i64)))
def fi_96 : Option RT := some (.one (.one (.int .i64)))
def fi_97 : Option RT := some (.one (.one (.bool)))
def fi_98 : Option RT := some (.tup [])
def fi_99 : Option RT := some (.tup [])
def fi_100 : Option RT := some (.tup [])
def fi_101 : Option RT := some (.tup [(.one (.int .i64)), (.one (.int .i64))])
def fi_102 : Option RT := some (.tup [])
def fi_103 : Option RT := some (.one (.one (.bool)))
def fi_104 : Option RT := some (.one (.one (.bool)))
def fi_105 : Option RT := some (.one (.one (.int .i64)))
def fi_106 : Option RT := some (.tup [(.one (.int .i64)), (.one (.bool))])
def fi_107 : Option RT := some (.tup [])
def fi_108 : Option RT := some (.tup [])
def fi_109 : Option RT := some (.tup [(.one (.int .i64)), (.one (.int .i64))])
def fi_110 : Option RT := some (.tup [])
def fi_111 : Option RT := some (.one (.one (.int .i64)))
def fi_112 : Option RT := some (.one (.one (.int .i64)))
def fi_113 : Option RT := some (.one (.one (.bool)))
def fi_114 : Option RT := some (.tup [])
def fi_115 : Option RT := some (.tup [(.one (.int .i64)), (.one (.int .i64))])
def fi_116 : Option RT := some (.tup [])
def fi_117 : Option RT := none
def fi_118 : Option RT := none
def fi_119 : Option RT := none
def fi_120 : Option RT := none
def fi_121 : Option RT := none
def fi_122 : Option RT := none
def fi_123 : Option RT := none
def fi_124 : Option RT := none
def fi_125 : Option RT := none
def fi_126 : Option RT := none
def fi_127 : Option RT := none
def fi_128 : Option RT := none
def fi_129 : Option RT := none
def fi_130 : Option RT := none
def fi_131 : Option RT := none
def fi_132 : Option RT := none
def fi_133 : Option RT := none
def fi_134 : Option RT := none
def Dt : Tb := ⟨194, 135, (.node ti_0 (.node ti_1 (.node ti_3 (.node ti_7 (.node ti_15 (.node ti_31 (.node ti_63 (.node ti_127 .nil .nil) (.node ti_191 .nil .nil)) (.node ti_95 (.node ti_159 .nil .nil) .nil)) (.node ti_47 (.node ti_79 (.node ti_143 .nil .nil) .nil) (.node ti_111 (.node ti_175 .nil .nil) .nil))) (.node ti_23 (.node ti_39 (.node ti_71 (.node ti_135 .nil .nil) .nil) (.node ti_103 (.node ti_167 .nil .nil) .nil)) (.node ti_55 (.node ti_87 (.node ti_151 .nil .nil) .nil) (.node ti_119 (.node ti_183 .nil .nil) .nil)))) (.node ti_11 (.node ti_19 (.node ti_35 (.node ti_67 (.node ti_131 .nil .nil) .nil) (.node ti_99 (.node ti_163 .nil .nil) .nil)) (.node ti_51 (.node ti_83 (.node ti_147 .nil .nil) .nil) (.node ti_115 (.node ti_179 .nil .nil) .nil))) (.node ti_27 (.node ti_43 (.node ti_75 (.node ti_139 .nil .nil) .nil) (.node ti_107 (.node ti_171 .nil .nil) .nil)) (.node ti_59 (.node ti_91 (.node ti_155 .nil .nil) .nil) (.node ti_123 (.node ti_187 .nil .nil) .nil))))) (.node ti_5 (.node ti_9 (.node ti_17 (.node ti_33 (.node ti_65 (.node ti_129 .nil .nil) (.node ti_193 .nil .nil)) (.node ti_97 (.node ti_161 .nil .nil) .nil)) (.node ti_49 (.node ti_81 (.node ti_145 .nil .nil) .nil) (.node ti_113 (.node ti_177 .nil .nil) .nil))) (.node ti_25 (.node ti_41 (.node ti_73 (.node ti_137 .nil .nil) .nil) (.node ti_105 (.node ti_169 .nil .nil) .nil)) (.node ti_57 (.node ti_89 (.node ti_153 .nil .nil) .nil) (.node ti_121 (.node ti_185 .nil .nil) .nil)))) (.node ti_13 (.node ti_21 (.node ti_37 (.node ti_69 (.node ti_133 .nil .nil) .nil) (.node ti_101 (.node ti_165 .nil .nil) .nil)) (.node ti_53 (.node ti_85 (.node ti_149 .nil .nil) .nil) (.node ti_117 (.node ti_181 .nil .nil) .nil))) (.node ti_29 (.node ti_45 (.node ti_77 (.node ti_141 .nil .nil) .nil) (.node ti_109 (.node ti_173 .nil .nil) .nil)) (.node ti_61 (.node ti_93 (.node ti_157 .nil .nil) .nil) (.node ti_125 (.node ti_189 .nil .nil) .nil)))))) (.node ti_2 (.node ti_4 (.node ti_8 (.node ti_16 (.node ti_32 (.node ti_64 (.node ti_128 .nil .nil) (.node ti_192 .nil .nil)) (.node ti_96 (.node ti_160 .nil .nil) .nil)) (.node ti_48 (.node ti_80 (.node ti_144 .nil .nil) .nil) (.node ti_112 (.node ti_176 .nil .nil) .nil))) (.node ti_24 (.node ti_40 (.node ti_72 (.node ti_136 .nil .nil) .nil) (.node ti_104 (.node ti_168 .nil .nil) .nil)) (.node ti_56 (.node ti_88 (.node ti_152 .nil .nil) .nil) (.node ti_120 (.node ti_184 .nil .nil) .nil)))) (.node ti_12 (.node ti_20 (.node ti_36 (.node ti_68 (.node ti_132 .nil .nil) .nil) (.node ti_100 (.node ti_164 .nil .nil) .nil)) (.node ti_52 (.node ti_84 (.node ti_148 .nil .nil) .nil) (.node ti_116 (.node ti_180 .nil .nil) .nil))) (.node ti_28 (.node ti_44 (.node ti_76 (.node ti_140 .nil .nil) .nil) (.node ti_108 (.node ti_172 .nil .nil) .nil)) (.node ti_60 (.node ti_92 (.node ti_156 .nil .nil) .nil) (.node ti_124 (.node ti_188 .nil .nil) .nil))))) (.node ti_6 (.node ti_10 (.node ti_18 (.node ti_34 (.node ti_66 (.node ti_130 .nil .nil) .nil) (.node ti_98 (.node ti_162 .nil .nil) .nil)) (.node ti_50 (.node ti_82 (.node ti_146 .nil .nil) .nil) (.node ti_114 (.node ti_178 .nil .nil) .nil))) (.node ti_26 (.node ti_42 (.node ti_74 (.node ti_138 .nil .nil) .nil) (.node ti_106 (.node ti_170 .nil .nil) .nil)) (.node ti_58 (.node ti_90 (.node ti_154 .nil .nil) .nil) (.node ti_122 (.node ti_186 .nil .nil) .nil)))) (.node ti_14 (.node ti_22 (.node ti_38 (.node ti_70 (.node ti_134 .nil .nil) .nil) (.node ti_102 (.node ti_166 .nil .nil) .nil)) (.node ti_54 (.node ti_86 (.node ti_150 .nil .nil) .nil) (.node ti_118 (.node ti_182 .nil .nil) .nil))) (.node ti_30 (.node ti_46 (.node ti_78 (.node ti_142 .nil .nil) .nil) (.node ti_110 (.node ti_174 .nil .nil) .nil)) (.node ti_62 (.node ti_94 (.node ti_158 .nil .nil) .nil) (.node ti_126 (.node ti_190 .nil .nil) .nil))))))), (.node fi_0 (.node fi_1 (.node fi_3 (.node fi_7 (.node fi_15 (.node fi_31 (.node fi_63 (.node fi_127 .nil .nil) .nil) (.node fi_95 .nil .nil)) (.node fi_47 (.node fi_79 .nil .nil) (.node fi_111 .nil .nil))) (.node fi_23 (.node fi_39 (.node fi_71 .nil .nil) (.node fi_103 .nil .nil)) (.node fi_55 (.node fi_87 .nil .nil) (.node fi_119 .nil .nil)))) (.node fi_11 (.node fi_19 (.node fi_35 (.node fi_67 (.node fi_131 .nil .nil) .nil) (.node fi_99 .nil .nil)) (.node fi_51 (.node fi_83 .nil .nil) (.node fi_115 .nil .nil))) (.node fi_27 (.node fi_43 (.node fi_75 .nil .nil) (.node fi_107 .nil .nil)) (.node fi_59 (.node fi_91 .nil .nil) (.node fi_123 .nil .nil))))) (.node fi_5 (.node fi_9 (.node fi_17 (.node fi_33 (.node fi_65 (.node fi_129 .nil .nil) .nil) (.node fi_97 .nil .nil)) (.node fi_49 (.node fi_81 .nil .nil) (.node fi_113 .nil .nil))) (.node fi_25 (.node fi_41 (.node fi_73 .nil .nil) (.node fi_105 .nil .nil)) (.node fi_57 (.node fi_89 .nil .nil) (.node fi_121 .nil .nil)))) (.node fi_13 (.node fi_21 (.node fi_37 (.node fi_69 (.node fi_133 .nil .nil) .nil) (.node fi_101 .nil .nil)) (.node fi_53 (.node fi_85 .nil .nil) (.node fi_117 .nil .nil))) (.node fi_29 (.node fi_45 (.node fi_77 .nil .nil) (.node fi_109 .nil .nil)) (.node fi_61 (.node fi_93 .nil .nil) (.node fi_125 .nil .nil)))))) (.node fi_2 (.node fi_4 (.node fi_8 (.node fi_16 (.node fi_32 (.node fi_64 (.node fi_128 .nil .nil) .nil) (.node fi_96 .nil .nil)) (.node fi_48 (.node fi_80 .nil .nil) (.node fi_112 .nil .nil))) (.node fi_24 (.node fi_40 (.node fi_72 .nil .nil) (.node fi_104 .nil .nil)) (.node fi_56 (.node fi_88 .nil .nil) (.node fi_120 .nil .nil)))) (.node fi_12 (.node fi_20 (.node fi_36 (.node fi_68 (.node fi_132 .nil .nil) .nil) (.node fi_100 .nil .nil)) (.node fi_52 (.node fi_84 .nil .nil) (.node fi_116 .nil .nil))) (.node fi_28 (.node fi_44 (.node fi_76 .nil .nil) (.node fi_108 .nil .nil)) (.node fi_60 (.node fi_92 .nil .nil) (.node fi_124 .nil .nil))))) (.node fi_6 (.node fi_10 (.node fi_18 (.node fi_34 (.node fi_66 (.node fi_130 .nil .nil) .nil) (.node fi_98 .nil .nil)) (.node fi_50 (.node fi_82 .nil .nil) (.node fi_114 .nil .nil))) (.node fi_26 (.node fi_42 (.node fi_74 .nil .nil) (.node fi_106 .nil .nil)) (.node fi_58 (.node fi_90 .nil .nil) (.node fi_122 .nil .nil)))) (.node fi_14 (.node fi_22 (.node fi_38 (.node fi_70 (.node fi_134 .nil .nil) .nil) (.node fi_102 .nil .nil)) (.node fi_54 (.node fi_86 .nil .nil) (.node fi_118 .nil .nil))) (.node fi_30 (.node fi_46 (.node fi_78 .nil .nil) (.node fi_110 .nil .nil)) (.node fi_62 (.node fi_94 .nil .nil) (.node fi_126 .nil .nil)))))))⟩
theorem Tok : TbOk Pr Dt := tbOk_of (by kernel_rfl) (by kernel_rfl) (by kernel_rfl)

def A_damperlaw14_GateLate : Ann := (.seq .auto (.seq .auto (.seq .auto (.seq .auto (.seq .auto (.seq .auto (.seq .auto (.seq .auto (.seq .auto (.seq .auto (.seq (.seq .auto (.one [(11, (.one (.int .i64))), (12, (.one (.int .i64))), (13, (.one (.int .i64)))] (.seq .auto (.seq (.seq (.seq .auto (.cond (.seq .auto (.seq .auto (.one [(15, (.one (.int .i64)))] .auto) none) none) .auto) none) (.seq (.seq .auto (.one [(17, (.one (.int .i64)))] (.seq .auto (.seq (.seq .auto (.cond .auto .auto) none) .auto (some [])) none)) none) (.seq (.seq .auto (.cond .auto .auto) none) .auto (some [(11, (.one (.int .i64))), (12, (.one (.int .i64)))])) none) (some [])) .auto (some [(11, (.one (.int .i64))), (12, (.one (.int .i64)))])) none)) none) .auto none) none) none) none) none) none) none) none) none) none) none)
/-- damper/damperlaw14.GateLate -/
def F_damperlaw14_GateLate (p0 : Int) (p1 : Sl) (p2 : Int) (K : Value → PT) : PT :=
  L.call Pr n_damperlaw14_known [] (.one (.one (.bool))) fun (x1 : Bool) =>
  L.ite (!x1) (
    K (.bool false)) <|
  L.call Pr n_fleet_New [.int .i64 4] (.one (.one (.ptr))) fun (x2 : Option Addr) =>
  L.ite ((x2).isNone) (
    K (.bool false)) <|
  L.call Pr n_damperlaw14_within [.int .i64 p0, .int .i64 50] (.one (.one (.int .i64))) fun (x3 : Int) =>
  L.call Pr n_gate_New [.pointer x2, .int .i64 8, .int .i64 (IntKind.wrap .i64 (1 + x3))] (.one (.one (.ptr))) fun (x4 : Option Addr) =>
  L.ite ((x4).isNone) (
    K (.bool false)) <|
  L.call Pr n_fleet_Fleet_Scale [.pointer x2, .string s_a_1, .int .i64 1, .int .i64 1] (.tup [(.one (.slice)), (.one (.slice))]) fun (x5 : Sl × Sl × Unit) =>
  L.sem Pr (.one (.one .slice)) (Instr.makeSlice T_s_int (.int .i64 9) (.int .i64 9)) fun (s6 : Sl) =>
  L.loop (Y := Int × Int × Int × Unit) (0, 0, 0, ()) fun y7 again8 =>
  L.ite (decide (y7.2.2.1 < 70)) (
    L.join (Y := Int × Int × Unit) (fun k9 =>
      L.join (Y := Unit) (fun k11 =>
        L.ite (decide (y7.2.2.1 > 0)) (
          L.call Pr n_gate_Gate_Tick [.pointer x4, .int .i64 y7.2.2.1] (.one (.one (.slice))) fun (x13 : Sl) =>
          L.loop (Y := Int × Unit) (0, ()) fun y14 again15 =>
          L.ite (decide (y14.1 < ((x13.len : Nat) : Int))) (
            L.idx x13.a y14.1 x13.len 4 fun a16 =>
            L.load (.one (.int .i64)) (a16.add 0) fun (x17 : Int) =>
            L.ite (decide (x17 < 1)) (
              K (.bool false)) <|
            L.ite (decide (x17 > y7.1)) (
              K (.bool false)) <|
            L.idx x13.a y14.1 x13.len 4 fun a18 =>
            L.load (.one (.int .i64)) (a18.add 1) fun (x19 : Int) =>
            L.ite (x19 != 4) (
              K (.bool false)) <|
            L.idx x13.a y14.1 x13.len 4 fun a20 =>
            L.load (.one (.str)) (a20.add 3) fun (x21 : ByteArray) =>
            L.ite (!(x21.toList == s_timeout.toList)) (
              K (.bool false)) <|
            L.idx s6.a x17 s6.len 1 fun a22 =>
            L.load (.one (.int .i64)) a22 fun (x23 : Int) =>
            L.ite ((IntKind.wrap .i64 (x23 + (IntKind.wrap .i64 (1 + x3)))) != y7.2.2.1) (
              K (.bool false)) <|
            L.ite (x17 == y7.2.1) (
              K (.bool false)) <|
            L.idx s6.a x17 s6.len 1 fun a24 =>
            L.store a24 [.int .i64 1000] <|
            again15 (IntKind.wrap .i64 (y14.1 + 1), ())) <|
          k11 (())) <|
        k11 (())) fun z12 =>
      L.loop (Y := Int × Unit) (1, ()) fun y25 again26 =>
      L.ite (decide (y25.1 ≤ y7.1)) (
        L.join (Y := Unit) (fun k27 =>
          L.ite (y25.1 != y7.2.1) (
            L.idx s6.a y25.1 s6.len 1 fun a29 =>
            L.load (.one (.int .i64)) a29 fun (x30 : Int) =>
            L.ite (decide (x30 < 1000)) (
              L.idx s6.a y25.1 s6.len 1 fun a31 =>
              L.load (.one (.int .i64)) a31 fun (x32 : Int) =>
              L.ite (decide ((IntKind.wrap .i64 (x32 + (IntKind.wrap .i64 (1 + x3)))) ≤ y7.2.2.1)) (
                K (.bool false)) <|
              k27 (())) <|
            k27 (())) <|
          k27 (())) fun z28 =>
        again26 (IntKind.wrap .i64 (y25.1 + 1), ())) <|
      L.join (Y := Int × Int × Unit) (fun k33 =>
        L.ite (decide (y7.1 < 8)) (
          L.ite (decide (y7.1 < ((p1.len : Nat) : Int))) (
            L.idx p1.a y7.1 p1.len 1 fun a35 =>
            L.load (.one (.int .i64)) a35 fun (x36 : Int) =>
            L.call Pr n_damperlaw14_within [.int .i64 x36, .int .i64 4] (.one (.one (.int .i64))) fun (x37 : Int) =>
            L.ite (decide (x37 > 0)) (
              L.call Pr n_gate_Gate_Arrive [.pointer x4, .int .i64 (IntKind.wrap .i64 (y7.1 + 1)), .string s_a_1, .int .i64 y7.2.2.1] (.one (.one (.slice))) fun (x38 : Sl) =>
              L.ite (((x38.len : Nat) : Int) != 1) (
                K (.bool false)) <|
              L.idx s6.a (IntKind.wrap .i64 (y7.1 + 1)) s6.len 1 fun a39 =>
              L.store a39 [.int .i64 y7.2.2.1] <|
              L.idx x38.a 0 x38.len 4 fun a40 =>
              L.load (.one (.int .i64)) (a40.add 1) fun (x41 : Int) =>
              L.ite (x41 == 1) (
                k33 (IntKind.wrap .i64 (y7.1 + 1), IntKind.wrap .i64 (y7.1 + 1), ())) <|
              L.idx x38.a 0 x38.len 4 fun a42 =>
              L.load (.one (.int .i64)) (a42.add 1) fun (x43 : Int) =>
              L.ite (x43 != 2) (
                K (.bool false)) <|
              k33 (IntKind.wrap .i64 (y7.1 + 1), y7.2.1, ())) <|
            k33 (y7.1, y7.2.1, ())) <|
          k33 (y7.1, y7.2.1, ())) <|
        k33 (y7.1, y7.2.1, ())) fun z34 =>
      L.call Pr n_damperlaw14_within [.int .i64 p2, .int .i64 60] (.one (.one (.int .i64))) fun (x44 : Int) =>
      L.ite (y7.2.2.1 == x44) (
        L.call Pr n_fleet_Fleet_Up [.pointer x2, .int .i64 1] (.one (.one (.int .i64))) fun (x45 : Int) =>
        L.call Pr n_gate_Gate_Flow [.pointer x4, .string s_a_1] (.one (.one (.slice))) fun (x46 : Sl) =>
        L.ite (decide (((x46.len : Nat) : Int) > 0)) (
          L.idx x46.a 0 x46.len 4 fun a47 =>
          L.load (.one (.int .i64)) (a47.add 0) fun (x48 : Int) =>
          k9 (z34.1, x48, ())) <|
        k9 (z34.1, z34.2.1, ())) <|
      k9 (z34.1, z34.2.1, ())) fun z10 =>
    again8 (z10.1, z10.2.1, IntKind.wrap .i64 (y7.2.2.1 + 1), ())) <|
  K (.bool true)
theorem D_damperlaw14_GateLate (p0 : Int) (p1 : Sl) (p2 : Int) (K : Value → PT) : denF Pr Dt Tryz.f3 A_damperlaw14_GateLate [.v (.int .i64 p0), .v (.slice p1.a p1.len p1.cap), .v (.int .i64 p2)] K = F_damperlaw14_GateLate p0 p1 p2 K := by kernel_rfl
theorem C_damperlaw14_GateLate (p0 : Int) (p1 : Sl) (p2 : Int) {K : Value → PT} {w : World} (h : F_damperlaw14_GateLate p0 p1 p2 K w) : Calls Pr n_damperlaw14_GateLate [.int .i64 p0, .slice p1.a p1.len p1.cap, .int .i64 p2].toArray w fun e w2 => ∃ v, e = .returned v ∧ K v w2 :=
  denF_ok Tok (f := 3) (fn := Tryz.f3) (an := A_damperlaw14_GateLate) (args := [.v (.int .i64 p0), .v (.slice p1.a p1.len p1.cap), .v (.int .i64 p2)]) (by kernel_rfl) (by kernel_rfl) ((congrFun (D_damperlaw14_GateLate p0 p1 p2 K) w).mpr h)
theorem E_damperlaw14_GateLate : Enters Pr n_damperlaw14_GateLate := enters_of_B (by kernel_rfl)

def A_damperlaw14_GateOnce : Ann := (.seq .auto (.seq .auto (.seq .auto (.seq .auto (.seq .auto (.seq .auto (.seq (.one [(9, (.one (.slice))), (10, (.one (.slice))), (11, (.one (.slice)))] .auto) (.seq .auto (.seq (.seq .auto (.one [(12, (.one (.int .i64))), (13, (.one (.int .i64)))] (.seq (.seq .auto (.cond .auto .auto) none) (.seq (.seq .auto (.seq .auto (.seq .auto (.seq .auto (.seq .auto (.seq (.seq .auto (.one [(20, (.one (.int .i64)))] (.seq .auto (.seq (.seq .auto (.seq .auto (.seq .auto (.seq .auto (.seq (.seq .auto (.seq .auto (.cond .auto (.seq .auto .auto (some [(171, (.one (.bool)))]))) none) none) (.seq .auto (.cond .auto .auto) none) (some [])) none) none) none) none) .auto (some [])) none)) none) (.seq .auto (.seq .auto (.seq (.seq .auto (.one [(26, (.one (.int .i64))), (27, (.one (.int .i64))), (28, (.one (.int .i64)))] (.seq .auto (.seq (.seq .auto .auto (some [(26, (.one (.int .i64)))])) .auto none) none)) none) .auto none) none) none) none) (some [(12, (.one (.int .i64))), (16, (.one (.slice))), (17, (.one (.bool)))])) none) none) none) none) .auto none) none)) none) .auto (some [])) none) none) none) none) none) none) none) none)
/-- damper/damperlaw14.GateOnce -/
def F_damperlaw14_GateOnce (p0 : Int) (p1 : Int) (p2 : Sl) (K : Value → PT) : PT :=
  L.call Pr n_damperlaw14_known [] (.one (.one (.bool))) fun (x1 : Bool) =>
  L.ite (!x1) (
    K (.bool false)) <|
  L.call Pr n_damperlaw14_within [.int .i64 p0, .int .i64 6] (.one (.one (.int .i64))) fun (x2 : Int) =>
  L.call Pr n_fleet_New [.int .i64 (IntKind.wrap .i64 (1 + x2))] (.one (.one (.ptr))) fun (x3 : Option Addr) =>
  L.ite ((x3).isNone) (
    K (.bool false)) <|
  L.call Pr n_damperlaw14_within [.int .i64 p1, .int .i64 5] (.one (.one (.int .i64))) fun (x4 : Int) =>
  L.call Pr n_gate_New [.pointer x3, .int .i64 x4, .int .i64 4] (.one (.one (.ptr))) fun (x5 : Option Addr) =>
  L.ite ((x5).isNone) (
    K (.bool false)) <|
  L.join (Y := Sl × Sl × Sl × Unit) (fun k6 =>
    L.draw <|
    L.alts [(
        L.sem Pr (.one (.one .slice)) (Instr.makeSlice T_s_int (.int .i64 50) (.int .i64 50)) fun (s8 : Sl) =>
        L.alts [(
            L.sem Pr (.one (.one .slice)) (Instr.makeSlice T_s_int (.int .i64 50) (.int .i64 50)) fun (s9 : Sl) =>
            L.alts [(
                L.sem Pr (.one (.one .slice)) (Instr.makeSlice T_s_bool (.int .i64 50) (.int .i64 50)) fun (s10 : Sl) =>
                k6 (⟨s8.a, s8.len, s8.cap⟩, ⟨s9.a, s9.len, s9.cap⟩, ⟨s10.a, s10.len, s10.cap⟩, ())),(
                L.alts [(
                    L.sem Pr (.one (.one .slice)) (Instr.makeSlice T_s_bool (.int .i64 50) (.int .i64 50)) fun (s11 : Sl) =>
                    k6 (⟨s8.a, s8.len, s8.cap⟩, ⟨s9.a, s9.len, s9.cap⟩, ⟨s11.a, s11.len, s11.cap⟩, ())),(
                    L.sem Pr (.one (.one .slice)) (Instr.makeSlice T_s_bool (.int .i64 50) (.int .i64 50)) fun (s12 : Sl) =>
                    k6 (⟨s8.a, s8.len, s8.cap⟩, ⟨s9.a, s9.len, s9.cap⟩, ⟨s12.a, s12.len, s12.cap⟩, ()))])]),(
            L.sem Pr (.one (.one .slice)) (Instr.makeSlice T_s_bool (.int .i64 50) (.int .i64 50)) fun (s13 : Sl) =>
            L.alts [(
                L.sem Pr (.one (.one .slice)) (Instr.makeSlice T_s_int (.int .i64 50) (.int .i64 50)) fun (s14 : Sl) =>
                k6 (⟨s8.a, s8.len, s8.cap⟩, ⟨s14.a, s14.len, s14.cap⟩, ⟨s13.a, s13.len, s13.cap⟩, ())),(
                L.sem Pr (.one (.one .slice)) (Instr.makeSlice T_s_int (.int .i64 50) (.int .i64 50)) fun (s15 : Sl) =>
                k6 (⟨s8.a, s8.len, s8.cap⟩, ⟨s15.a, s15.len, s15.cap⟩, ⟨s13.a, s13.len, s13.cap⟩, ()))]),(
            L.alts [(
                L.sem Pr (.one (.one .slice)) (Instr.makeSlice T_s_int (.int .i64 50) (.int .i64 50)) fun (s16 : Sl) =>
                L.alts [(
                    L.sem Pr (.one (.one .slice)) (Instr.makeSlice T_s_bool (.int .i64 50) (.int .i64 50)) fun (s17 : Sl) =>
                    k6 (⟨s8.a, s8.len, s8.cap⟩, ⟨s16.a, s16.len, s16.cap⟩, ⟨s17.a, s17.len, s17.cap⟩, ())),(
                    L.sem Pr (.one (.one .slice)) (Instr.makeSlice T_s_bool (.int .i64 50) (.int .i64 50)) fun (s18 : Sl) =>
                    k6 (⟨s8.a, s8.len, s8.cap⟩, ⟨s16.a, s16.len, s16.cap⟩, ⟨s18.a, s18.len, s18.cap⟩, ()))]),(
                L.sem Pr (.one (.one .slice)) (Instr.makeSlice T_s_bool (.int .i64 50) (.int .i64 50)) fun (s19 : Sl) =>
                L.sem Pr (.one (.one .slice)) (Instr.makeSlice T_s_int (.int .i64 50) (.int .i64 50)) fun (s20 : Sl) =>
                k6 (⟨s8.a, s8.len, s8.cap⟩, ⟨s20.a, s20.len, s20.cap⟩, ⟨s19.a, s19.len, s19.cap⟩, ()))])]),(
        L.sem Pr (.one (.one .slice)) (Instr.makeSlice T_s_int (.int .i64 50) (.int .i64 50)) fun (s21 : Sl) =>
        L.alts [(
            L.sem Pr (.one (.one .slice)) (Instr.makeSlice T_s_int (.int .i64 50) (.int .i64 50)) fun (s22 : Sl) =>
            L.alts [(
                L.sem Pr (.one (.one .slice)) (Instr.makeSlice T_s_bool (.int .i64 50) (.int .i64 50)) fun (s23 : Sl) =>
                k6 (⟨s22.a, s22.len, s22.cap⟩, ⟨s21.a, s21.len, s21.cap⟩, ⟨s23.a, s23.len, s23.cap⟩, ())),(
                L.alts [(
                    L.sem Pr (.one (.one .slice)) (Instr.makeSlice T_s_bool (.int .i64 50) (.int .i64 50)) fun (s24 : Sl) =>
                    k6 (⟨s22.a, s22.len, s22.cap⟩, ⟨s21.a, s21.len, s21.cap⟩, ⟨s24.a, s24.len, s24.cap⟩, ())),(
                    L.sem Pr (.one (.one .slice)) (Instr.makeSlice T_s_bool (.int .i64 50) (.int .i64 50)) fun (s25 : Sl) =>
                    k6 (⟨s22.a, s22.len, s22.cap⟩, ⟨s21.a, s21.len, s21.cap⟩, ⟨s25.a, s25.len, s25.cap⟩, ()))])]),(
            L.sem Pr (.one (.one .slice)) (Instr.makeSlice T_s_bool (.int .i64 50) (.int .i64 50)) fun (s26 : Sl) =>
            L.sem Pr (.one (.one .slice)) (Instr.makeSlice T_s_int (.int .i64 50) (.int .i64 50)) fun (s27 : Sl) =>
            k6 (⟨s27.a, s27.len, s27.cap⟩, ⟨s21.a, s21.len, s21.cap⟩, ⟨s26.a, s26.len, s26.cap⟩, ()))]),(
        L.sem Pr (.one (.one .slice)) (Instr.makeSlice T_s_bool (.int .i64 50) (.int .i64 50)) fun (s28 : Sl) =>
        L.alts [(
            L.sem Pr (.one (.one .slice)) (Instr.makeSlice T_s_int (.int .i64 50) (.int .i64 50)) fun (s29 : Sl) =>
            L.alts [(
                L.sem Pr (.one (.one .slice)) (Instr.makeSlice T_s_int (.int .i64 50) (.int .i64 50)) fun (s30 : Sl) =>
                k6 (⟨s29.a, s29.len, s29.cap⟩, ⟨s30.a, s30.len, s30.cap⟩, ⟨s28.a, s28.len, s28.cap⟩, ())),(
                L.sem Pr (.one (.one .slice)) (Instr.makeSlice T_s_int (.int .i64 50) (.int .i64 50)) fun (s31 : Sl) =>
                k6 (⟨s29.a, s29.len, s29.cap⟩, ⟨s31.a, s31.len, s31.cap⟩, ⟨s28.a, s28.len, s28.cap⟩, ()))]),(
            L.sem Pr (.one (.one .slice)) (Instr.makeSlice T_s_int (.int .i64 50) (.int .i64 50)) fun (s32 : Sl) =>
            L.sem Pr (.one (.one .slice)) (Instr.makeSlice T_s_int (.int .i64 50) (.int .i64 50)) fun (s33 : Sl) =>
            k6 (⟨s33.a, s33.len, s33.cap⟩, ⟨s32.a, s32.len, s32.cap⟩, ⟨s28.a, s28.len, s28.cap⟩, ()))])]) fun z7 =>
  L.join (Y := Unit) (fun k34 =>
    L.loop (Y := Int × Int × Unit) (0, 0, ()) fun y36 again37 =>
    L.ite (decide (y36.2.1 < ((p2.len : Nat) : Int))) (
      L.ite (decide (y36.2.1 < 100)) (
        L.idx p2.a y36.2.1 p2.len 1 fun a38 =>
        L.load (.one (.int .i64)) a38 fun (x39 : Int) =>
        L.guard (7 ≠ (0 : Int)) <|
        L.call Pr n_damperlaw14_within [.int .i64 (IntKind.wrap .i64 (Int.tdiv x39 7)), .int .i64 40] (.one (.one (.int .i64))) fun (x40 : Int) =>
        L.join (Y := Int × Sl × Bool × Unit) (fun k41 =>
          L.idx p2.a y36.2.1 p2.len 1 fun a43 =>
          L.load (.one (.int .i64)) a43 fun (x44 : Int) =>
          L.call Pr n_damperlaw14_within [.int .i64 x44, .int .i64 7] (.one (.one (.int .i64))) fun (x45 : Int) =>
          L.ite (x45 == 0) (
            L.call Pr n_gate_Gate_Tick [.pointer x5, .int .i64 (IntKind.wrap .i64 (y36.1 + 1))] (.one (.one (.slice))) fun (x46 : Sl) =>
            k41 (IntKind.wrap .i64 (y36.1 + 1), ⟨x46.a, x46.len, x46.cap⟩, false, ())) <|
          L.ite (x45 == 1) (
            L.call Pr n_damperlaw14_within [.int .i64 (IntKind.wrap .i64 (Int.tdiv x39 7)), .int .i64 5] (.one (.one (.int .i64))) fun (x47 : Int) =>
            L.call Pr n_fleet_Fleet_Scale [.pointer x3, .string s_a_1, .int .i64 2, .int .i64 x47] (.tup [(.one (.slice)), (.one (.slice))]) fun (x48 : Sl × Sl × Unit) =>
            k41 (y36.1, ⟨none, 0, 0⟩, false, ())) <|
          L.ite (x45 == 2) (
            L.call Pr n_damperlaw14_within [.int .i64 (IntKind.wrap .i64 (Int.tdiv x39 7)), .int .i64 9] (.one (.one (.int .i64))) fun (x49 : Int) =>
            L.call Pr n_fleet_Fleet_Up [.pointer x3, .int .i64 (IntKind.wrap .i64 (1 + x49))] (.one (.one (.int .i64))) fun (x50 : Int) =>
            L.call Pr n_gate_Gate_Flow [.pointer x5, .string s_a_1] (.one (.one (.slice))) fun (x51 : Sl) =>
            k41 (y36.1, ⟨x51.a, x51.len, x51.cap⟩, false, ())) <|
          L.ite (x45 == 3) (
            L.call Pr n_damperlaw14_within [.int .i64 (IntKind.wrap .i64 (Int.tdiv x39 7)), .int .i64 9] (.one (.one (.int .i64))) fun (x52 : Int) =>
            L.call Pr n_fleet_Fleet_Kill [.pointer x3, .int .i64 (IntKind.wrap .i64 (1 + x52))] (.tup [(.one (.slice)), (.one (.int .i64))]) fun (x53 : Sl × Int × Unit) =>
            L.call Pr n_gate_Gate_Lost [.pointer x5, .slice x53.1.a x53.1.len x53.1.cap] (.one (.one (.slice))) fun (x54 : Sl) =>
            k41 (y36.1, ⟨x54.a, x54.len, x54.cap⟩, false, ())) <|
          L.ite (x45 == 4) (
            L.call Pr n_gate_Gate_Done [.pointer x5, .int .i64 (IntKind.wrap .i64 (1 + x40))] (.tup [(.one (.slice)), (.one (.int .i64))]) fun (x55 : Sl × Int × Unit) =>
            k41 (y36.1, ⟨x55.1.a, x55.1.len, x55.1.cap⟩, false, ())) <|
          L.idx z7.2.2.1.a (IntKind.wrap .i64 (1 + x40)) z7.2.2.1.len 1 fun a56 =>
          L.load (.one (.bool)) a56 fun (x57 : Bool) =>
          L.call Pr n_gate_Gate_Arrive [.pointer x5, .int .i64 (IntKind.wrap .i64 (1 + x40)), .string s_a_1, .int .i64 y36.1] (.one (.one (.slice))) fun (x58 : Sl) =>
          L.idx z7.2.2.1.a (IntKind.wrap .i64 (1 + x40)) z7.2.2.1.len 1 fun a59 =>
          L.store a59 [.bool true] <|
          k41 (y36.1, ⟨x58.a, x58.len, x58.cap⟩, x57, ())) fun z42 =>
        L.loop (Y := Int × Unit) (0, ()) fun y60 again61 =>
        L.ite (decide (y60.1 < ((z42.2.1.len : Nat) : Int))) (
          L.join (Y := Unit) (fun k62 =>
            L.idx z42.2.1.a y60.1 z42.2.1.len 4 fun a64 =>
            L.load (.agg [.int .i64, .int .i64, .int .i64, .str]) a64 fun (x65 : Int × Int × Int × ByteArray × Unit) =>
            L.new [.int .i64 0, .int .i64 0, .int .i64 0, .string s_] T_gate_Fate fun b66 =>
            L.store (⟨b66, 0, none⟩) [.int .i64 x65.1, .int .i64 x65.2.1, .int .i64 x65.2.2.1, .string x65.2.2.2.1] <|
            L.load (.one (.int .i64)) ((⟨b66, 0, none⟩ : Addr).add 0) fun (x67 : Int) =>
            L.ite (decide (x67 < 1)) (
              K (.bool false)) <|
            L.load (.one (.int .i64)) ((⟨b66, 0, none⟩ : Addr).add 0) fun (x68 : Int) =>
            L.ite (decide (x68 > 40)) (
              K (.bool false)) <|
            L.load (.one (.str)) ((⟨b66, 0, none⟩ : Addr).add 3) fun (x69 : ByteArray) =>
            L.ite (x69.toList == s_twice.toList) (
              L.ite (!z42.2.2.1) (
                K (.bool false)) <|
              L.ite (((z42.2.1.len : Nat) : Int) != 1) (
                K (.bool false)) <|
              k62 (())) <|
            L.ite z42.2.2.1 (
              K (.bool false)) <|
            L.load (.one (.int .i64)) ((⟨b66, 0, none⟩ : Addr).add 0) fun (x70 : Int) =>
            L.idx z7.2.1.a x70 z7.2.1.len 1 fun a71 =>
            L.load (.one (.int .i64)) a71 fun (x72 : Int) =>
            L.ite (decide (x72 > 0)) (
              K (.bool false)) <|
            L.join (Y := Unit) (fun k73 =>
              L.load (.one (.int .i64)) ((⟨b66, 0, none⟩ : Addr).add 1) fun (x75 : Int) =>
              L.ite (x75 == 1) (
                L.load (.one (.int .i64)) ((⟨b66, 0, none⟩ : Addr).add 0) fun (x76 : Int) =>
                L.idx z7.1.a x76 z7.1.len 1 fun a77 =>
                L.load (.one (.int .i64)) a77 fun (x78 : Int) =>
                L.idx z7.1.a x76 z7.1.len 1 fun a79 =>
                L.store a79 [.int .i64 (IntKind.wrap .i64 (x78 + 1))] <|
                k73 (())) <|
              L.join (Y := Bool × Unit) (fun k80 =>
                L.ite (x75 == 3) (
                  k80 (x75 == 3, ())) <|
                k80 (x75 == 4, ())) fun z81 =>
              L.ite z81.1 (
                L.load (.one (.int .i64)) ((⟨b66, 0, none⟩ : Addr).add 0) fun (x82 : Int) =>
                L.idx z7.2.1.a x82 z7.2.1.len 1 fun a83 =>
                L.load (.one (.int .i64)) a83 fun (x84 : Int) =>
                L.idx z7.2.1.a x82 z7.2.1.len 1 fun a85 =>
                L.store a85 [.int .i64 (IntKind.wrap .i64 (x84 + 1))] <|
                k73 (())) <|
              k73 (())) fun z74 =>
            L.load (.one (.int .i64)) ((⟨b66, 0, none⟩ : Addr).add 0) fun (x86 : Int) =>
            L.idx z7.1.a x86 z7.1.len 1 fun a87 =>
            L.load (.one (.int .i64)) a87 fun (x88 : Int) =>
            L.ite (decide (x88 > 1)) (
              K (.bool false)) <|
            L.load (.one (.int .i64)) ((⟨b66, 0, none⟩ : Addr).add 1) fun (x89 : Int) =>
            L.ite (x89 == 3) (
              L.load (.one (.int .i64)) ((⟨b66, 0, none⟩ : Addr).add 0) fun (x90 : Int) =>
              L.idx z7.1.a x90 z7.1.len 1 fun a91 =>
              L.load (.one (.int .i64)) a91 fun (x92 : Int) =>
              L.ite (x92 != 1) (
                K (.bool false)) <|
              k62 (())) <|
            k62 (())) fun z63 =>
          again61 (IntKind.wrap .i64 (y60.1 + 1), ())) <|
        L.call Pr n_gate_Gate_Counts [.pointer x5] (.tup [(.one (.int .i64)), (.one (.int .i64)), (.one (.int .i64)), (.one (.int .i64))]) fun (x93 : Int × Int × Int × Int × Unit) =>
        L.loop (Y := Int × Int × Int × Unit) (0, 0, 1, ()) fun y94 again95 =>
        L.ite (decide (y94.2.2.1 ≤ 40)) (
          L.join (Y := Int × Unit) (fun k96 =>
            L.idx z7.2.2.1.a y94.2.2.1 z7.2.2.1.len 1 fun a98 =>
            L.load (.one (.bool)) a98 fun (x99 : Bool) =>
            L.ite x99 (
              k96 (IntKind.wrap .i64 (y94.1 + 1), ())) <|
            k96 (y94.1, ())) fun z97 =>
          L.idx z7.2.1.a y94.2.2.1 z7.2.1.len 1 fun a100 =>
          L.load (.one (.int .i64)) a100 fun (x101 : Int) =>
          again95 (z97.1, IntKind.wrap .i64 (y94.2.1 + x101), IntKind.wrap .i64 (y94.2.2.1 + 1), ())) <|
        L.ite (x93.1 != y94.1) (
          K (.bool false)) <|
        L.ite (x93.2.2.2.1 != y94.2.1) (
          K (.bool false)) <|
        L.ite (x93.1 != (IntKind.wrap .i64 ((IntKind.wrap .i64 (x93.2.1 + x93.2.2.1)) + x93.2.2.2.1))) (
          K (.bool false)) <|
        again37 (z42.1, IntKind.wrap .i64 (y36.2.1 + 1), ())) <|
      k34 (())) <|
    k34 (())) fun z35 =>
  K (.bool true)
theorem D_damperlaw14_GateOnce (p0 : Int) (p1 : Int) (p2 : Sl) (K : Value → PT) : denF Pr Dt Tryz.f4 A_damperlaw14_GateOnce [.v (.int .i64 p0), .v (.int .i64 p1), .v (.slice p2.a p2.len p2.cap)] K = F_damperlaw14_GateOnce p0 p1 p2 K := by kernel_rfl
theorem C_damperlaw14_GateOnce (p0 : Int) (p1 : Int) (p2 : Sl) {K : Value → PT} {w : World} (h : F_damperlaw14_GateOnce p0 p1 p2 K w) : Calls Pr n_damperlaw14_GateOnce [.int .i64 p0, .int .i64 p1, .slice p2.a p2.len p2.cap].toArray w fun e w2 => ∃ v, e = .returned v ∧ K v w2 :=
  denF_ok Tok (f := 4) (fn := Tryz.f4) (an := A_damperlaw14_GateOnce) (args := [.v (.int .i64 p0), .v (.int .i64 p1), .v (.slice p2.a p2.len p2.cap)]) (by kernel_rfl) (by kernel_rfl) ((congrFun (D_damperlaw14_GateOnce p0 p1 p2 K) w).mpr h)
theorem E_damperlaw14_GateOnce : Enters Pr n_damperlaw14_GateOnce := enters_of_B (by kernel_rfl)

def A_damperlaw14_known : Ann := .auto
/-- damper/damperlaw14.known -/
def F_damperlaw14_known  (K : Value → PT) : PT :=
  L.call Pr n_fleet_New [.int .i64 2] (.one (.one (.ptr))) fun (x1 : Option Addr) =>
  L.ite ((x1).isNone) (
    K (.bool false)) <|
  L.call Pr n_gate_New [.pointer x1, .int .i64 1, .int .i64 5] (.one (.one (.ptr))) fun (x2 : Option Addr) =>
  L.ite ((x2).isNone) (
    K (.bool false)) <|
  L.call Pr n_gate_Gate_Counts [.pointer x2] (.tup [(.one (.int .i64)), (.one (.int .i64)), (.one (.int .i64)), (.one (.int .i64))]) fun (x3 : Int × Int × Int × Int × Unit) =>
  L.call Pr n_gate_Gate_Arrive [.pointer x2, .int .i64 7, .string s_a_1, .int .i64 0] (.one (.one (.slice))) fun (x4 : Sl) =>
  L.ite (x3.1 == 0) (
    L.ite (x3.2.1 == 0) (
      L.ite (x3.2.2.1 == 0) (
        L.ite (x3.2.2.2.1 == 0) (
          L.ite (((x4.len : Nat) : Int) == 1) (
            L.idx x4.a 0 x4.len 4 fun a5 =>
            L.load (.one (.int .i64)) (a5.add 0) fun (x6 : Int) =>
            L.ite (x6 == 7) (
              L.idx x4.a 0 x4.len 4 fun a7 =>
              L.load (.one (.int .i64)) (a7.add 1) fun (x8 : Int) =>
              L.ite (x8 == 2) (
                L.call Pr n_gate_Gate_Seen [.pointer x2, .int .i64 7] (.one (.one (.bool))) fun (x9 : Bool) =>
                L.ite x9 (
                  L.call Pr n_gate_Gate_Seen [.pointer x2, .int .i64 8] (.one (.one (.bool))) fun (x10 : Bool) =>
                  K (.bool (!x10))) <|
                K (.bool false)) <|
              K (.bool false)) <|
            K (.bool false)) <|
          K (.bool false)) <|
        K (.bool false)) <|
      K (.bool false)) <|
    K (.bool false)) <|
  K (.bool false)
theorem D_damperlaw14_known  (K : Value → PT) : denF Pr Dt Tryz.f6 A_damperlaw14_known [] K = F_damperlaw14_known  K := by kernel_rfl
theorem C_damperlaw14_known  {K : Value → PT} {w : World} (h : F_damperlaw14_known  K w) : Calls Pr n_damperlaw14_known [].toArray w fun e w2 => ∃ v, e = .returned v ∧ K v w2 :=
  denF_ok Tok (f := 6) (fn := Tryz.f6) (an := A_damperlaw14_known) (args := []) (by kernel_rfl) (by kernel_rfl) ((congrFun (D_damperlaw14_known  K) w).mpr h)
theorem E_damperlaw14_known : Enters Pr n_damperlaw14_known := enters_of_B (by kernel_rfl)

def A_fleet_New : Ann := .auto
/-- damper/fleet.New -/
def F_fleet_New (p0 : Int) (K : Value → PT) : PT :=
  L.sem Pr (.one (.one .map)) (Instr.makeMap T_map_int_fleet_one none) fun (m1 : Option Nat) =>
  L.sem Pr (.one (.one .map)) (Instr.makeMap T_map_int_int none) fun (m2 : Option Nat) =>
  L.new [.map m1, .map m2, .int .i64 p0, .int .i64 0] T_fleet_Fleet fun b3 =>
  K (.pointer (some (⟨b3, 0, none⟩)))
theorem D_fleet_New (p0 : Int) (K : Value → PT) : denF Pr Dt Tryz.f7 A_fleet_New [.v (.int .i64 p0)] K = F_fleet_New p0 K := by kernel_rfl
theorem C_fleet_New (p0 : Int) {K : Value → PT} {w : World} (h : F_fleet_New p0 K w) : Calls Pr n_fleet_New [.int .i64 p0].toArray w fun e w2 => ∃ v, e = .returned v ∧ K v w2 :=
  denF_ok Tok (f := 7) (fn := Tryz.f7) (an := A_fleet_New) (args := [.v (.int .i64 p0)]) (by kernel_rfl) (by kernel_rfl) ((congrFun (D_fleet_New p0 K) w).mpr h)
theorem E_fleet_New : Enters Pr n_fleet_New := enters_of_B (by kernel_rfl)

def A_damperlaw14_within : Ann := (.seq .auto (.seq .auto (.seq .auto .auto (some [(5, (.one (.int .i64)))])) none) none)
/-- damper/damperlaw14.within -/
def F_damperlaw14_within (p0 : Int) (p1 : Int) (K : Value → PT) : PT :=
  L.guard (p1 ≠ (0 : Int)) <|
  L.join (Y := Int × Unit) (fun k1 =>
    L.ite (decide ((Int.tmod p0 p1) < 0)) (
      k1 (IntKind.wrap .i64 ((Int.tmod p0 p1) + p1), ())) <|
    k1 (Int.tmod p0 p1, ())) fun z2 =>
  K (.int .i64 z2.1)
theorem D_damperlaw14_within (p0 : Int) (p1 : Int) (K : Value → PT) : denF Pr Dt Tryz.f8 A_damperlaw14_within [.v (.int .i64 p0), .v (.int .i64 p1)] K = F_damperlaw14_within p0 p1 K := by kernel_rfl
theorem C_damperlaw14_within (p0 : Int) (p1 : Int) {K : Value → PT} {w : World} (h : F_damperlaw14_within p0 p1 K w) : Calls Pr n_damperlaw14_within [.int .i64 p0, .int .i64 p1].toArray w fun e w2 => ∃ v, e = .returned v ∧ K v w2 :=
  denF_ok Tok (f := 8) (fn := Tryz.f8) (an := A_damperlaw14_within) (args := [.v (.int .i64 p0), .v (.int .i64 p1)]) (by kernel_rfl) (by kernel_rfl) ((congrFun (D_damperlaw14_within p0 p1 K) w).mpr h)
theorem E_damperlaw14_within : Enters Pr n_damperlaw14_within := enters_of_B (by kernel_rfl)

def A_gate_New : Ann := .auto
/-- damper/gate.New -/
def F_gate_New (p0 : Option Addr) (p1 : Int) (p2 : Int) (K : Value → PT) : PT :=
  L.new [.int .i64 p1] T_int fun b1 =>
  L.sem Pr (.one (.one .map)) (Instr.makeMap T_map_int_gate_request none) fun (m2 : Option Nat) =>
  L.sem Pr (.one (.one .map)) (Instr.makeMap T_map_string_p_wait_Line none) fun (m3 : Option Nat) =>
  L.load (.one (.int .i64)) (⟨b1, 0, none⟩) fun (x4 : Int) =>
  L.new [.pointer p0, .map m2, .map m3, .func (.func n_gate_New_1) #[] #[.pointer (some (⟨b1, 0, none⟩))], .int .i64 x4, .int .i64 p2] T_gate_Gate fun b5 =>
  K (.pointer (some (⟨b5, 0, none⟩)))
theorem D_gate_New (p0 : Option Addr) (p1 : Int) (p2 : Int) (K : Value → PT) : denF Pr Dt Tryz.f9 A_gate_New [.v (.pointer p0), .v (.int .i64 p1), .v (.int .i64 p2)] K = F_gate_New p0 p1 p2 K := by kernel_rfl
theorem C_gate_New (p0 : Option Addr) (p1 : Int) (p2 : Int) {K : Value → PT} {w : World} (h : F_gate_New p0 p1 p2 K w) : Calls Pr n_gate_New [.pointer p0, .int .i64 p1, .int .i64 p2].toArray w fun e w2 => ∃ v, e = .returned v ∧ K v w2 :=
  denF_ok Tok (f := 9) (fn := Tryz.f9) (an := A_gate_New) (args := [.v (.pointer p0), .v (.int .i64 p1), .v (.int .i64 p2)]) (by kernel_rfl) (by kernel_rfl) ((congrFun (D_gate_New p0 p1 p2 K) w).mpr h)
theorem E_gate_New : Enters Pr n_gate_New := enters_of_B (by kernel_rfl)

def A_fleet_Fleet_Scale : Ann := (.seq .auto (.seq .auto (.seq (.one [(8, (.one (.slice))), (10, (.one (.int .i64)))] (.seq (.seq .auto (.cond .auto .auto) none) .auto none)) (.seq (.one [(9, (.one (.slice))), (10, (.one (.int .i64)))] .auto) .auto none) (some [(8, (.one (.slice))), (10, (.one (.int .i64)))])) none) none)
/-- (*damper/fleet.Fleet).Scale -/
def F_fleet_Fleet_Scale (p0 : Option Addr) (p1 : ByteArray) (p2 : Int) (p3 : Int) (K : Value → PT) : PT :=
  L.call Pr n_fleet_Fleet_up [.pointer p0, .string p1] (.one (.one (.int .i64))) fun (x1 : Int) =>
  L.join (Y := Sl × Int × Unit) (fun k2 =>
    L.loop (Y := Sl × Int × Unit) (⟨none, 0, 0⟩, x1, ()) fun y4 again5 =>
    L.draw <|
    L.ite (decide (y4.2.1 < p3)) (
      L.nonnil p0 fun a6 =>
      L.load (.one (.map)) (a6.add 0) fun (x7 : Option Nat) =>
      L.semR Pr (.one (.one (.int .i64))) (Builtin.len_ #[T_map_int_fleet_one] T_int #[.map x7]) fun (x8 : Int) =>
      L.nonnil p0 fun a9 =>
      L.load (.one (.int .i64)) (a9.add 2) fun (x10 : Int) =>
      L.ite (decide (x8 < x10)) (
        L.nonnil p0 fun a11 =>
        L.load (.one (.int .i64)) (a11.add 3) fun (x12 : Int) =>
        L.nonnil p0 fun a13 =>
        L.store (a13.add 3) [.int .i64 (IntKind.wrap .i64 (x12 + 1))] <|
        L.draw <|
        L.nonnil p0 fun a14 =>
        L.load (.one (.map)) (a14.add 0) fun (x15 : Option Nat) =>
        L.nonnil p0 fun a16 =>
        L.load (.one (.int .i64)) (a16.add 3) fun (x17 : Int) =>
        L.call Pr n_pod_New [.int .i64 p2] (.one (.one (.ptr))) fun (x18 : Option Addr) =>
        L.chk (a16.add 3) [.int .i64 x17] <|
        L.chk (a14.add 0) [.map x15] <|
        L.semU Pr (Instr.mapUpdate T_map_int_fleet_one (.map x15) (.int .i64 x17) (.agg #[.string p1, .pointer x18])) <|
        L.nonnil p0 fun a19 =>
        L.load (.one (.int .i64)) (a19.add 3) fun (x20 : Int) =>
        L.new [.int .i64 x20] T_int fun b21 =>
        L.sem Pr (.one (.one .slice)) (Builtin.append_ #[T_s_int, T_s_int] T_s_int #[.slice y4.1.a y4.1.len y4.1.cap, .slice (some ⟨b21, 0, none⟩) 1 1]) fun (s22 : Sl) =>
        again5 (⟨s22.a, s22.len, s22.cap⟩, IntKind.wrap .i64 (y4.2.1 + 1), ())) <|
      k2 (⟨y4.1.a, y4.1.len, y4.1.cap⟩, y4.2.1, ())) <|
    k2 (⟨y4.1.a, y4.1.len, y4.1.cap⟩, y4.2.1, ())) fun z3 =>
  L.loop (Y := Sl × Int × Unit) (⟨none, 0, 0⟩, z3.2.1, ()) fun y23 again24 =>
  L.ite (decide (y23.2.1 > (if 0 > p3 then 0 else p3))) (
    L.call Pr n_fleet_Fleet_spare [.pointer p0, .string p1] (.one (.one (.int .i64))) fun (x25 : Int) =>
    L.nonnil p0 fun a26 =>
    L.load (.one (.map)) (a26.add 0) fun (x27 : Option Nat) =>
    L.semR Pr (.one (.agg [.str, .ptr])) (Instr.lookup T_map_int_fleet_one (.map x27) (.int .i64 x25) false) fun (x28 : ByteArray × Option Addr × Unit) =>
    L.call Pr n_pod_Pod_Drain [.pointer x28.2.1] (.one (.one (.int .i64))) fun (x29 : Int) =>
    L.call Pr n_fleet_Fleet_end [.pointer p0, .int .i64 x25] (.tup []) fun (x30 : Unit) =>
    L.new [.int .i64 x25] T_int fun b31 =>
    L.sem Pr (.one (.one .slice)) (Builtin.append_ #[T_s_int, T_s_int] T_s_int #[.slice y23.1.a y23.1.len y23.1.cap, .slice (some ⟨b31, 0, none⟩) 1 1]) fun (s32 : Sl) =>
    again24 (⟨s32.a, s32.len, s32.cap⟩, IntKind.wrap .i64 (y23.2.1 - 1), ())) <|
  L.call Pr n_slices_Clone_int_int [.slice z3.1.a z3.1.len z3.1.cap] (.one (.one (.slice))) fun (x33 : Sl) =>
  L.call Pr n_slices_Clone_int_int [.slice y23.1.a y23.1.len y23.1.cap] (.one (.one (.slice))) fun (x34 : Sl) =>
  K (.tuple #[.slice x33.a x33.len x33.cap, .slice x34.a x34.len x34.cap])
theorem D_fleet_Fleet_Scale (p0 : Option Addr) (p1 : ByteArray) (p2 : Int) (p3 : Int) (K : Value → PT) : denF Pr Dt Tryz.f10 A_fleet_Fleet_Scale [.v (.pointer p0), .v (.string p1), .v (.int .i64 p2), .v (.int .i64 p3)] K = F_fleet_Fleet_Scale p0 p1 p2 p3 K := by kernel_rfl
theorem C_fleet_Fleet_Scale (p0 : Option Addr) (p1 : ByteArray) (p2 : Int) (p3 : Int) {K : Value → PT} {w : World} (h : F_fleet_Fleet_Scale p0 p1 p2 p3 K w) : Calls Pr n_fleet_Fleet_Scale [.pointer p0, .string p1, .int .i64 p2, .int .i64 p3].toArray w fun e w2 => ∃ v, e = .returned v ∧ K v w2 :=
  denF_ok Tok (f := 10) (fn := Tryz.f10) (an := A_fleet_Fleet_Scale) (args := [.v (.pointer p0), .v (.string p1), .v (.int .i64 p2), .v (.int .i64 p3)]) (by kernel_rfl) (by kernel_rfl) ((congrFun (D_fleet_Fleet_Scale p0 p1 p2 p3 K) w).mpr h)
theorem E_fleet_Fleet_Scale : Enters Pr n_fleet_Fleet_Scale := enters_of_B (by kernel_rfl)

def A_gate_Gate_Tick : Ann := (.seq .auto (.seq .auto (.seq (.seq .auto (.seq .auto (.seq .auto (.one [(20, (.one (.int .i64)))] .auto) none) (some [(14, (.one (.str))), (15, (.one (.ptr)))])) none) .auto none) none) none)
/-- (*damper/gate.Gate).Tick -/
def F_gate_Gate_Tick (p0 : Option Addr) (p1 : Int) (K : Value → PT) : PT :=
  L.new [.pointer p0] T_p_gate_Gate fun b1 =>
  L.new [.int .i64 p1] T_int fun b2 =>
  L.new [.slice none 0 0] T_s_gate_Fate fun b3 =>
  L.load (.one (.ptr)) (⟨b1, 0, none⟩) fun (x4 : Option Addr) =>
  L.nonnil x4 fun a5 =>
  L.call Pr n_gate_book_wait_Line_each [.pointer (some (a5.add 2))] (.one (.one (.func))) fun (x6 : FV) =>
  L.range Pr none (.func x6.fn x6.fs x6.cs) [(.one (.str)), (.one (.ptr))] (fun l7 (y8 : ByteArray × Option Addr × Unit) R9 =>
    L.begin Pr l7 <|
    L.load (.one (.int .i64)) (⟨b2, 0, none⟩) fun (x12 : Int) =>
    L.call Pr n_wait_Line_Late [.pointer y8.2.1, .int .i64 x12] (.one (.one (.slice))) fun (x13 : Sl) =>
    L.loop (Y := Int × Unit) (0, ()) fun y14 again15 =>
    L.ite (decide (y14.1 < ((x13.len : Nat) : Int))) (
      L.idx x13.a y14.1 x13.len 1 fun a16 =>
      L.load (.one (.int .i64)) a16 fun (x17 : Int) =>
      L.draw <|
      L.load (.one (.slice)) (⟨b3, 0, none⟩) fun (x18 : Sl) =>
      L.load (.one (.ptr)) (⟨b1, 0, none⟩) fun (x19 : Option Addr) =>
      L.call Pr n_gate_why [.string s_timeout] (.one (.agg [.int .i64, .int .i64, .int .i64, .str])) fun (x20 : Int × Int × Int × ByteArray × Unit) =>
      L.chk (⟨b1, 0, none⟩) [.pointer x19] <|
      L.chk (⟨b3, 0, none⟩) [.slice x18.a x18.len x18.cap] <|
      L.call Pr n_gate_Gate_set [.pointer x19, .int .i64 x17, .string y8.1, .agg #[.int .i64 x20.1, .int .i64 x20.2.1, .int .i64 x20.2.2.1, .string x20.2.2.2.1]] (.one (.agg [.int .i64, .int .i64, .int .i64, .str])) fun (x21 : Int × Int × Int × ByteArray × Unit) =>
      L.chk (⟨b3, 0, none⟩) [.slice x18.a x18.len x18.cap] <|
      L.new [.int .i64 x21.1, .int .i64 x21.2.1, .int .i64 x21.2.2.1, .string x21.2.2.2.1] T_gate_Fate fun b22 =>
      L.chk (⟨b3, 0, none⟩) [.slice x18.a x18.len x18.cap] <|
      L.sem Pr (.one (.one .slice)) (Builtin.append_ #[T_s_gate_Fate, T_s_gate_Fate] T_s_gate_Fate #[.slice x18.a x18.len x18.cap, .slice (some ⟨b22, 0, none⟩) 1 1]) fun (s23 : Sl) =>
      L.store (⟨b3, 0, none⟩) [.slice s23.a s23.len s23.cap] <|
      again15 (IntKind.wrap .i64 (y14.1 + 1), ())) <|
    L.endRound Pr l7 none R9) fun d10 j11 =>
  L.jump j11 (
    L.load (.one (.slice)) (⟨b3, 0, none⟩) fun (x24 : Sl) =>
    L.call Pr n_slices_Clone_gate_Fate_gate_Fate [.slice x24.a x24.len x24.cap] (.one (.one (.slice))) fun (x25 : Sl) =>
    L.unmark Pr (d10 ++ []) <|
    K (.slice x25.a x25.len x25.cap)) (
    L.unmark Pr (d10 ++ []) <|
    K (.slice none 0 0)) []
theorem D_gate_Gate_Tick (p0 : Option Addr) (p1 : Int) (K : Value → PT) : denF Pr Dt Tryz.f11 A_gate_Gate_Tick [.v (.pointer p0), .v (.int .i64 p1)] K = F_gate_Gate_Tick p0 p1 K := by kernel_rfl
theorem C_gate_Gate_Tick (p0 : Option Addr) (p1 : Int) {K : Value → PT} {w : World} (h : F_gate_Gate_Tick p0 p1 K w) : Calls Pr n_gate_Gate_Tick [.pointer p0, .int .i64 p1].toArray w fun e w2 => ∃ v, e = .returned v ∧ K v w2 :=
  denF_ok Tok (f := 11) (fn := Tryz.f11) (an := A_gate_Gate_Tick) (args := [.v (.pointer p0), .v (.int .i64 p1)]) (by kernel_rfl) (by kernel_rfl) ((congrFun (D_gate_Gate_Tick p0 p1 K) w).mpr h)
theorem E_gate_Gate_Tick : Enters Pr n_gate_Gate_Tick := enters_of_B (by kernel_rfl)

def A_gate_Gate_Arrive : Ann := (.seq .auto (.seq .auto (.seq .auto (.seq .auto (.seq .auto .auto (some [])) none) none) none) none)
/-- (*damper/gate.Gate).Arrive -/
def F_gate_Gate_Arrive (p0 : Option Addr) (p1 : Int) (p2 : ByteArray) (p3 : Int) (K : Value → PT) : PT :=
  L.call Pr n_gate_Gate_Seen [.pointer p0, .int .i64 p1] (.one (.one (.bool))) fun (x1 : Bool) =>
  L.ite x1 (
    L.call Pr n_gate_why [.string s_twice] (.one (.agg [.int .i64, .int .i64, .int .i64, .str])) fun (x2 : Int × Int × Int × ByteArray × Unit) =>
    L.new [.int .i64 0, .int .i64 0, .int .i64 0, .string s_] T_gate_Fate fun b3 =>
    L.store (⟨b3, 0, none⟩) [.int .i64 x2.1, .int .i64 x2.2.1, .int .i64 x2.2.2.1, .string x2.2.2.2.1] <|
    L.store ((⟨b3, 0, none⟩ : Addr).add 0) [.int .i64 p1] <|
    L.load (.agg [.int .i64, .int .i64, .int .i64, .str]) (⟨b3, 0, none⟩) fun (x4 : Int × Int × Int × ByteArray × Unit) =>
    L.new [.int .i64 x4.1, .int .i64 x4.2.1, .int .i64 x4.2.2.1, .string x4.2.2.2.1] T_gate_Fate fun b5 =>
    K (.slice (some ⟨b5, 0, none⟩) 1 1)) <|
  L.ite (p2.toList == s_.toList) (
    L.call Pr n_gate_why [.string s_no_route] (.one (.agg [.int .i64, .int .i64, .int .i64, .str])) fun (x6 : Int × Int × Int × ByteArray × Unit) =>
    L.call Pr n_gate_Gate_set [.pointer p0, .int .i64 p1, .string s_, .agg #[.int .i64 x6.1, .int .i64 x6.2.1, .int .i64 x6.2.2.1, .string x6.2.2.2.1]] (.one (.agg [.int .i64, .int .i64, .int .i64, .str])) fun (x7 : Int × Int × Int × ByteArray × Unit) =>
    L.new [.int .i64 x7.1, .int .i64 x7.2.1, .int .i64 x7.2.2.1, .string x7.2.2.2.1] T_gate_Fate fun b8 =>
    K (.slice (some ⟨b8, 0, none⟩) 1 1)) <|
  L.nonnil p0 fun a9 =>
  L.call Pr n_gate_book_wait_Line_at [.pointer (some (a9.add 2)), .string p2] (.one (.one (.ptr))) fun (x10 : Option Addr) =>
  L.join (Y := Unit) (fun k11 =>
    L.call Pr n_wait_Line_Len [.pointer x10] (.one (.one (.int .i64))) fun (x13 : Int) =>
    L.ite (x13 == 0) (
      L.call Pr n_gate_Gate_send [.pointer p0, .int .i64 p1, .string p2] (.tup [(.agg [.int .i64, .int .i64, .int .i64, .str]), (.one (.bool))]) fun (x14 : (Int × Int × Int × ByteArray × Unit) × Bool × Unit) =>
      L.new [.int .i64 0, .int .i64 0, .int .i64 0, .string s_] T_gate_Fate fun b15 =>
      L.store (⟨b15, 0, none⟩) [.int .i64 x14.1.1, .int .i64 x14.1.2.1, .int .i64 x14.1.2.2.1, .string x14.1.2.2.2.1] <|
      L.ite x14.2.1 (
        L.load (.agg [.int .i64, .int .i64, .int .i64, .str]) (⟨b15, 0, none⟩) fun (x16 : Int × Int × Int × ByteArray × Unit) =>
        L.new [.int .i64 x16.1, .int .i64 x16.2.1, .int .i64 x16.2.2.1, .string x16.2.2.2.1] T_gate_Fate fun b17 =>
        K (.slice (some ⟨b17, 0, none⟩) 1 1)) <|
      k11 (())) <|
    k11 (())) fun z12 =>
  L.nonnil p0 fun a18 =>
  L.load (.one (.int .i64)) (a18.add 5) fun (x19 : Int) =>
  L.call Pr n_wait_Line_Push [.pointer x10, .int .i64 p1, .int .i64 (IntKind.wrap .i64 (p3 + x19))] (.one (.one (.int .i64))) fun (x20 : Int) =>
  L.ite (x20 != 0) (
    L.call Pr n_gate_why [.string s_overflow] (.one (.agg [.int .i64, .int .i64, .int .i64, .str])) fun (x21 : Int × Int × Int × ByteArray × Unit) =>
    L.call Pr n_gate_Gate_set [.pointer p0, .int .i64 p1, .string p2, .agg #[.int .i64 x21.1, .int .i64 x21.2.1, .int .i64 x21.2.2.1, .string x21.2.2.2.1]] (.one (.agg [.int .i64, .int .i64, .int .i64, .str])) fun (x22 : Int × Int × Int × ByteArray × Unit) =>
    L.new [.int .i64 x22.1, .int .i64 x22.2.1, .int .i64 x22.2.2.1, .string x22.2.2.2.1] T_gate_Fate fun b23 =>
    K (.slice (some ⟨b23, 0, none⟩) 1 1)) <|
  L.call Pr n_gate_Gate_set [.pointer p0, .int .i64 p1, .string p2, .agg #[.int .i64 0, .int .i64 2, .int .i64 0, .string s_]] (.one (.agg [.int .i64, .int .i64, .int .i64, .str])) fun (x24 : Int × Int × Int × ByteArray × Unit) =>
  L.new [.int .i64 x24.1, .int .i64 x24.2.1, .int .i64 x24.2.2.1, .string x24.2.2.2.1] T_gate_Fate fun b25 =>
  K (.slice (some ⟨b25, 0, none⟩) 1 1)
theorem D_gate_Gate_Arrive (p0 : Option Addr) (p1 : Int) (p2 : ByteArray) (p3 : Int) (K : Value → PT) : denF Pr Dt Tryz.f12 A_gate_Gate_Arrive [.v (.pointer p0), .v (.int .i64 p1), .v (.string p2), .v (.int .i64 p3)] K = F_gate_Gate_Arrive p0 p1 p2 p3 K := by kernel_rfl
theorem C_gate_Gate_Arrive (p0 : Option Addr) (p1 : Int) (p2 : ByteArray) (p3 : Int) {K : Value → PT} {w : World} (h : F_gate_Gate_Arrive p0 p1 p2 p3 K w) : Calls Pr n_gate_Gate_Arrive [.pointer p0, .int .i64 p1, .string p2, .int .i64 p3].toArray w fun e w2 => ∃ v, e = .returned v ∧ K v w2 :=
  denF_ok Tok (f := 12) (fn := Tryz.f12) (an := A_gate_Gate_Arrive) (args := [.v (.pointer p0), .v (.int .i64 p1), .v (.string p2), .v (.int .i64 p3)]) (by kernel_rfl) (by kernel_rfl) ((congrFun (D_gate_Gate_Arrive p0 p1 p2 p3 K) w).mpr h)
theorem E_gate_Gate_Arrive : Enters Pr n_gate_Gate_Arrive := enters_of_B (by kernel_rfl)

def A_fleet_Fleet_Up : Ann := .auto
/-- (*damper/fleet.Fleet).Up -/
def F_fleet_Fleet_Up (p0 : Option Addr) (p1 : Int) (K : Value → PT) : PT :=
  L.nonnil p0 fun a1 =>
  L.load (.one (.map)) (a1.add 0) fun (x2 : Option Nat) =>
  L.semR Pr (.tup [(.agg [.str, .ptr]), .one .bool]) (Instr.lookup T_map_int_fleet_one (.map x2) (.int .i64 p1) true) fun (x3 : (ByteArray × Option Addr × Unit) × Bool × Unit) =>
  L.new [.string s_, .pointer none] T_fleet_one fun b4 =>
  L.store (⟨b4, 0, none⟩) [.string x3.1.1, .pointer x3.1.2.1] <|
  L.ite (!x3.2.1) (
    K (.int .i64 6)) <|
  L.load (.one (.ptr)) ((⟨b4, 0, none⟩ : Addr).add 1) fun (x5 : Option Addr) =>
  L.call Pr n_pod_Pod_Up [.pointer x5] (.one (.one (.int .i64))) fun (x6 : Int) =>
  K (.int .i64 x6)
theorem D_fleet_Fleet_Up (p0 : Option Addr) (p1 : Int) (K : Value → PT) : denF Pr Dt Tryz.f13 A_fleet_Fleet_Up [.v (.pointer p0), .v (.int .i64 p1)] K = F_fleet_Fleet_Up p0 p1 K := by kernel_rfl
theorem C_fleet_Fleet_Up (p0 : Option Addr) (p1 : Int) {K : Value → PT} {w : World} (h : F_fleet_Fleet_Up p0 p1 K w) : Calls Pr n_fleet_Fleet_Up [.pointer p0, .int .i64 p1].toArray w fun e w2 => ∃ v, e = .returned v ∧ K v w2 :=
  denF_ok Tok (f := 13) (fn := Tryz.f13) (an := A_fleet_Fleet_Up) (args := [.v (.pointer p0), .v (.int .i64 p1)]) (by kernel_rfl) (by kernel_rfl) ((congrFun (D_fleet_Fleet_Up p0 p1 K) w).mpr h)
theorem E_fleet_Fleet_Up : Enters Pr n_fleet_Fleet_Up := enters_of_B (by kernel_rfl)

def A_gate_Gate_Flow : Ann := (.seq .auto (.seq .auto (.seq .auto (.seq (.seq .auto (.one [(5, (.one (.slice))), (19, (.one (.int .i64)))] .auto) none) .auto (some [(5, (.one (.slice)))])) none) none) none)
/-- (*damper/gate.Gate).Flow -/
def F_gate_Gate_Flow (p0 : Option Addr) (p1 : ByteArray) (K : Value → PT) : PT :=
  L.nonnil p0 fun a1 =>
  L.call Pr n_gate_book_wait_Line_at [.pointer (some (a1.add 2)), .string p1] (.one (.one (.ptr))) fun (x2 : Option Addr) =>
  L.join (Y := Sl × Unit) (fun k3 =>
    L.call Pr n_wait_Line_All [.pointer x2] (.one (.one (.slice))) fun (x5 : Sl) =>
    L.loop (Y := Sl × Int × Unit) (⟨none, 0, 0⟩, 0, ()) fun y6 again7 =>
    L.ite (decide (y6.2.1 < ((x5.len : Nat) : Int))) (
      L.idx x5.a y6.2.1 x5.len 1 fun a8 =>
      L.load (.one (.int .i64)) a8 fun (x9 : Int) =>
      L.call Pr n_gate_Gate_send [.pointer p0, .int .i64 x9, .string p1] (.tup [(.agg [.int .i64, .int .i64, .int .i64, .str]), (.one (.bool))]) fun (x10 : (Int × Int × Int × ByteArray × Unit) × Bool × Unit) =>
      L.new [.int .i64 0, .int .i64 0, .int .i64 0, .string s_] T_gate_Fate fun b11 =>
      L.store (⟨b11, 0, none⟩) [.int .i64 x10.1.1, .int .i64 x10.1.2.1, .int .i64 x10.1.2.2.1, .string x10.1.2.2.2.1] <|
      L.ite (!x10.2.1) (
        k3 (⟨y6.1.a, y6.1.len, y6.1.cap⟩, ())) <|
      L.call Pr n_wait_Line_Pop [.pointer x2] (.tup [(.one (.int .i64)), (.one (.bool))]) fun (x12 : Int × Bool × Unit) =>
      L.load (.agg [.int .i64, .int .i64, .int .i64, .str]) (⟨b11, 0, none⟩) fun (x13 : Int × Int × Int × ByteArray × Unit) =>
      L.new [.int .i64 x13.1, .int .i64 x13.2.1, .int .i64 x13.2.2.1, .string x13.2.2.2.1] T_gate_Fate fun b14 =>
      L.sem Pr (.one (.one .slice)) (Builtin.append_ #[T_s_gate_Fate, T_s_gate_Fate] T_s_gate_Fate #[.slice y6.1.a y6.1.len y6.1.cap, .slice (some ⟨b14, 0, none⟩) 1 1]) fun (s15 : Sl) =>
      again7 (⟨s15.a, s15.len, s15.cap⟩, IntKind.wrap .i64 (y6.2.1 + 1), ())) <|
    k3 (⟨y6.1.a, y6.1.len, y6.1.cap⟩, ())) fun z4 =>
  L.call Pr n_slices_Clone_gate_Fate_gate_Fate [.slice z4.1.a z4.1.len z4.1.cap] (.one (.one (.slice))) fun (x16 : Sl) =>
  K (.slice x16.a x16.len x16.cap)
theorem D_gate_Gate_Flow (p0 : Option Addr) (p1 : ByteArray) (K : Value → PT) : denF Pr Dt Tryz.f14 A_gate_Gate_Flow [.v (.pointer p0), .v (.string p1)] K = F_gate_Gate_Flow p0 p1 K := by kernel_rfl
theorem C_gate_Gate_Flow (p0 : Option Addr) (p1 : ByteArray) {K : Value → PT} {w : World} (h : F_gate_Gate_Flow p0 p1 K w) : Calls Pr n_gate_Gate_Flow [.pointer p0, .string p1].toArray w fun e w2 => ∃ v, e = .returned v ∧ K v w2 :=
  denF_ok Tok (f := 14) (fn := Tryz.f14) (an := A_gate_Gate_Flow) (args := [.v (.pointer p0), .v (.string p1)]) (by kernel_rfl) (by kernel_rfl) ((congrFun (D_gate_Gate_Flow p0 p1 K) w).mpr h)
theorem E_gate_Gate_Flow : Enters Pr n_gate_Gate_Flow := enters_of_B (by kernel_rfl)

def A_fleet_Fleet_Kill : Ann := (.seq .auto (.seq .auto (.seq .auto (.seq .auto (.seq (.seq .auto (.one [(29, (.one (.int .i64)))] .auto) none) .auto none) none) none) none) none)
/-- (*damper/fleet.Fleet).Kill -/
def F_fleet_Fleet_Kill (p0 : Option Addr) (p1 : Int) (K : Value → PT) : PT :=
  L.nonnil p0 fun a1 =>
  L.load (.one (.map)) (a1.add 0) fun (x2 : Option Nat) =>
  L.semR Pr (.tup [(.agg [.str, .ptr]), .one .bool]) (Instr.lookup T_map_int_fleet_one (.map x2) (.int .i64 p1) true) fun (x3 : (ByteArray × Option Addr × Unit) × Bool × Unit) =>
  L.new [.string s_, .pointer none] T_fleet_one fun b4 =>
  L.store (⟨b4, 0, none⟩) [.string x3.1.1, .pointer x3.1.2.1] <|
  L.ite (!x3.2.1) (
    K (.tuple #[.slice none 0 0, .int .i64 6])) <|
  L.load (.one (.ptr)) ((⟨b4, 0, none⟩ : Addr).add 1) fun (x5 : Option Addr) =>
  L.call Pr n_pod_Pod_Kill [.pointer x5] (.tup [(.one (.slice)), (.one (.int .i64))]) fun (x6 : Sl × Int × Unit) =>
  L.loop (Y := Int × Unit) (0, ()) fun y7 again8 =>
  L.ite (decide (y7.1 < ((x6.1.len : Nat) : Int))) (
    L.idx x6.1.a y7.1 x6.1.len 1 fun a9 =>
    L.load (.one (.int .i64)) a9 fun (x10 : Int) =>
    L.nonnil p0 fun a11 =>
    L.load (.one (.map)) (a11.add 1) fun (x12 : Option Nat) =>
    L.sem Pr (.tup []) (Builtin.delete_ #[T_map_int_int, T_int] T_ #[.map x12, .int .i64 x10]) fun _ =>
    again8 (IntKind.wrap .i64 (y7.1 + 1), ())) <|
  L.call Pr n_fleet_Fleet_end [.pointer p0, .int .i64 p1] (.tup []) fun (x13 : Unit) =>
  K (.tuple #[.slice x6.1.a x6.1.len x6.1.cap, .int .i64 x6.2.1])
theorem D_fleet_Fleet_Kill (p0 : Option Addr) (p1 : Int) (K : Value → PT) : denF Pr Dt Tryz.f15 A_fleet_Fleet_Kill [.v (.pointer p0), .v (.int .i64 p1)] K = F_fleet_Fleet_Kill p0 p1 K := by kernel_rfl
theorem C_fleet_Fleet_Kill (p0 : Option Addr) (p1 : Int) {K : Value → PT} {w : World} (h : F_fleet_Fleet_Kill p0 p1 K w) : Calls Pr n_fleet_Fleet_Kill [.pointer p0, .int .i64 p1].toArray w fun e w2 => ∃ v, e = .returned v ∧ K v w2 :=
  denF_ok Tok (f := 15) (fn := Tryz.f15) (an := A_fleet_Fleet_Kill) (args := [.v (.pointer p0), .v (.int .i64 p1)]) (by kernel_rfl) (by kernel_rfl) ((congrFun (D_fleet_Fleet_Kill p0 p1 K) w).mpr h)
theorem E_fleet_Fleet_Kill : Enters Pr n_fleet_Fleet_Kill := enters_of_B (by kernel_rfl)

def A_gate_Gate_Lost : Ann := (.seq .auto (.seq .auto (.seq (.seq .auto (.one [(5, (.one (.slice))), (11, (.one (.int .i64)))] (.seq .auto (.seq .auto (.seq .auto .auto (some [(5, (.one (.slice)))])) none) none)) none) .auto none) none) none)
/-- (*damper/gate.Gate).Lost -/
def F_gate_Gate_Lost (p0 : Option Addr) (p1 : Sl) (K : Value → PT) : PT :=
  L.loop (Y := Sl × Int × Unit) (⟨none, 0, 0⟩, 0, ()) fun y1 again2 =>
  L.ite (decide (y1.2.1 < ((p1.len : Nat) : Int))) (
    L.join (Y := Sl × Unit) (fun k3 =>
      L.idx p1.a y1.2.1 p1.len 1 fun a5 =>
      L.load (.one (.int .i64)) a5 fun (x6 : Int) =>
      L.nonnil p0 fun a7 =>
      L.load (.one (.map)) (a7.add 1) fun (x8 : Option Nat) =>
      L.semR Pr (.one (.agg [.str, .int .i64])) (Instr.lookup T_map_int_gate_request (.map x8) (.int .i64 x6) false) fun (x9 : ByteArray × Int × Unit) =>
      L.new [.string s_, .int .i64 0] T_gate_request fun b10 =>
      L.store (⟨b10, 0, none⟩) [.string x9.1, .int .i64 x9.2.1] <|
      L.load (.agg [.str, .int .i64]) (⟨b10, 0, none⟩) fun (x11 : ByteArray × Int × Unit) =>
      L.load (.one (.str)) ((⟨b10, 0, none⟩ : Addr).add 0) fun (x12 : ByteArray) =>
      L.chkSem Pr (do eqGuard .eql T_gate_request (.tmp 0) (.tmp 0) (.agg #[.string x11.1, .int .i64 x11.2.1]) (.agg #[.string x12, .int .i64 1]); binOp .eql T_gate_request (.agg #[.string x11.1, .int .i64 x11.2.1]) (.agg #[.string x12, .int .i64 1])) (.bool ((x11.1 == x12) && ((x11.2.1 == 1) && true))) <|
      L.ite ((x11.1 == x12) && ((x11.2.1 == 1) && true)) (
        L.draw <|
        L.load (.one (.str)) ((⟨b10, 0, none⟩ : Addr).add 0) fun (x13 : ByteArray) =>
        L.call Pr n_gate_why [.string s_pod_lost] (.one (.agg [.int .i64, .int .i64, .int .i64, .str])) fun (x14 : Int × Int × Int × ByteArray × Unit) =>
        L.chk ((⟨b10, 0, none⟩ : Addr).add 0) [.string x13] <|
        L.call Pr n_gate_Gate_set [.pointer p0, .int .i64 x6, .string x13, .agg #[.int .i64 x14.1, .int .i64 x14.2.1, .int .i64 x14.2.2.1, .string x14.2.2.2.1]] (.one (.agg [.int .i64, .int .i64, .int .i64, .str])) fun (x15 : Int × Int × Int × ByteArray × Unit) =>
        L.new [.int .i64 x15.1, .int .i64 x15.2.1, .int .i64 x15.2.2.1, .string x15.2.2.2.1] T_gate_Fate fun b16 =>
        L.sem Pr (.one (.one .slice)) (Builtin.append_ #[T_s_gate_Fate, T_s_gate_Fate] T_s_gate_Fate #[.slice y1.1.a y1.1.len y1.1.cap, .slice (some ⟨b16, 0, none⟩) 1 1]) fun (s17 : Sl) =>
        k3 (⟨s17.a, s17.len, s17.cap⟩, ())) <|
      k3 (⟨y1.1.a, y1.1.len, y1.1.cap⟩, ())) fun z4 =>
    again2 (⟨z4.1.a, z4.1.len, z4.1.cap⟩, IntKind.wrap .i64 (y1.2.1 + 1), ())) <|
  L.call Pr n_slices_Clone_gate_Fate_gate_Fate [.slice y1.1.a y1.1.len y1.1.cap] (.one (.one (.slice))) fun (x18 : Sl) =>
  K (.slice x18.a x18.len x18.cap)
theorem D_gate_Gate_Lost (p0 : Option Addr) (p1 : Sl) (K : Value → PT) : denF Pr Dt Tryz.f16 A_gate_Gate_Lost [.v (.pointer p0), .v (.slice p1.a p1.len p1.cap)] K = F_gate_Gate_Lost p0 p1 K := by kernel_rfl
theorem C_gate_Gate_Lost (p0 : Option Addr) (p1 : Sl) {K : Value → PT} {w : World} (h : F_gate_Gate_Lost p0 p1 K w) : Calls Pr n_gate_Gate_Lost [.pointer p0, .slice p1.a p1.len p1.cap].toArray w fun e w2 => ∃ v, e = .returned v ∧ K v w2 :=
  denF_ok Tok (f := 16) (fn := Tryz.f16) (an := A_gate_Gate_Lost) (args := [.v (.pointer p0), .v (.slice p1.a p1.len p1.cap)]) (by kernel_rfl) (by kernel_rfl) ((congrFun (D_gate_Gate_Lost p0 p1 K) w).mpr h)
theorem E_gate_Gate_Lost : Enters Pr n_gate_Gate_Lost := enters_of_B (by kernel_rfl)

def A_gate_Gate_Done : Ann := (.seq .auto (.seq .auto (.seq .auto (.seq .auto (.seq (.one [(4, (.one (.slice))), (5, (.one (.int .i64)))] .auto) .auto none) none) none) none) none)
/-- (*damper/gate.Gate).Done -/
def F_gate_Gate_Done (p0 : Option Addr) (p1 : Int) (K : Value → PT) : PT :=
  L.nonnil p0 fun a1 =>
  L.load (.one (.ptr)) (a1.add 0) fun (x2 : Option Addr) =>
  L.call Pr n_fleet_Fleet_Give [.pointer x2, .int .i64 p1] (.tup [(.one (.str)), (.one (.int .i64))]) fun (x3 : ByteArray × Int × Unit) =>
  L.ite (x3.2.1 != 0) (
    K (.tuple #[.slice none 0 0, .int .i64 x3.2.1])) <|
  L.call Pr n_gate_Gate_set [.pointer p0, .int .i64 p1, .string x3.1, .agg #[.int .i64 0, .int .i64 3, .int .i64 0, .string s_]] (.one (.agg [.int .i64, .int .i64, .int .i64, .str])) fun (x4 : Int × Int × Int × ByteArray × Unit) =>
  L.new [.int .i64 0, .int .i64 0, .int .i64 0, .string s_] T_gate_Fate fun b5 =>
  L.store (⟨b5, 0, none⟩) [.int .i64 x4.1, .int .i64 x4.2.1, .int .i64 x4.2.2.1, .string x4.2.2.2.1] <|
  L.join (Y := Sl × Int × Unit) (fun k6 =>
    L.draw <|
    L.load (.agg [.int .i64, .int .i64, .int .i64, .str]) (⟨b5, 0, none⟩) fun (x8 : Int × Int × Int × ByteArray × Unit) =>
    L.alts [(
        L.new [.int .i64 x8.1, .int .i64 x8.2.1, .int .i64 x8.2.2.1, .string x8.2.2.2.1] T_gate_Fate fun b9 =>
        L.call Pr n_gate_Gate_Flow [.pointer p0, .string x3.1] (.one (.one (.slice))) fun (x10 : Sl) =>
        L.chk (⟨b5, 0, none⟩) [.int .i64 x8.1, .int .i64 x8.2.1, .int .i64 x8.2.2.1, .string x8.2.2.2.1] <|
        L.sem Pr (.one (.one .slice)) (Builtin.append_ #[T_s_gate_Fate, T_s_gate_Fate] T_s_gate_Fate #[.slice (some ⟨b9, 0, none⟩) 1 1, .slice x10.a x10.len x10.cap]) fun (s11 : Sl) =>
        k6 (⟨s11.a, s11.len, s11.cap⟩, 0, ())),(
        L.call Pr n_gate_Gate_Flow [.pointer p0, .string x3.1] (.one (.one (.slice))) fun (x12 : Sl) =>
        L.chk (⟨b5, 0, none⟩) [.int .i64 x8.1, .int .i64 x8.2.1, .int .i64 x8.2.2.1, .string x8.2.2.2.1] <|
        L.new [.int .i64 x8.1, .int .i64 x8.2.1, .int .i64 x8.2.2.1, .string x8.2.2.2.1] T_gate_Fate fun b13 =>
        L.sem Pr (.one (.one .slice)) (Builtin.append_ #[T_s_gate_Fate, T_s_gate_Fate] T_s_gate_Fate #[.slice (some ⟨b13, 0, none⟩) 1 1, .slice x12.a x12.len x12.cap]) fun (s14 : Sl) =>
        k6 (⟨s14.a, s14.len, s14.cap⟩, 0, ()))]) fun z7 =>
  K (.tuple #[.slice z7.1.a z7.1.len z7.1.cap, .int .i64 z7.2.1])
theorem D_gate_Gate_Done (p0 : Option Addr) (p1 : Int) (K : Value → PT) : denF Pr Dt Tryz.f17 A_gate_Gate_Done [.v (.pointer p0), .v (.int .i64 p1)] K = F_gate_Gate_Done p0 p1 K := by kernel_rfl
theorem C_gate_Gate_Done (p0 : Option Addr) (p1 : Int) {K : Value → PT} {w : World} (h : F_gate_Gate_Done p0 p1 K w) : Calls Pr n_gate_Gate_Done [.pointer p0, .int .i64 p1].toArray w fun e w2 => ∃ v, e = .returned v ∧ K v w2 :=
  denF_ok Tok (f := 17) (fn := Tryz.f17) (an := A_gate_Gate_Done) (args := [.v (.pointer p0), .v (.int .i64 p1)]) (by kernel_rfl) (by kernel_rfl) ((congrFun (D_gate_Gate_Done p0 p1 K) w).mpr h)
theorem E_gate_Gate_Done : Enters Pr n_gate_Gate_Done := enters_of_B (by kernel_rfl)

def A_gate_Gate_Counts : Ann := (.seq .auto (.seq .auto (.seq (.seq .auto (.one [] (.seq .auto (.seq (.cond .auto .auto) .auto none) none)) none) .auto none) none) none)
/-- (*damper/gate.Gate).Counts -/
def F_gate_Gate_Counts (p0 : Option Addr) (K : Value → PT) : PT :=
  L.sem Pr (.one (.one .map)) (Instr.makeMap T_map_int_int none) fun (m1 : Option Nat) =>
  L.nonnil p0 fun a2 =>
  L.load (.one (.map)) (a2.add 1) fun (x3 : Option Nat) =>
  L.sem Pr (.one (.one .ptr)) (Instr.range T_map_int_gate_request (.map x3)) fun (it4 : Option Addr) =>
  L.loop (Y := Unit) (()) fun y5 again6 =>
  L.next Pr [(.one (.int .i64)), (.agg [.str, .int .i64])] (Instr.next (.pointer it4) false T_) (
    L.draw <|
    L.nonnil p0 fun a8 =>
    L.load (.one (.map)) (a8.add 1) fun (x9 : Option Nat) =>
    L.semR Pr (.one (.one (.int .i64))) (Builtin.len_ #[T_map_int_gate_request] T_int #[.map x9]) fun (x10 : Int) =>
    L.semR Pr (.one (.one (.int .i64))) (Instr.lookup T_map_int_int (.map m1) (.int .i64 2) false) fun (x11 : Int) =>
    L.semR Pr (.one (.one (.int .i64))) (Instr.lookup T_map_int_int (.map m1) (.int .i64 1) false) fun (x12 : Int) =>
    L.semR Pr (.one (.one (.int .i64))) (Instr.lookup T_map_int_int (.map m1) (.int .i64 3) false) fun (x13 : Int) =>
    L.semR Pr (.one (.one (.int .i64))) (Instr.lookup T_map_int_int (.map m1) (.int .i64 4) false) fun (x14 : Int) =>
    L.chkSem Pr (Instr.lookup T_map_int_int (.map m1) (.int .i64 4) false) (.int .i64 x14) <|
    L.chkSem Pr (Instr.lookup T_map_int_int (.map m1) (.int .i64 3) false) (.int .i64 x13) <|
    L.chkSem Pr (Instr.lookup T_map_int_int (.map m1) (.int .i64 1) false) (.int .i64 x12) <|
    L.chkSem Pr (Instr.lookup T_map_int_int (.map m1) (.int .i64 2) false) (.int .i64 x11) <|
    L.chkSem Pr (Instr.lookup T_map_int_int (.map m1) (.int .i64 4) false) (.int .i64 x14) <|
    L.chkSem Pr (Instr.lookup T_map_int_int (.map m1) (.int .i64 3) false) (.int .i64 x13) <|
    L.chkSem Pr (Instr.lookup T_map_int_int (.map m1) (.int .i64 1) false) (.int .i64 x12) <|
    L.chkSem Pr (Instr.lookup T_map_int_int (.map m1) (.int .i64 4) false) (.int .i64 x14) <|
    L.chkSem Pr (Instr.lookup T_map_int_int (.map m1) (.int .i64 3) false) (.int .i64 x13) <|
    K (.tuple #[.int .i64 x10, .int .i64 x11, .int .i64 x12, .int .i64 (IntKind.wrap .i64 (x13 + x14))])) fun (x7 : Int × (ByteArray × Int × Unit) × Unit) =>
  L.sem Pr (.tup [(.one (.int .i64)), (.agg [.str, .int .i64])]) (Instr.entry (.pointer it4)) fun (x15 : Int × (ByteArray × Int × Unit) × Unit) =>
  L.new [.string s_, .int .i64 0] T_gate_request fun b16 =>
  L.store (⟨b16, 0, none⟩) [.string x15.2.1.1, .int .i64 x15.2.1.2.1] <|
  L.load (.one (.int .i64)) ((⟨b16, 0, none⟩ : Addr).add 1) fun (x17 : Int) =>
  L.semR Pr (.one (.one (.int .i64))) (Instr.lookup T_map_int_int (.map m1) (.int .i64 x17) false) fun (x18 : Int) =>
  L.semU Pr (Instr.mapUpdate T_map_int_int (.map m1) (.int .i64 x17) (.int .i64 (IntKind.wrap .i64 (x18 + 1)))) <|
  again6 (())
theorem D_gate_Gate_Counts (p0 : Option Addr) (K : Value → PT) : denF Pr Dt Tryz.f18 A_gate_Gate_Counts [.v (.pointer p0)] K = F_gate_Gate_Counts p0 K := by kernel_rfl
theorem C_gate_Gate_Counts (p0 : Option Addr) {K : Value → PT} {w : World} (h : F_gate_Gate_Counts p0 K w) : Calls Pr n_gate_Gate_Counts [.pointer p0].toArray w fun e w2 => ∃ v, e = .returned v ∧ K v w2 :=
  denF_ok Tok (f := 18) (fn := Tryz.f18) (an := A_gate_Gate_Counts) (args := [.v (.pointer p0)]) (by kernel_rfl) (by kernel_rfl) ((congrFun (D_gate_Gate_Counts p0 K) w).mpr h)
theorem E_gate_Gate_Counts : Enters Pr n_gate_Gate_Counts := enters_of_B (by kernel_rfl)

def A_damperlaw14_told : Ann := (.seq .auto (.seq .auto (.seq (.seq .auto (.one [(3, (.one (.str))), (4, (.one (.int .i64)))] .auto) none) .auto none) none) none)
/-- damper/damperlaw14.told -/
def F_damperlaw14_told (p0 : Sl) (K : Value → PT) : PT :=
  L.loop (Y := ByteArray × Int × Unit) (s_, 0, ()) fun y1 again2 =>
  L.ite (decide (y1.2.1 < ((p0.len : Nat) : Int))) (
    L.draw <|
    L.idx p0.a y1.2.1 p0.len 4 fun a3 =>
    L.load (.one (.int .i64)) (a3.add 0) fun (x4 : Int) =>
    L.idx p0.a y1.2.1 p0.len 4 fun a5 =>
    L.load (.one (.int .i64)) (a5.add 1) fun (x6 : Int) =>
    L.idx p0.a y1.2.1 p0.len 4 fun a7 =>
    L.load (.one (.int .i64)) (a7.add 2) fun (x8 : Int) =>
    L.idx p0.a y1.2.1 p0.len 4 fun a9 =>
    L.load (.one (.str)) (a9.add 3) fun (x10 : ByteArray) =>
    L.call Pr n_damperlaw14_digits [.int .i64 x4] (.one (.one (.str))) fun (x11 : ByteArray) =>
    L.chk (a9.add 3) [.string x10] <|
    L.chk (a7.add 2) [.int .i64 x8] <|
    L.chk (a5.add 1) [.int .i64 x6] <|
    L.guard (((y1.1.size + x11.size : Nat) : Int) ≤ maxI64) <|
    L.guard ((((y1.1 ++ x11).size + s__.size : Nat) : Int) ≤ maxI64) <|
    L.call Pr n_damperlaw14_digits [.int .i64 x6] (.one (.one (.str))) fun (x12 : ByteArray) =>
    L.chk (a9.add 3) [.string x10] <|
    L.chk (a7.add 2) [.int .i64 x8] <|
    L.guard (((((y1.1 ++ x11) ++ s__).size + x12.size : Nat) : Int) ≤ maxI64) <|
    L.guard ((((((y1.1 ++ x11) ++ s__) ++ x12).size + s__.size : Nat) : Int) ≤ maxI64) <|
    L.call Pr n_damperlaw14_digits [.int .i64 x8] (.one (.one (.str))) fun (x13 : ByteArray) =>
    L.chk (a9.add 3) [.string x10] <|
    L.guard (((((((y1.1 ++ x11) ++ s__) ++ x12) ++ s__).size + x13.size : Nat) : Int) ≤ maxI64) <|
    L.guard ((((((((y1.1 ++ x11) ++ s__) ++ x12) ++ s__) ++ x13).size + s__.size : Nat) : Int) ≤ maxI64) <|
    L.guard (((((((((y1.1 ++ x11) ++ s__) ++ x12) ++ s__) ++ x13) ++ s__).size + x10.size : Nat) : Int) ≤ maxI64) <|
    L.guard ((((((((((y1.1 ++ x11) ++ s__) ++ x12) ++ s__) ++ x13) ++ s__) ++ x10).size + s___b5c5.size : Nat) : Int) ≤ maxI64) <|
    again2 ((((((((y1.1 ++ x11) ++ s__) ++ x12) ++ s__) ++ x13) ++ s__) ++ x10) ++ s___b5c5, IntKind.wrap .i64 (y1.2.1 + 1), ())) <|
  K (.string y1.1)
theorem D_damperlaw14_told (p0 : Sl) (K : Value → PT) : denF Pr Dt Tryz.f19 A_damperlaw14_told [.v (.slice p0.a p0.len p0.cap)] K = F_damperlaw14_told p0 K := by kernel_rfl
theorem C_damperlaw14_told (p0 : Sl) {K : Value → PT} {w : World} (h : F_damperlaw14_told p0 K w) : Calls Pr n_damperlaw14_told [.slice p0.a p0.len p0.cap].toArray w fun e w2 => ∃ v, e = .returned v ∧ K v w2 :=
  denF_ok Tok (f := 19) (fn := Tryz.f19) (an := A_damperlaw14_told) (args := [.v (.slice p0.a p0.len p0.cap)]) (by kernel_rfl) (by kernel_rfl) ((congrFun (D_damperlaw14_told p0 K) w).mpr h)
theorem E_damperlaw14_told : Enters Pr n_damperlaw14_told := enters_of_B (by kernel_rfl)

def A_gate_Gate_Inside : Ann := (.seq .auto (.seq (.seq .auto (.one [(5, (.one (.slice)))] (.seq .auto (.seq (.cond .auto .auto) .auto none) none)) none) (.seq .auto (.seq .auto .auto (some [(4, (.one (.slice)))])) none) none) none)
/-- (*damper/gate.Gate).Inside -/
def F_gate_Gate_Inside (p0 : Option Addr) (p1 : ByteArray) (K : Value → PT) : PT :=
  L.nonnil p0 fun a1 =>
  L.load (.one (.map)) (a1.add 1) fun (x2 : Option Nat) =>
  L.sem Pr (.one (.one .ptr)) (Instr.range T_map_int_gate_request (.map x2)) fun (it3 : Option Addr) =>
  L.loop (Y := Sl × Unit) (⟨none, 0, 0⟩, ()) fun y4 again5 =>
  L.next Pr [(.one (.int .i64)), (.agg [.str, .int .i64])] (Instr.next (.pointer it3) false T_) (
    L.call Pr n_slices_Sort_int_int [.slice y4.1.a y4.1.len y4.1.cap] (.tup []) fun (x7 : Unit) =>
    L.join (Y := Sl × Unit) (fun k8 =>
      L.nonnil p0 fun a10 =>
      L.load (.one (.map)) ((a10.add 2).add 0) fun (x11 : Option Nat) =>
      L.semR Pr (.tup [(.one (.ptr)), .one .bool]) (Instr.lookup T_map_string_p_wait_Line (.map x11) (.string p1) true) fun (x12 : Option Addr × Bool × Unit) =>
      L.ite x12.2.1 (
        L.call Pr n_wait_Line_All [.pointer x12.1] (.one (.one (.slice))) fun (x13 : Sl) =>
        k8 (⟨x13.a, x13.len, x13.cap⟩, ())) <|
      k8 (⟨none, 0, 0⟩, ())) fun z9 =>
    L.call Pr n_slices_Clone_int_int [.slice y4.1.a y4.1.len y4.1.cap] (.one (.one (.slice))) fun (x14 : Sl) =>
    K (.tuple #[.slice z9.1.a z9.1.len z9.1.cap, .slice x14.a x14.len x14.cap])) fun (x6 : Int × (ByteArray × Int × Unit) × Unit) =>
  L.sem Pr (.tup [(.one (.int .i64)), (.agg [.str, .int .i64])]) (Instr.entry (.pointer it3)) fun (x15 : Int × (ByteArray × Int × Unit) × Unit) =>
  L.new [.string s_, .int .i64 0] T_gate_request fun b16 =>
  L.store (⟨b16, 0, none⟩) [.string x15.2.1.1, .int .i64 x15.2.1.2.1] <|
  L.load (.agg [.str, .int .i64]) (⟨b16, 0, none⟩) fun (x17 : ByteArray × Int × Unit) =>
  L.chkSem Pr (do eqGuard .eql T_gate_request (.tmp 0) (.tmp 0) (.agg #[.string x17.1, .int .i64 x17.2.1]) (.agg #[.string p1, .int .i64 1]); binOp .eql T_gate_request (.agg #[.string x17.1, .int .i64 x17.2.1]) (.agg #[.string p1, .int .i64 1])) (.bool ((x17.1 == p1) && ((x17.2.1 == 1) && true))) <|
  L.ite ((x17.1 == p1) && ((x17.2.1 == 1) && true)) (
    L.new [.int .i64 x15.1] T_int fun b18 =>
    L.sem Pr (.one (.one .slice)) (Builtin.append_ #[T_s_int, T_s_int] T_s_int #[.slice y4.1.a y4.1.len y4.1.cap, .slice (some ⟨b18, 0, none⟩) 1 1]) fun (s19 : Sl) =>
    again5 (⟨s19.a, s19.len, s19.cap⟩, ())) <|
  again5 (⟨y4.1.a, y4.1.len, y4.1.cap⟩, ())
theorem D_gate_Gate_Inside (p0 : Option Addr) (p1 : ByteArray) (K : Value → PT) : denF Pr Dt Tryz.f20 A_gate_Gate_Inside [.v (.pointer p0), .v (.string p1)] K = F_gate_Gate_Inside p0 p1 K := by kernel_rfl
theorem C_gate_Gate_Inside (p0 : Option Addr) (p1 : ByteArray) {K : Value → PT} {w : World} (h : F_gate_Gate_Inside p0 p1 K w) : Calls Pr n_gate_Gate_Inside [.pointer p0, .string p1].toArray w fun e w2 => ∃ v, e = .returned v ∧ K v w2 :=
  denF_ok Tok (f := 20) (fn := Tryz.f20) (an := A_gate_Gate_Inside) (args := [.v (.pointer p0), .v (.string p1)]) (by kernel_rfl) (by kernel_rfl) ((congrFun (D_gate_Gate_Inside p0 p1 K) w).mpr h)
theorem E_gate_Gate_Inside : Enters Pr n_gate_Gate_Inside := enters_of_B (by kernel_rfl)

def A_gate_Gate_Busy : Ann := .auto
/-- (*damper/gate.Gate).Busy -/
def F_gate_Gate_Busy (p0 : Option Addr) (p1 : ByteArray) (K : Value → PT) : PT :=
  L.call Pr n_gate_Gate_Inside [.pointer p0, .string p1] (.tup [(.one (.slice)), (.one (.slice))]) fun (x1 : Sl × Sl × Unit) =>
  K (.int .i64 (IntKind.wrap .i64 (((x1.1.len : Nat) : Int) + ((x1.2.1.len : Nat) : Int))))
theorem D_gate_Gate_Busy (p0 : Option Addr) (p1 : ByteArray) (K : Value → PT) : denF Pr Dt Tryz.f21 A_gate_Gate_Busy [.v (.pointer p0), .v (.string p1)] K = F_gate_Gate_Busy p0 p1 K := by kernel_rfl
theorem C_gate_Gate_Busy (p0 : Option Addr) (p1 : ByteArray) {K : Value → PT} {w : World} (h : F_gate_Gate_Busy p0 p1 K w) : Calls Pr n_gate_Gate_Busy [.pointer p0, .string p1].toArray w fun e w2 => ∃ v, e = .returned v ∧ K v w2 :=
  denF_ok Tok (f := 21) (fn := Tryz.f21) (an := A_gate_Gate_Busy) (args := [.v (.pointer p0), .v (.string p1)]) (by kernel_rfl) (by kernel_rfl) ((congrFun (D_gate_Gate_Busy p0 p1 K) w).mpr h)
theorem E_gate_Gate_Busy : Enters Pr n_gate_Gate_Busy := enters_of_B (by kernel_rfl)

def A_gate_Gate_Seen : Ann := .auto
/-- (*damper/gate.Gate).Seen -/
def F_gate_Gate_Seen (p0 : Option Addr) (p1 : Int) (K : Value → PT) : PT :=
  L.nonnil p0 fun a1 =>
  L.load (.one (.map)) (a1.add 1) fun (x2 : Option Nat) =>
  L.semR Pr (.tup [(.agg [.str, .int .i64]), .one .bool]) (Instr.lookup T_map_int_gate_request (.map x2) (.int .i64 p1) true) fun (x3 : (ByteArray × Int × Unit) × Bool × Unit) =>
  L.new [.string s_, .int .i64 0] T_gate_request fun b4 =>
  L.store (⟨b4, 0, none⟩) [.string x3.1.1, .int .i64 x3.1.2.1] <|
  K (.bool x3.2.1)
theorem D_gate_Gate_Seen (p0 : Option Addr) (p1 : Int) (K : Value → PT) : denF Pr Dt Tryz.f22 A_gate_Gate_Seen [.v (.pointer p0), .v (.int .i64 p1)] K = F_gate_Gate_Seen p0 p1 K := by kernel_rfl
theorem C_gate_Gate_Seen (p0 : Option Addr) (p1 : Int) {K : Value → PT} {w : World} (h : F_gate_Gate_Seen p0 p1 K w) : Calls Pr n_gate_Gate_Seen [.pointer p0, .int .i64 p1].toArray w fun e w2 => ∃ v, e = .returned v ∧ K v w2 :=
  denF_ok Tok (f := 22) (fn := Tryz.f22) (an := A_gate_Gate_Seen) (args := [.v (.pointer p0), .v (.int .i64 p1)]) (by kernel_rfl) (by kernel_rfl) ((congrFun (D_gate_Gate_Seen p0 p1 K) w).mpr h)
theorem E_gate_Gate_Seen : Enters Pr n_gate_Gate_Seen := enters_of_B (by kernel_rfl)

def A_gate_New_1 : Ann := .auto
/-- damper/gate.New$1 -/
def F_gate_New_1 (c0 : Addr) (K : Value → PT) : PT :=
  L.load (.one (.int .i64)) c0 fun (x1 : Int) =>
  L.call Pr n_wait_New [.int .i64 x1] (.one (.one (.ptr))) fun (x2 : Option Addr) =>
  K (.pointer x2)
theorem D_gate_New_1 (c0 : Addr) (K : Value → PT) : denF Pr Dt Tryz.f23 A_gate_New_1 [.v (.pointer (some c0))] K = F_gate_New_1 c0 K := by kernel_rfl
theorem C_gate_New_1 (c0 : Addr) {K : Value → PT} {w : World} (h : F_gate_New_1 c0 K w) : Calls Pr n_gate_New_1 [.pointer (some c0)].toArray w fun e w2 => ∃ v, e = .returned v ∧ K v w2 :=
  denF_ok Tok (f := 23) (fn := Tryz.f23) (an := A_gate_New_1) (args := [.v (.pointer (some c0))]) (by kernel_rfl) (by kernel_rfl) ((congrFun (D_gate_New_1 c0 K) w).mpr h)
theorem E_gate_New_1 : Enters Pr n_gate_New_1 := enters_of_B (by kernel_rfl)

def A_wait_New : Ann := .auto
/-- damper/wait.New -/
def F_wait_New (p0 : Int) (K : Value → PT) : PT :=
  L.new [.slice none 0 0, .int .i64 p0] T_wait_Line fun b1 =>
  K (.pointer (some (⟨b1, 0, none⟩)))
theorem D_wait_New (p0 : Int) (K : Value → PT) : denF Pr Dt Tryz.f24 A_wait_New [.v (.int .i64 p0)] K = F_wait_New p0 K := by kernel_rfl
theorem C_wait_New (p0 : Int) {K : Value → PT} {w : World} (h : F_wait_New p0 K w) : Calls Pr n_wait_New [.int .i64 p0].toArray w fun e w2 => ∃ v, e = .returned v ∧ K v w2 :=
  denF_ok Tok (f := 24) (fn := Tryz.f24) (an := A_wait_New) (args := [.v (.int .i64 p0)]) (by kernel_rfl) (by kernel_rfl) ((congrFun (D_wait_New p0 K) w).mpr h)
theorem E_wait_New : Enters Pr n_wait_New := enters_of_B (by kernel_rfl)

def A_fleet_Fleet_up : Ann := (.seq .auto (.seq .auto (.seq (.seq .auto (.seq .auto .auto (some [(11, (.one (.int .i64))), (12, (.one (.ptr)))])) none) .auto none) none) none)
/-- (*damper/fleet.Fleet).up -/
def F_fleet_Fleet_up (p0 : Option Addr) (p1 : ByteArray) (K : Value → PT) : PT :=
  L.new [.int .i64 0] T_int fun b1 =>
  L.store (⟨b1, 0, none⟩) [.int .i64 0] <|
  L.call Pr n_fleet_Fleet_of [.pointer p0, .string p1] (.one (.one (.func))) fun (x2 : FV) =>
  L.range Pr none (.func x2.fn x2.fs x2.cs) [(.one (.int .i64)), (.one (.ptr))] (fun l3 (y4 : Int × Option Addr × Unit) R5 =>
    L.begin Pr l3 <|
    L.call Pr n_pod_Pod_State [.pointer y4.2.1] (.one (.one (.int .i64))) fun (x8 : Int) =>
    L.ite (x8 != 3) (
      L.load (.one (.int .i64)) (⟨b1, 0, none⟩) fun (x9 : Int) =>
      L.store (⟨b1, 0, none⟩) [.int .i64 (IntKind.wrap .i64 (x9 + 1))] <|
      L.endRound Pr l3 none R5) <|
    L.endRound Pr l3 none R5) fun d6 j7 =>
  L.jump j7 (
    L.load (.one (.int .i64)) (⟨b1, 0, none⟩) fun (x10 : Int) =>
    L.unmark Pr (d6 ++ []) <|
    K (.int .i64 x10)) (
    L.unmark Pr (d6 ++ []) <|
    K (.int .i64 0)) []
theorem D_fleet_Fleet_up (p0 : Option Addr) (p1 : ByteArray) (K : Value → PT) : denF Pr Dt Tryz.f25 A_fleet_Fleet_up [.v (.pointer p0), .v (.string p1)] K = F_fleet_Fleet_up p0 p1 K := by kernel_rfl
theorem C_fleet_Fleet_up (p0 : Option Addr) (p1 : ByteArray) {K : Value → PT} {w : World} (h : F_fleet_Fleet_up p0 p1 K w) : Calls Pr n_fleet_Fleet_up [.pointer p0, .string p1].toArray w fun e w2 => ∃ v, e = .returned v ∧ K v w2 :=
  denF_ok Tok (f := 25) (fn := Tryz.f25) (an := A_fleet_Fleet_up) (args := [.v (.pointer p0), .v (.string p1)]) (by kernel_rfl) (by kernel_rfl) ((congrFun (D_fleet_Fleet_up p0 p1 K) w).mpr h)
theorem E_fleet_Fleet_up : Enters Pr n_fleet_Fleet_up := enters_of_B (by kernel_rfl)

def A_pod_New : Ann := .auto
/-- damper/pod.New -/
def F_pod_New (p0 : Int) (K : Value → PT) : PT :=
  L.sem Pr (.one (.one .map)) (Instr.makeMap T_map_int_bool none) fun (m1 : Option Nat) =>
  L.new [.int .i64 1, .map m1, .int .i64 p0] T_pod_Pod fun b2 =>
  K (.pointer (some (⟨b2, 0, none⟩)))
theorem D_pod_New (p0 : Int) (K : Value → PT) : denF Pr Dt Tryz.f26 A_pod_New [.v (.int .i64 p0)] K = F_pod_New p0 K := by kernel_rfl
theorem C_pod_New (p0 : Int) {K : Value → PT} {w : World} (h : F_pod_New p0 K w) : Calls Pr n_pod_New [.int .i64 p0].toArray w fun e w2 => ∃ v, e = .returned v ∧ K v w2 :=
  denF_ok Tok (f := 26) (fn := Tryz.f26) (an := A_pod_New) (args := [.v (.int .i64 p0)]) (by kernel_rfl) (by kernel_rfl) ((congrFun (D_pod_New p0 K) w).mpr h)
theorem E_pod_New : Enters Pr n_pod_New := enters_of_B (by kernel_rfl)

def A_fleet_Fleet_spare : Ann := (.seq .auto (.seq .auto (.seq (.seq .auto (.seq .auto (.seq .auto (.seq .auto (.cond .auto .auto) none) none) (some [(13, (.one (.int .i64))), (14, (.one (.ptr)))])) none) .auto none) none) none)
/-- (*damper/fleet.Fleet).spare -/
def F_fleet_Fleet_spare (p0 : Option Addr) (p1 : ByteArray) (K : Value → PT) : PT :=
  L.new [.int .i64 0] T_int fun b1 =>
  L.new [.int .i64 0] T_int fun b2 =>
  L.new [.int .i64 0] T_int fun b3 =>
  L.store (⟨b1, 0, none⟩) [.int .i64 0] <|
  L.store (⟨b2, 0, none⟩) [.int .i64 3] <|
  L.store (⟨b3, 0, none⟩) [.int .i64 0] <|
  L.call Pr n_fleet_Fleet_of [.pointer p0, .string p1] (.one (.one (.func))) fun (x4 : FV) =>
  L.range Pr none (.func x4.fn x4.fs x4.cs) [(.one (.int .i64)), (.one (.ptr))] (fun l5 (y6 : Int × Option Addr × Unit) R7 =>
    L.begin Pr l5 <|
    L.call Pr n_pod_Pod_State [.pointer y6.2.1] (.one (.one (.int .i64))) fun (x10 : Int) =>
    L.ite (x10 == 3) (
      L.endRound Pr l5 none R7) <|
    L.draw <|
    L.load (.one (.int .i64)) (⟨b2, 0, none⟩) fun (x11 : Int) =>
    L.call Pr n_pod_Pod_State [.pointer y6.2.1] (.one (.one (.int .i64))) fun (x12 : Int) =>
    L.chk (⟨b2, 0, none⟩) [.int .i64 x11] <|
    L.ite (decide (x12 < x11)) (
      L.call Pr n_pod_Pod_State [.pointer y6.2.1] (.one (.one (.int .i64))) fun (x13 : Int) =>
      L.call Pr n_pod_Pod_Load [.pointer y6.2.1] (.one (.one (.int .i64))) fun (x14 : Int) =>
      L.store (⟨b1, 0, none⟩) [.int .i64 y6.1] <|
      L.store (⟨b2, 0, none⟩) [.int .i64 x13] <|
      L.store (⟨b3, 0, none⟩) [.int .i64 x14] <|
      L.endRound Pr l5 none R7) <|
    L.load (.one (.int .i64)) (⟨b2, 0, none⟩) fun (x15 : Int) =>
    L.call Pr n_pod_Pod_State [.pointer y6.2.1] (.one (.one (.int .i64))) fun (x16 : Int) =>
    L.chk (⟨b2, 0, none⟩) [.int .i64 x15] <|
    L.ite (x16 == x15) (
      L.load (.one (.int .i64)) (⟨b3, 0, none⟩) fun (x17 : Int) =>
      L.call Pr n_pod_Pod_Load [.pointer y6.2.1] (.one (.one (.int .i64))) fun (x18 : Int) =>
      L.chk (⟨b3, 0, none⟩) [.int .i64 x17] <|
      L.ite (decide (x18 ≤ x17)) (
        L.call Pr n_pod_Pod_State [.pointer y6.2.1] (.one (.one (.int .i64))) fun (x19 : Int) =>
        L.call Pr n_pod_Pod_Load [.pointer y6.2.1] (.one (.one (.int .i64))) fun (x20 : Int) =>
        L.store (⟨b1, 0, none⟩) [.int .i64 y6.1] <|
        L.store (⟨b2, 0, none⟩) [.int .i64 x19] <|
        L.store (⟨b3, 0, none⟩) [.int .i64 x20] <|
        L.endRound Pr l5 none R7) <|
      L.endRound Pr l5 none R7) <|
    L.endRound Pr l5 none R7) fun d8 j9 =>
  L.jump j9 (
    L.load (.one (.int .i64)) (⟨b1, 0, none⟩) fun (x21 : Int) =>
    L.unmark Pr (d8 ++ []) <|
    K (.int .i64 x21)) (
    L.unmark Pr (d8 ++ []) <|
    K (.int .i64 0)) []
theorem D_fleet_Fleet_spare (p0 : Option Addr) (p1 : ByteArray) (K : Value → PT) : denF Pr Dt Tryz.f27 A_fleet_Fleet_spare [.v (.pointer p0), .v (.string p1)] K = F_fleet_Fleet_spare p0 p1 K := by kernel_rfl
theorem C_fleet_Fleet_spare (p0 : Option Addr) (p1 : ByteArray) {K : Value → PT} {w : World} (h : F_fleet_Fleet_spare p0 p1 K w) : Calls Pr n_fleet_Fleet_spare [.pointer p0, .string p1].toArray w fun e w2 => ∃ v, e = .returned v ∧ K v w2 :=
  denF_ok Tok (f := 27) (fn := Tryz.f27) (an := A_fleet_Fleet_spare) (args := [.v (.pointer p0), .v (.string p1)]) (by kernel_rfl) (by kernel_rfl) ((congrFun (D_fleet_Fleet_spare p0 p1 K) w).mpr h)
theorem E_fleet_Fleet_spare : Enters Pr n_fleet_Fleet_spare := enters_of_B (by kernel_rfl)

def A_pod_Pod_Drain : Ann := (.seq .auto (.seq (.seq .auto (.cond .auto .auto) none) .auto (some [])) none)
/-- (*damper/pod.Pod).Drain -/
def F_pod_Pod_Drain (p0 : Option Addr) (K : Value → PT) : PT :=
  L.join (Y := Unit) (fun k1 =>
    L.nonnil p0 fun a3 =>
    L.load (.one (.int .i64)) (a3.add 0) fun (x4 : Int) =>
    L.ite (x4 != 1) (
      L.nonnil p0 fun a5 =>
      L.load (.one (.int .i64)) (a5.add 0) fun (x6 : Int) =>
      L.ite (x6 != 2) (
        K (.int .i64 9)) <|
      k1 (())) <|
    k1 (())) fun z2 =>
  L.nonnil p0 fun a7 =>
  L.store (a7.add 0) [.int .i64 3] <|
  L.call Pr n_pod_Pod_end [.pointer p0] (.tup []) fun (x8 : Unit) =>
  K (.int .i64 0)
theorem D_pod_Pod_Drain (p0 : Option Addr) (K : Value → PT) : denF Pr Dt Tryz.f28 A_pod_Pod_Drain [.v (.pointer p0)] K = F_pod_Pod_Drain p0 K := by kernel_rfl
theorem C_pod_Pod_Drain (p0 : Option Addr) {K : Value → PT} {w : World} (h : F_pod_Pod_Drain p0 K w) : Calls Pr n_pod_Pod_Drain [.pointer p0].toArray w fun e w2 => ∃ v, e = .returned v ∧ K v w2 :=
  denF_ok Tok (f := 28) (fn := Tryz.f28) (an := A_pod_Pod_Drain) (args := [.v (.pointer p0)]) (by kernel_rfl) (by kernel_rfl) ((congrFun (D_pod_Pod_Drain p0 K) w).mpr h)
theorem E_pod_Pod_Drain : Enters Pr n_pod_Pod_Drain := enters_of_B (by kernel_rfl)

def A_fleet_Fleet_end : Ann := .auto
/-- (*damper/fleet.Fleet).end -/
def F_fleet_Fleet_end (p0 : Option Addr) (p1 : Int) (K : Value → PT) : PT :=
  L.nonnil p0 fun a1 =>
  L.load (.one (.map)) (a1.add 0) fun (x2 : Option Nat) =>
  L.semR Pr (.one (.agg [.str, .ptr])) (Instr.lookup T_map_int_fleet_one (.map x2) (.int .i64 p1) false) fun (x3 : ByteArray × Option Addr × Unit) =>
  L.call Pr n_pod_Pod_State [.pointer x3.2.1] (.one (.one (.int .i64))) fun (x4 : Int) =>
  L.ite (x4 == 4) (
    L.nonnil p0 fun a5 =>
    L.load (.one (.map)) (a5.add 0) fun (x6 : Option Nat) =>
    L.sem Pr (.tup []) (Builtin.delete_ #[T_map_int_fleet_one, T_int] T_ #[.map x6, .int .i64 p1]) fun _ =>
    K (.tuple #[])) <|
  K (.tuple #[])
theorem D_fleet_Fleet_end (p0 : Option Addr) (p1 : Int) (K : Value → PT) : denF Pr Dt Tryz.f29 A_fleet_Fleet_end [.v (.pointer p0), .v (.int .i64 p1)] K = F_fleet_Fleet_end p0 p1 K := by kernel_rfl
theorem C_fleet_Fleet_end (p0 : Option Addr) (p1 : Int) {K : Value → PT} {w : World} (h : F_fleet_Fleet_end p0 p1 K w) : Calls Pr n_fleet_Fleet_end [.pointer p0, .int .i64 p1].toArray w fun e w2 => ∃ v, e = .returned v ∧ K v w2 :=
  denF_ok Tok (f := 29) (fn := Tryz.f29) (an := A_fleet_Fleet_end) (args := [.v (.pointer p0), .v (.int .i64 p1)]) (by kernel_rfl) (by kernel_rfl) ((congrFun (D_fleet_Fleet_end p0 p1 K) w).mpr h)
theorem E_fleet_Fleet_end : Enters Pr n_fleet_Fleet_end := enters_of_B (by kernel_rfl)

def A_slices_Clone_int_int : Ann := .auto
/-- slices.Clone[[]int,int] -/
def F_slices_Clone_int_int (p0 : Sl) (K : Value → PT) : PT :=
  L.ite ((p0.a).isNone) (
    K (.slice none 0 0)) <|
  L.new [] T_int fun b1 =>
  L.sem Pr (.one (.one .slice)) (Builtin.append_ #[T_s_int, T_s_int] T_s_int #[.slice (some ⟨b1, 0, none⟩) 0 0, .slice p0.a p0.len p0.cap]) fun (s2 : Sl) =>
  K (.slice s2.a s2.len s2.cap)
theorem D_slices_Clone_int_int (p0 : Sl) (K : Value → PT) : denF Pr Dt Tryz.f30 A_slices_Clone_int_int [.v (.slice p0.a p0.len p0.cap)] K = F_slices_Clone_int_int p0 K := by kernel_rfl
theorem C_slices_Clone_int_int (p0 : Sl) {K : Value → PT} {w : World} (h : F_slices_Clone_int_int p0 K w) : Calls Pr n_slices_Clone_int_int [.slice p0.a p0.len p0.cap].toArray w fun e w2 => ∃ v, e = .returned v ∧ K v w2 :=
  denF_ok Tok (f := 30) (fn := Tryz.f30) (an := A_slices_Clone_int_int) (args := [.v (.slice p0.a p0.len p0.cap)]) (by kernel_rfl) (by kernel_rfl) ((congrFun (D_slices_Clone_int_int p0 K) w).mpr h)
theorem E_slices_Clone_int_int : Enters Pr n_slices_Clone_int_int := enters_of_B (by kernel_rfl)

def A_gate_book_wait_Line_each : Ann := .auto
/-- (*damper/gate.book[*damper/wait.Line]).each -/
def F_gate_book_wait_Line_each (p0 : Option Addr) (K : Value → PT) : PT :=
  L.new [.pointer p0] T_p_gate_book_p_wait_Line fun b1 =>
  K (.func (.func n_gate_book_wait_Line_each_1) #[] #[.pointer (some (⟨b1, 0, none⟩))])
theorem D_gate_book_wait_Line_each (p0 : Option Addr) (K : Value → PT) : denF Pr Dt Tryz.f31 A_gate_book_wait_Line_each [.v (.pointer p0)] K = F_gate_book_wait_Line_each p0 K := by kernel_rfl
theorem C_gate_book_wait_Line_each (p0 : Option Addr) {K : Value → PT} {w : World} (h : F_gate_book_wait_Line_each p0 K w) : Calls Pr n_gate_book_wait_Line_each [.pointer p0].toArray w fun e w2 => ∃ v, e = .returned v ∧ K v w2 :=
  denF_ok Tok (f := 31) (fn := Tryz.f31) (an := A_gate_book_wait_Line_each) (args := [.v (.pointer p0)]) (by kernel_rfl) (by kernel_rfl) ((congrFun (D_gate_book_wait_Line_each p0 K) w).mpr h)
theorem E_gate_book_wait_Line_each : Enters Pr n_gate_book_wait_Line_each := enters_of_B (by kernel_rfl)

def A_wait_Line_Late : Ann := .auto
/-- (*damper/wait.Line).Late -/
def F_wait_Line_Late (p0 : Option Addr) (p1 : Int) (K : Value → PT) : PT :=
  L.nonnil p0 fun a1 =>
  L.call Pr n_wait_row_int_part [.pointer (some (a1.add 0)), .int .i64 p1] (.one (.one (.slice))) fun (x2 : Sl) =>
  K (.slice x2.a x2.len x2.cap)
theorem D_wait_Line_Late (p0 : Option Addr) (p1 : Int) (K : Value → PT) : denF Pr Dt Tryz.f32 A_wait_Line_Late [.v (.pointer p0), .v (.int .i64 p1)] K = F_wait_Line_Late p0 p1 K := by kernel_rfl
theorem C_wait_Line_Late (p0 : Option Addr) (p1 : Int) {K : Value → PT} {w : World} (h : F_wait_Line_Late p0 p1 K w) : Calls Pr n_wait_Line_Late [.pointer p0, .int .i64 p1].toArray w fun e w2 => ∃ v, e = .returned v ∧ K v w2 :=
  denF_ok Tok (f := 32) (fn := Tryz.f32) (an := A_wait_Line_Late) (args := [.v (.pointer p0), .v (.int .i64 p1)]) (by kernel_rfl) (by kernel_rfl) ((congrFun (D_wait_Line_Late p0 p1 K) w).mpr h)
theorem E_wait_Line_Late : Enters Pr n_wait_Line_Late := enters_of_B (by kernel_rfl)

def A_gate_Gate_set : Ann := .auto
/-- (*damper/gate.Gate).set -/
def F_gate_Gate_set (p0 : Option Addr) (p1 : Int) (p2 : ByteArray) (p3 : HT [.int .i64, .int .i64, .int .i64, .str]) (K : Value → PT) : PT :=
  L.new [.int .i64 p3.1, .int .i64 p3.2.1, .int .i64 p3.2.2.1, .string p3.2.2.2.1] T_gate_Fate fun b1 =>
  L.new [.int .i64 0, .int .i64 0, .int .i64 0, .string s_] T_gate_Fate fun b2 =>
  L.store ((⟨b1, 0, none⟩ : Addr).add 0) [.int .i64 p1] <|
  L.draw <|
  L.nonnil p0 fun a3 =>
  L.load (.one (.map)) (a3.add 1) fun (x4 : Option Nat) =>
  L.load (.one (.int .i64)) ((⟨b1, 0, none⟩ : Addr).add 1) fun (x5 : Int) =>
  L.semU Pr (Instr.mapUpdate T_map_int_gate_request (.map x4) (.int .i64 p1) (.agg #[.string p2, .int .i64 x5])) <|
  L.load (.agg [.int .i64, .int .i64, .int .i64, .str]) (⟨b1, 0, none⟩) fun (x6 : Int × Int × Int × ByteArray × Unit) =>
  L.store (⟨b2, 0, none⟩) [.int .i64 x6.1, .int .i64 x6.2.1, .int .i64 x6.2.2.1, .string x6.2.2.2.1] <|
  L.load (.agg [.int .i64, .int .i64, .int .i64, .str]) (⟨b2, 0, none⟩) fun (x7 : Int × Int × Int × ByteArray × Unit) =>
  K (.agg #[.int .i64 x7.1, .int .i64 x7.2.1, .int .i64 x7.2.2.1, .string x7.2.2.2.1])
theorem D_gate_Gate_set (p0 : Option Addr) (p1 : Int) (p2 : ByteArray) (p3 : HT [.int .i64, .int .i64, .int .i64, .str]) (K : Value → PT) : denF Pr Dt Tryz.f33 A_gate_Gate_set [.v (.pointer p0), .v (.int .i64 p1), .v (.string p2), .ag [.int .i64 p3.1, .int .i64 p3.2.1, .int .i64 p3.2.2.1, .string p3.2.2.2.1]] K = F_gate_Gate_set p0 p1 p2 p3 K := by kernel_rfl
theorem C_gate_Gate_set (p0 : Option Addr) (p1 : Int) (p2 : ByteArray) (p3 : HT [.int .i64, .int .i64, .int .i64, .str]) {K : Value → PT} {w : World} (h : F_gate_Gate_set p0 p1 p2 p3 K w) : Calls Pr n_gate_Gate_set [.pointer p0, .int .i64 p1, .string p2, (.ag [.int .i64 p3.1, .int .i64 p3.2.1, .int .i64 p3.2.2.1, .string p3.2.2.2.1] : SV).toV].toArray w fun e w2 => ∃ v, e = .returned v ∧ K v w2 :=
  denF_ok Tok (f := 33) (fn := Tryz.f33) (an := A_gate_Gate_set) (args := [.v (.pointer p0), .v (.int .i64 p1), .v (.string p2), .ag [.int .i64 p3.1, .int .i64 p3.2.1, .int .i64 p3.2.2.1, .string p3.2.2.2.1]]) (by kernel_rfl) (by kernel_rfl) ((congrFun (D_gate_Gate_set p0 p1 p2 p3 K) w).mpr h)
theorem E_gate_Gate_set : Enters Pr n_gate_Gate_set := enters_of_B (by kernel_rfl)

def A_gate_why : Ann := .auto
/-- damper/gate.why -/
def F_gate_why (p0 : ByteArray) (K : Value → PT) : PT :=
  L.new [.int .i64 0, .int .i64 0, .int .i64 0, .string s_] T_gate_Fate fun b1 =>
  L.store (⟨b1, 0, none⟩) [.int .i64 0, .int .i64 4, .int .i64 0, .string p0] <|
  L.load (.agg [.int .i64, .int .i64, .int .i64, .str]) (⟨b1, 0, none⟩) fun (x2 : Int × Int × Int × ByteArray × Unit) =>
  K (.agg #[.int .i64 x2.1, .int .i64 x2.2.1, .int .i64 x2.2.2.1, .string x2.2.2.2.1])
theorem D_gate_why (p0 : ByteArray) (K : Value → PT) : denF Pr Dt Tryz.f34 A_gate_why [.v (.string p0)] K = F_gate_why p0 K := by kernel_rfl
theorem C_gate_why (p0 : ByteArray) {K : Value → PT} {w : World} (h : F_gate_why p0 K w) : Calls Pr n_gate_why [.string p0].toArray w fun e w2 => ∃ v, e = .returned v ∧ K v w2 :=
  denF_ok Tok (f := 34) (fn := Tryz.f34) (an := A_gate_why) (args := [.v (.string p0)]) (by kernel_rfl) (by kernel_rfl) ((congrFun (D_gate_why p0 K) w).mpr h)
theorem E_gate_why : Enters Pr n_gate_why := enters_of_B (by kernel_rfl)

def A_slices_Clone_gate_Fate_gate_Fate : Ann := .auto
/-- slices.Clone[[]damper/gate.Fate,damper/gate.Fate] -/
def F_slices_Clone_gate_Fate_gate_Fate (p0 : Sl) (K : Value → PT) : PT :=
  L.ite ((p0.a).isNone) (
    K (.slice none 0 0)) <|
  L.new [] T_gate_Fate fun b1 =>
  L.sem Pr (.one (.one .slice)) (Builtin.append_ #[T_s_gate_Fate, T_s_gate_Fate] T_s_gate_Fate #[.slice (some ⟨b1, 0, none⟩) 0 0, .slice p0.a p0.len p0.cap]) fun (s2 : Sl) =>
  K (.slice s2.a s2.len s2.cap)
theorem D_slices_Clone_gate_Fate_gate_Fate (p0 : Sl) (K : Value → PT) : denF Pr Dt Tryz.f35 A_slices_Clone_gate_Fate_gate_Fate [.v (.slice p0.a p0.len p0.cap)] K = F_slices_Clone_gate_Fate_gate_Fate p0 K := by kernel_rfl
theorem C_slices_Clone_gate_Fate_gate_Fate (p0 : Sl) {K : Value → PT} {w : World} (h : F_slices_Clone_gate_Fate_gate_Fate p0 K w) : Calls Pr n_slices_Clone_gate_Fate_gate_Fate [.slice p0.a p0.len p0.cap].toArray w fun e w2 => ∃ v, e = .returned v ∧ K v w2 :=
  denF_ok Tok (f := 35) (fn := Tryz.f35) (an := A_slices_Clone_gate_Fate_gate_Fate) (args := [.v (.slice p0.a p0.len p0.cap)]) (by kernel_rfl) (by kernel_rfl) ((congrFun (D_slices_Clone_gate_Fate_gate_Fate p0 K) w).mpr h)
theorem E_slices_Clone_gate_Fate_gate_Fate : Enters Pr n_slices_Clone_gate_Fate_gate_Fate := enters_of_B (by kernel_rfl)

def A_gate_book_wait_Line_at : Ann := (.seq .auto (.seq .auto .auto (some [])) none)
/-- (*damper/gate.book[*damper/wait.Line]).at -/
def F_gate_book_wait_Line_at (p0 : Option Addr) (p1 : ByteArray) (K : Value → PT) : PT :=
  L.join (Y := Unit) (fun k1 =>
    L.nonnil p0 fun a3 =>
    L.load (.one (.map)) (a3.add 0) fun (x4 : Option Nat) =>
    L.semR Pr (.tup [(.one (.ptr)), .one .bool]) (Instr.lookup T_map_string_p_wait_Line (.map x4) (.string p1) true) fun (x5 : Option Addr × Bool × Unit) =>
    L.ite (!x5.2.1) (
      L.draw <|
      L.nonnil p0 fun a6 =>
      L.load (.one (.map)) (a6.add 0) fun (x7 : Option Nat) =>
      L.nonnil p0 fun a8 =>
      L.load (.one (.func)) (a8.add 1) fun (x9 : FV) =>
      L.callV Pr (.func x9.fn x9.fs x9.cs) [] (.one (.one (.ptr))) fun (x10 : Option Addr) =>
      L.chk (a6.add 0) [.map x7] <|
      L.semU Pr (Instr.mapUpdate T_map_string_p_wait_Line (.map x7) (.string p1) (.pointer x10)) <|
      k1 (())) <|
    k1 (())) fun z2 =>
  L.nonnil p0 fun a11 =>
  L.load (.one (.map)) (a11.add 0) fun (x12 : Option Nat) =>
  L.semR Pr (.one (.one (.ptr))) (Instr.lookup T_map_string_p_wait_Line (.map x12) (.string p1) false) fun (x13 : Option Addr) =>
  K (.pointer x13)
theorem D_gate_book_wait_Line_at (p0 : Option Addr) (p1 : ByteArray) (K : Value → PT) : denF Pr Dt Tryz.f36 A_gate_book_wait_Line_at [.v (.pointer p0), .v (.string p1)] K = F_gate_book_wait_Line_at p0 p1 K := by kernel_rfl
theorem C_gate_book_wait_Line_at (p0 : Option Addr) (p1 : ByteArray) {K : Value → PT} {w : World} (h : F_gate_book_wait_Line_at p0 p1 K w) : Calls Pr n_gate_book_wait_Line_at [.pointer p0, .string p1].toArray w fun e w2 => ∃ v, e = .returned v ∧ K v w2 :=
  denF_ok Tok (f := 36) (fn := Tryz.f36) (an := A_gate_book_wait_Line_at) (args := [.v (.pointer p0), .v (.string p1)]) (by kernel_rfl) (by kernel_rfl) ((congrFun (D_gate_book_wait_Line_at p0 p1 K) w).mpr h)
theorem E_gate_book_wait_Line_at : Enters Pr n_gate_book_wait_Line_at := enters_of_B (by kernel_rfl)

def A_wait_Line_Len : Ann := .auto
/-- (*damper/wait.Line).Len -/
def F_wait_Line_Len (p0 : Option Addr) (K : Value → PT) : PT :=
  L.nonnil p0 fun a1 =>
  L.load (.one (.slice)) ((a1.add 0).add 0) fun (x2 : Sl) =>
  K (.int .i64 ((x2.len : Nat) : Int))
theorem D_wait_Line_Len (p0 : Option Addr) (K : Value → PT) : denF Pr Dt Tryz.f37 A_wait_Line_Len [.v (.pointer p0)] K = F_wait_Line_Len p0 K := by kernel_rfl
theorem C_wait_Line_Len (p0 : Option Addr) {K : Value → PT} {w : World} (h : F_wait_Line_Len p0 K w) : Calls Pr n_wait_Line_Len [.pointer p0].toArray w fun e w2 => ∃ v, e = .returned v ∧ K v w2 :=
  denF_ok Tok (f := 37) (fn := Tryz.f37) (an := A_wait_Line_Len) (args := [.v (.pointer p0)]) (by kernel_rfl) (by kernel_rfl) ((congrFun (D_wait_Line_Len p0 K) w).mpr h)
theorem E_wait_Line_Len : Enters Pr n_wait_Line_Len := enters_of_B (by kernel_rfl)

def A_gate_Gate_send : Ann := .auto
/-- (*damper/gate.Gate).send -/
def F_gate_Gate_send (p0 : Option Addr) (p1 : Int) (p2 : ByteArray) (K : Value → PT) : PT :=
  L.new [.int .i64 0, .int .i64 0, .int .i64 0, .string s_] T_gate_Fate fun b1 =>
  L.nonnil p0 fun a2 =>
  L.load (.one (.ptr)) (a2.add 0) fun (x3 : Option Addr) =>
  L.call Pr n_fleet_Fleet_Take [.pointer x3, .string p2, .int .i64 p1] (.tup [(.one (.int .i64)), (.one (.bool))]) fun (x4 : Int × Bool × Unit) =>
  L.ite (!x4.2.1) (
    L.store (⟨b1, 0, none⟩) [.int .i64 0, .int .i64 0, .int .i64 0, .string s_] <|
    L.load (.agg [.int .i64, .int .i64, .int .i64, .str]) (⟨b1, 0, none⟩) fun (x5 : Int × Int × Int × ByteArray × Unit) =>
    K (.tuple #[.agg #[.int .i64 x5.1, .int .i64 x5.2.1, .int .i64 x5.2.2.1, .string x5.2.2.2.1], .bool false])) <|
  L.call Pr n_gate_Gate_set [.pointer p0, .int .i64 p1, .string p2, .agg #[.int .i64 0, .int .i64 1, .int .i64 x4.1, .string s_]] (.one (.agg [.int .i64, .int .i64, .int .i64, .str])) fun (x6 : Int × Int × Int × ByteArray × Unit) =>
  L.store (⟨b1, 0, none⟩) [.int .i64 x6.1, .int .i64 x6.2.1, .int .i64 x6.2.2.1, .string x6.2.2.2.1] <|
  L.load (.agg [.int .i64, .int .i64, .int .i64, .str]) (⟨b1, 0, none⟩) fun (x7 : Int × Int × Int × ByteArray × Unit) =>
  K (.tuple #[.agg #[.int .i64 x7.1, .int .i64 x7.2.1, .int .i64 x7.2.2.1, .string x7.2.2.2.1], .bool true])
theorem D_gate_Gate_send (p0 : Option Addr) (p1 : Int) (p2 : ByteArray) (K : Value → PT) : denF Pr Dt Tryz.f38 A_gate_Gate_send [.v (.pointer p0), .v (.int .i64 p1), .v (.string p2)] K = F_gate_Gate_send p0 p1 p2 K := by kernel_rfl
theorem C_gate_Gate_send (p0 : Option Addr) (p1 : Int) (p2 : ByteArray) {K : Value → PT} {w : World} (h : F_gate_Gate_send p0 p1 p2 K w) : Calls Pr n_gate_Gate_send [.pointer p0, .int .i64 p1, .string p2].toArray w fun e w2 => ∃ v, e = .returned v ∧ K v w2 :=
  denF_ok Tok (f := 38) (fn := Tryz.f38) (an := A_gate_Gate_send) (args := [.v (.pointer p0), .v (.int .i64 p1), .v (.string p2)]) (by kernel_rfl) (by kernel_rfl) ((congrFun (D_gate_Gate_send p0 p1 p2 K) w).mpr h)
theorem E_gate_Gate_send : Enters Pr n_gate_Gate_send := enters_of_B (by kernel_rfl)

def A_wait_Line_Push : Ann := .auto
/-- (*damper/wait.Line).Push -/
def F_wait_Line_Push (p0 : Option Addr) (p1 : Int) (p2 : Int) (K : Value → PT) : PT :=
  L.nonnil p0 fun a1 =>
  L.call Pr n_wait_row_int_has [.pointer (some (a1.add 0)), .int .i64 p1] (.one (.one (.bool))) fun (x2 : Bool) =>
  L.ite x2 (
    K (.int .i64 5)) <|
  L.draw <|
  L.nonnil p0 fun a3 =>
  L.load (.one (.int .i64)) (a3.add 1) fun (x4 : Int) =>
  L.call Pr n_wait_Line_Len [.pointer p0] (.one (.one (.int .i64))) fun (x5 : Int) =>
  L.chk (a3.add 1) [.int .i64 x4] <|
  L.ite (decide (x5 ≥ x4)) (
    K (.int .i64 8)) <|
  L.nonnil p0 fun a6 =>
  L.load (.one (.slice)) ((a6.add 0).add 0) fun (x7 : Sl) =>
  L.new [.int .i64 p1, .int .i64 p2] T_wait_held_int fun b8 =>
  L.sem Pr (.one (.one .slice)) (Builtin.append_ #[T_s_wait_held_int, T_s_wait_held_int] T_s_wait_held_int #[.slice x7.a x7.len x7.cap, .slice (some ⟨b8, 0, none⟩) 1 1]) fun (s9 : Sl) =>
  L.nonnil p0 fun a10 =>
  L.store ((a10.add 0).add 0) [.slice s9.a s9.len s9.cap] <|
  K (.int .i64 0)
theorem D_wait_Line_Push (p0 : Option Addr) (p1 : Int) (p2 : Int) (K : Value → PT) : denF Pr Dt Tryz.f39 A_wait_Line_Push [.v (.pointer p0), .v (.int .i64 p1), .v (.int .i64 p2)] K = F_wait_Line_Push p0 p1 p2 K := by kernel_rfl
theorem C_wait_Line_Push (p0 : Option Addr) (p1 : Int) (p2 : Int) {K : Value → PT} {w : World} (h : F_wait_Line_Push p0 p1 p2 K w) : Calls Pr n_wait_Line_Push [.pointer p0, .int .i64 p1, .int .i64 p2].toArray w fun e w2 => ∃ v, e = .returned v ∧ K v w2 :=
  denF_ok Tok (f := 39) (fn := Tryz.f39) (an := A_wait_Line_Push) (args := [.v (.pointer p0), .v (.int .i64 p1), .v (.int .i64 p2)]) (by kernel_rfl) (by kernel_rfl) ((congrFun (D_wait_Line_Push p0 p1 p2 K) w).mpr h)
theorem E_wait_Line_Push : Enters Pr n_wait_Line_Push := enters_of_B (by kernel_rfl)

def A_pod_Pod_Up : Ann := .auto
/-- (*damper/pod.Pod).Up -/
def F_pod_Pod_Up (p0 : Option Addr) (K : Value → PT) : PT :=
  L.nonnil p0 fun a1 =>
  L.load (.one (.int .i64)) (a1.add 0) fun (x2 : Int) =>
  L.ite (x2 != 1) (
    K (.int .i64 9)) <|
  L.nonnil p0 fun a3 =>
  L.store (a3.add 0) [.int .i64 2] <|
  K (.int .i64 0)
theorem D_pod_Pod_Up (p0 : Option Addr) (K : Value → PT) : denF Pr Dt Tryz.f40 A_pod_Pod_Up [.v (.pointer p0)] K = F_pod_Pod_Up p0 K := by kernel_rfl
theorem C_pod_Pod_Up (p0 : Option Addr) {K : Value → PT} {w : World} (h : F_pod_Pod_Up p0 K w) : Calls Pr n_pod_Pod_Up [.pointer p0].toArray w fun e w2 => ∃ v, e = .returned v ∧ K v w2 :=
  denF_ok Tok (f := 40) (fn := Tryz.f40) (an := A_pod_Pod_Up) (args := [.v (.pointer p0)]) (by kernel_rfl) (by kernel_rfl) ((congrFun (D_pod_Pod_Up p0 K) w).mpr h)
theorem E_pod_Pod_Up : Enters Pr n_pod_Pod_Up := enters_of_B (by kernel_rfl)

def A_wait_Line_All : Ann := (.seq .auto (.seq .auto (.seq (.seq .auto (.seq .auto .auto (some [(12, (.one (.int .i64))), (13, (.one (.int .i64)))])) none) .auto none) none) none)
/-- (*damper/wait.Line).All -/
def F_wait_Line_All (p0 : Option Addr) (K : Value → PT) : PT :=
  L.call Pr n_wait_Line_Len [.pointer p0] (.one (.one (.int .i64))) fun (x1 : Int) =>
  L.sem Pr (.one (.one .slice)) (Instr.makeSlice T_s_int (.int .i64 0) (.int .i64 x1)) fun (s2 : Sl) =>
  L.new [.slice none 0 0] T_s_int fun b3 =>
  L.store (⟨b3, 0, none⟩) [.slice s2.a s2.len s2.cap] <|
  L.nonnil p0 fun a4 =>
  L.call Pr n_wait_row_int_each [.pointer (some (a4.add 0))] (.one (.one (.func))) fun (x5 : FV) =>
  L.range Pr none (.func x5.fn x5.fs x5.cs) [(.one (.int .i64)), (.one (.int .i64))] (fun l6 (y7 : Int × Int × Unit) R8 =>
    L.begin Pr l6 <|
    L.load (.one (.slice)) (⟨b3, 0, none⟩) fun (x11 : Sl) =>
    L.new [.int .i64 y7.1] T_int fun b12 =>
    L.sem Pr (.one (.one .slice)) (Builtin.append_ #[T_s_int, T_s_int] T_s_int #[.slice x11.a x11.len x11.cap, .slice (some ⟨b12, 0, none⟩) 1 1]) fun (s13 : Sl) =>
    L.store (⟨b3, 0, none⟩) [.slice s13.a s13.len s13.cap] <|
    L.endRound Pr l6 none R8) fun d9 j10 =>
  L.jump j10 (
    L.load (.one (.slice)) (⟨b3, 0, none⟩) fun (x14 : Sl) =>
    L.unmark Pr (d9 ++ []) <|
    K (.slice x14.a x14.len x14.cap)) (
    L.unmark Pr (d9 ++ []) <|
    K (.slice none 0 0)) []
theorem D_wait_Line_All (p0 : Option Addr) (K : Value → PT) : denF Pr Dt Tryz.f41 A_wait_Line_All [.v (.pointer p0)] K = F_wait_Line_All p0 K := by kernel_rfl
theorem C_wait_Line_All (p0 : Option Addr) {K : Value → PT} {w : World} (h : F_wait_Line_All p0 K w) : Calls Pr n_wait_Line_All [.pointer p0].toArray w fun e w2 => ∃ v, e = .returned v ∧ K v w2 :=
  denF_ok Tok (f := 41) (fn := Tryz.f41) (an := A_wait_Line_All) (args := [.v (.pointer p0)]) (by kernel_rfl) (by kernel_rfl) ((congrFun (D_wait_Line_All p0 K) w).mpr h)
theorem E_wait_Line_All : Enters Pr n_wait_Line_All := enters_of_B (by kernel_rfl)

def A_wait_Line_Pop : Ann := (.seq .auto (.seq (.seq .auto (.seq .auto .auto (some [(9, (.one (.int .i64))), (10, (.one (.int .i64)))])) none) .auto none) none)
/-- (*damper/wait.Line).Pop -/
def F_wait_Line_Pop (p0 : Option Addr) (K : Value → PT) : PT :=
  L.new [.pointer p0] T_p_wait_Line fun b1 =>
  L.new [.int .i64 0] T_int fun b2 =>
  L.new [.bool false] T_bool fun b3 =>
  L.load (.one (.ptr)) (⟨b1, 0, none⟩) fun (x4 : Option Addr) =>
  L.nonnil x4 fun a5 =>
  L.call Pr n_wait_row_int_each [.pointer (some (a5.add 0))] (.one (.one (.func))) fun (x6 : FV) =>
  L.range Pr none (.func x6.fn x6.fs x6.cs) [(.one (.int .i64)), (.one (.int .i64))] (fun l7 (y8 : Int × Int × Unit) R9 =>
    L.begin Pr l7 <|
    L.draw <|
    L.load (.one (.ptr)) (⟨b1, 0, none⟩) fun (x12 : Option Addr) =>
    L.load (.one (.ptr)) (⟨b1, 0, none⟩) fun (x13 : Option Addr) =>
    L.nonnil x13 fun a14 =>
    L.load (.one (.slice)) ((a14.add 0).add 0) fun (x15 : Sl) =>
    L.guard (0 ≤ (1 : Int) ∧ (1 : Int) ≤ ((x15.len : Nat) : Int) ∧ ((x15.len : Nat) : Int) ≤ ((x15.cap : Nat) : Int) ∧ ((x15.cap : Nat) : Int) ≤ x15.cap) <|
    L.nonnil x12 fun a16 =>
    L.store ((a16.add 0).add 0) [.slice (if Int.toNat ((x15.cap : Nat) : Int) = Int.toNat (1 : Int) then x15.a else Option.map (fun a : Addr => a.add (Int.toNat (1 : Int) * 2)) x15.a) (Int.toNat ((x15.len : Nat) : Int) - Int.toNat (1 : Int)) (Int.toNat ((x15.cap : Nat) : Int) - Int.toNat (1 : Int))] <|
    L.store (⟨b2, 0, none⟩) [.int .i64 y8.1] <|
    L.store (⟨b3, 0, none⟩) [.bool true] <|
    L.endRound Pr l7 (some .ret) R9) fun d10 j11 =>
  L.jump j11 (
    L.store (⟨b2, 0, none⟩) [.int .i64 0] <|
    L.store (⟨b3, 0, none⟩) [.bool false] <|
    L.unmark Pr (d10 ++ []) <|
    L.load (.one (.int .i64)) (⟨b2, 0, none⟩) fun (x17 : Int) =>
    L.load (.one (.bool)) (⟨b3, 0, none⟩) fun (x18 : Bool) =>
    K (.tuple #[.int .i64 x17, .bool x18])) (
    L.unmark Pr (d10 ++ []) <|
    L.load (.one (.int .i64)) (⟨b2, 0, none⟩) fun (x19 : Int) =>
    L.load (.one (.bool)) (⟨b3, 0, none⟩) fun (x20 : Bool) =>
    K (.tuple #[.int .i64 x19, .bool x20])) []
theorem D_wait_Line_Pop (p0 : Option Addr) (K : Value → PT) : denF Pr Dt Tryz.f42 A_wait_Line_Pop [.v (.pointer p0)] K = F_wait_Line_Pop p0 K := by kernel_rfl
theorem C_wait_Line_Pop (p0 : Option Addr) {K : Value → PT} {w : World} (h : F_wait_Line_Pop p0 K w) : Calls Pr n_wait_Line_Pop [.pointer p0].toArray w fun e w2 => ∃ v, e = .returned v ∧ K v w2 :=
  denF_ok Tok (f := 42) (fn := Tryz.f42) (an := A_wait_Line_Pop) (args := [.v (.pointer p0)]) (by kernel_rfl) (by kernel_rfl) ((congrFun (D_wait_Line_Pop p0 K) w).mpr h)
theorem E_wait_Line_Pop : Enters Pr n_wait_Line_Pop := enters_of_B (by kernel_rfl)

def A_pod_Pod_Kill : Ann := (.seq .auto (.seq .auto (.seq .auto (.seq (.seq .auto (.one [(21, (.one (.int .i64)))] .auto) none) .auto none) none) none) none)
/-- (*damper/pod.Pod).Kill -/
def F_pod_Pod_Kill (p0 : Option Addr) (K : Value → PT) : PT :=
  L.nonnil p0 fun a1 =>
  L.load (.one (.int .i64)) (a1.add 0) fun (x2 : Int) =>
  L.ite (x2 == 4) (
    K (.tuple #[.slice none 0 0, .int .i64 9])) <|
  L.nonnil p0 fun a3 =>
  L.load (.one (.map)) ((a3.add 1).add 0) fun (x4 : Option Nat) =>
  L.call Pr n_maps_Keys_map_int_bool_int_bool [.map x4] (.one (.one (.func))) fun (x5 : FV) =>
  L.call Pr n_slices_Sorted_int [.func x5.fn x5.fs x5.cs] (.one (.one (.slice))) fun (x6 : Sl) =>
  L.call Pr n_slices_Clone_int_int [.slice x6.a x6.len x6.cap] (.one (.one (.slice))) fun (x7 : Sl) =>
  L.loop (Y := Int × Unit) (0, ()) fun y8 again9 =>
  L.ite (decide (y8.1 < ((x7.len : Nat) : Int))) (
    L.idx x7.a y8.1 x7.len 1 fun a10 =>
    L.load (.one (.int .i64)) a10 fun (x11 : Int) =>
    L.nonnil p0 fun a12 =>
    L.call Pr n_pod_bag_int_take [.pointer (some (a12.add 1)), .int .i64 x11] (.one (.one (.int .i64))) fun (x13 : Int) =>
    again9 (IntKind.wrap .i64 (y8.1 + 1), ())) <|
  L.nonnil p0 fun a14 =>
  L.store (a14.add 0) [.int .i64 4] <|
  K (.tuple #[.slice x7.a x7.len x7.cap, .int .i64 0])
theorem D_pod_Pod_Kill (p0 : Option Addr) (K : Value → PT) : denF Pr Dt Tryz.f43 A_pod_Pod_Kill [.v (.pointer p0)] K = F_pod_Pod_Kill p0 K := by kernel_rfl
theorem C_pod_Pod_Kill (p0 : Option Addr) {K : Value → PT} {w : World} (h : F_pod_Pod_Kill p0 K w) : Calls Pr n_pod_Pod_Kill [.pointer p0].toArray w fun e w2 => ∃ v, e = .returned v ∧ K v w2 :=
  denF_ok Tok (f := 43) (fn := Tryz.f43) (an := A_pod_Pod_Kill) (args := [.v (.pointer p0)]) (by kernel_rfl) (by kernel_rfl) ((congrFun (D_pod_Pod_Kill p0 K) w).mpr h)
theorem E_pod_Pod_Kill : Enters Pr n_pod_Pod_Kill := enters_of_B (by kernel_rfl)

def A_fleet_Fleet_Give : Ann := .auto
/-- (*damper/fleet.Fleet).Give -/
def F_fleet_Fleet_Give (p0 : Option Addr) (p1 : Int) (K : Value → PT) : PT :=
  L.nonnil p0 fun a1 =>
  L.load (.one (.map)) (a1.add 1) fun (x2 : Option Nat) =>
  L.semR Pr (.tup [(.one (.int .i64)), .one .bool]) (Instr.lookup T_map_int_int (.map x2) (.int .i64 p1) true) fun (x3 : Int × Bool × Unit) =>
  L.ite (!x3.2.1) (
    K (.tuple #[.string s_, .int .i64 6])) <|
  L.nonnil p0 fun a4 =>
  L.load (.one (.map)) (a4.add 0) fun (x5 : Option Nat) =>
  L.semR Pr (.one (.agg [.str, .ptr])) (Instr.lookup T_map_int_fleet_one (.map x5) (.int .i64 x3.1) false) fun (x6 : ByteArray × Option Addr × Unit) =>
  L.new [.string s_, .pointer none] T_fleet_one fun b7 =>
  L.store (⟨b7, 0, none⟩) [.string x6.1, .pointer x6.2.1] <|
  L.load (.one (.ptr)) ((⟨b7, 0, none⟩ : Addr).add 1) fun (x8 : Option Addr) =>
  L.call Pr n_pod_Pod_Give [.pointer x8, .int .i64 p1] (.one (.one (.int .i64))) fun (x9 : Int) =>
  L.nonnil p0 fun a10 =>
  L.load (.one (.map)) (a10.add 1) fun (x11 : Option Nat) =>
  L.sem Pr (.tup []) (Builtin.delete_ #[T_map_int_int, T_int] T_ #[.map x11, .int .i64 p1]) fun _ =>
  L.call Pr n_fleet_Fleet_end [.pointer p0, .int .i64 x3.1] (.tup []) fun (x12 : Unit) =>
  L.load (.one (.str)) ((⟨b7, 0, none⟩ : Addr).add 0) fun (x13 : ByteArray) =>
  K (.tuple #[.string x13, .int .i64 0])
theorem D_fleet_Fleet_Give (p0 : Option Addr) (p1 : Int) (K : Value → PT) : denF Pr Dt Tryz.f44 A_fleet_Fleet_Give [.v (.pointer p0), .v (.int .i64 p1)] K = F_fleet_Fleet_Give p0 p1 K := by kernel_rfl
theorem C_fleet_Fleet_Give (p0 : Option Addr) (p1 : Int) {K : Value → PT} {w : World} (h : F_fleet_Fleet_Give p0 p1 K w) : Calls Pr n_fleet_Fleet_Give [.pointer p0, .int .i64 p1].toArray w fun e w2 => ∃ v, e = .returned v ∧ K v w2 :=
  denF_ok Tok (f := 44) (fn := Tryz.f44) (an := A_fleet_Fleet_Give) (args := [.v (.pointer p0), .v (.int .i64 p1)]) (by kernel_rfl) (by kernel_rfl) ((congrFun (D_fleet_Fleet_Give p0 p1 K) w).mpr h)
theorem E_fleet_Fleet_Give : Enters Pr n_fleet_Fleet_Give := enters_of_B (by kernel_rfl)

def A_damperlaw14_digits : Ann := .auto
/-- damper/damperlaw14.digits -/
def F_damperlaw14_digits (p0 : Int) (K : Value → PT) : PT :=
  L.ite (decide (p0 < 0)) (
    K (.string s___b5d2)) <|
  L.ite (decide (p0 ≥ 10)) (
    L.guard (10 ≠ (0 : Int)) <|
    L.call Pr n_damperlaw14_digits [.int .i64 (IntKind.wrap .i64 (Int.tdiv p0 10))] (.one (.one (.str))) fun (x1 : ByteArray) =>
    L.guard (10 ≠ (0 : Int)) <|
    L.call Pr n_damperlaw14_digits [.int .i64 (Int.tmod p0 10)] (.one (.one (.str))) fun (x2 : ByteArray) =>
    L.guard (((x1.size + x2.size : Nat) : Int) ≤ maxI64) <|
    K (.string (x1 ++ x2))) <|
  L.new [.int .u8 (IntKind.wrap .u8 (IntKind.wrap .i64 (48 + p0)))] T_uint8 fun b3 =>
  L.sem Pr (.one (.one (.str))) (convert T_s_uint8 T_string (.slice (some ⟨b3, 0, none⟩) 1 1)) fun (x4 : ByteArray) =>
  K (.string x4)
theorem D_damperlaw14_digits (p0 : Int) (K : Value → PT) : denF Pr Dt Tryz.f45 A_damperlaw14_digits [.v (.int .i64 p0)] K = F_damperlaw14_digits p0 K := by kernel_rfl
theorem C_damperlaw14_digits (p0 : Int) {K : Value → PT} {w : World} (h : F_damperlaw14_digits p0 K w) : Calls Pr n_damperlaw14_digits [.int .i64 p0].toArray w fun e w2 => ∃ v, e = .returned v ∧ K v w2 :=
  denF_ok Tok (f := 45) (fn := Tryz.f45) (an := A_damperlaw14_digits) (args := [.v (.int .i64 p0)]) (by kernel_rfl) (by kernel_rfl) ((congrFun (D_damperlaw14_digits p0 K) w).mpr h)
theorem E_damperlaw14_digits : Enters Pr n_damperlaw14_digits := enters_of_B (by kernel_rfl)

def A_fleet_Fleet_of : Ann := .auto
/-- (*damper/fleet.Fleet).of -/
def F_fleet_Fleet_of (p0 : Option Addr) (p1 : ByteArray) (K : Value → PT) : PT :=
  L.new [.pointer p0] T_p_fleet_Fleet fun b1 =>
  L.new [.string p1] T_string fun b2 =>
  K (.func (.func n_fleet_Fleet_of_1) #[] #[.pointer (some (⟨b1, 0, none⟩)), .pointer (some (⟨b2, 0, none⟩))])
theorem D_fleet_Fleet_of (p0 : Option Addr) (p1 : ByteArray) (K : Value → PT) : denF Pr Dt Tryz.f47 A_fleet_Fleet_of [.v (.pointer p0), .v (.string p1)] K = F_fleet_Fleet_of p0 p1 K := by kernel_rfl
theorem C_fleet_Fleet_of (p0 : Option Addr) (p1 : ByteArray) {K : Value → PT} {w : World} (h : F_fleet_Fleet_of p0 p1 K w) : Calls Pr n_fleet_Fleet_of [.pointer p0, .string p1].toArray w fun e w2 => ∃ v, e = .returned v ∧ K v w2 :=
  denF_ok Tok (f := 47) (fn := Tryz.f47) (an := A_fleet_Fleet_of) (args := [.v (.pointer p0), .v (.string p1)]) (by kernel_rfl) (by kernel_rfl) ((congrFun (D_fleet_Fleet_of p0 p1 K) w).mpr h)
theorem E_fleet_Fleet_of : Enters Pr n_fleet_Fleet_of := enters_of_B (by kernel_rfl)

def A_pod_Pod_State : Ann := .auto
/-- (*damper/pod.Pod).State -/
def F_pod_Pod_State (p0 : Option Addr) (K : Value → PT) : PT :=
  L.nonnil p0 fun a1 =>
  L.load (.one (.int .i64)) (a1.add 0) fun (x2 : Int) =>
  K (.int .i64 x2)
theorem D_pod_Pod_State (p0 : Option Addr) (K : Value → PT) : denF Pr Dt Tryz.f48 A_pod_Pod_State [.v (.pointer p0)] K = F_pod_Pod_State p0 K := by kernel_rfl
theorem C_pod_Pod_State (p0 : Option Addr) {K : Value → PT} {w : World} (h : F_pod_Pod_State p0 K w) : Calls Pr n_pod_Pod_State [.pointer p0].toArray w fun e w2 => ∃ v, e = .returned v ∧ K v w2 :=
  denF_ok Tok (f := 48) (fn := Tryz.f48) (an := A_pod_Pod_State) (args := [.v (.pointer p0)]) (by kernel_rfl) (by kernel_rfl) ((congrFun (D_pod_Pod_State p0 K) w).mpr h)
theorem E_pod_Pod_State : Enters Pr n_pod_Pod_State := enters_of_B (by kernel_rfl)

def A_pod_Pod_Load : Ann := .auto
/-- (*damper/pod.Pod).Load -/
def F_pod_Pod_Load (p0 : Option Addr) (K : Value → PT) : PT :=
  L.nonnil p0 fun a1 =>
  L.load (.one (.map)) ((a1.add 1).add 0) fun (x2 : Option Nat) =>
  L.semR Pr (.one (.one (.int .i64))) (Builtin.len_ #[T_map_int_bool] T_int #[.map x2]) fun (x3 : Int) =>
  K (.int .i64 x3)
theorem D_pod_Pod_Load (p0 : Option Addr) (K : Value → PT) : denF Pr Dt Tryz.f49 A_pod_Pod_Load [.v (.pointer p0)] K = F_pod_Pod_Load p0 K := by kernel_rfl
theorem C_pod_Pod_Load (p0 : Option Addr) {K : Value → PT} {w : World} (h : F_pod_Pod_Load p0 K w) : Calls Pr n_pod_Pod_Load [.pointer p0].toArray w fun e w2 => ∃ v, e = .returned v ∧ K v w2 :=
  denF_ok Tok (f := 49) (fn := Tryz.f49) (an := A_pod_Pod_Load) (args := [.v (.pointer p0)]) (by kernel_rfl) (by kernel_rfl) ((congrFun (D_pod_Pod_Load p0 K) w).mpr h)
theorem E_pod_Pod_Load : Enters Pr n_pod_Pod_Load := enters_of_B (by kernel_rfl)

def A_pod_Pod_end : Ann := (.seq .auto (.cond .auto .auto) none)
/-- (*damper/pod.Pod).end -/
def F_pod_Pod_end (p0 : Option Addr) (K : Value → PT) : PT :=
  L.nonnil p0 fun a1 =>
  L.load (.one (.int .i64)) (a1.add 0) fun (x2 : Int) =>
  L.ite (x2 == 3) (
    L.call Pr n_pod_Pod_Load [.pointer p0] (.one (.one (.int .i64))) fun (x3 : Int) =>
    L.ite (x3 == 0) (
      L.nonnil p0 fun a4 =>
      L.store (a4.add 0) [.int .i64 4] <|
      K (.tuple #[])) <|
    K (.tuple #[])) <|
  K (.tuple #[])
theorem D_pod_Pod_end (p0 : Option Addr) (K : Value → PT) : denF Pr Dt Tryz.f50 A_pod_Pod_end [.v (.pointer p0)] K = F_pod_Pod_end p0 K := by kernel_rfl
theorem C_pod_Pod_end (p0 : Option Addr) {K : Value → PT} {w : World} (h : F_pod_Pod_end p0 K w) : Calls Pr n_pod_Pod_end [.pointer p0].toArray w fun e w2 => ∃ v, e = .returned v ∧ K v w2 :=
  denF_ok Tok (f := 50) (fn := Tryz.f50) (an := A_pod_Pod_end) (args := [.v (.pointer p0)]) (by kernel_rfl) (by kernel_rfl) ((congrFun (D_pod_Pod_end p0 K) w).mpr h)
theorem E_pod_Pod_end : Enters Pr n_pod_Pod_end := enters_of_B (by kernel_rfl)

def A_gate_book_wait_Line_each_1 : Ann := (.seq .auto (.one [(12, (.one (.int .i64)))] .auto) none)
/-- (*damper/gate.book[*damper/wait.Line]).each$1 -/
def F_gate_book_wait_Line_each_1 (p0 : FV) (c0 : Addr) (K : Value → PT) : PT :=
  L.load (.one (.ptr)) c0 fun (x1 : Option Addr) =>
  L.nonnil x1 fun a2 =>
  L.load (.one (.map)) (a2.add 0) fun (x3 : Option Nat) =>
  L.call Pr n_maps_Keys_map_string_wait_Line_string_wait_Line [.map x3] (.one (.one (.func))) fun (x4 : FV) =>
  L.call Pr n_slices_Sorted_string [.func x4.fn x4.fs x4.cs] (.one (.one (.slice))) fun (x5 : Sl) =>
  L.loop (Y := Int × Unit) (0, ()) fun y6 again7 =>
  L.ite (decide (y6.1 < ((x5.len : Nat) : Int))) (
    L.idx x5.a y6.1 x5.len 1 fun a8 =>
    L.load (.one (.str)) a8 fun (x9 : ByteArray) =>
    L.load (.one (.ptr)) c0 fun (x10 : Option Addr) =>
    L.nonnil x10 fun a11 =>
    L.load (.one (.map)) (a11.add 0) fun (x12 : Option Nat) =>
    L.semR Pr (.one (.one (.ptr))) (Instr.lookup T_map_string_p_wait_Line (.map x12) (.string x9) false) fun (x13 : Option Addr) =>
    L.callV Pr (.func p0.fn p0.fs p0.cs) [.string x9, .pointer x13] (.one (.one (.bool))) fun (x14 : Bool) =>
    L.ite (!x14) (
      K (.tuple #[])) <|
    again7 (IntKind.wrap .i64 (y6.1 + 1), ())) <|
  K (.tuple #[])
theorem D_gate_book_wait_Line_each_1 (p0 : FV) (c0 : Addr) (K : Value → PT) : denF Pr Dt Tryz.f51 A_gate_book_wait_Line_each_1 [.v (.func p0.fn p0.fs p0.cs), .v (.pointer (some c0))] K = F_gate_book_wait_Line_each_1 p0 c0 K := by kernel_rfl
theorem C_gate_book_wait_Line_each_1 (p0 : FV) (c0 : Addr) {K : Value → PT} {w : World} (h : F_gate_book_wait_Line_each_1 p0 c0 K w) : Calls Pr n_gate_book_wait_Line_each_1 [.func p0.fn p0.fs p0.cs, .pointer (some c0)].toArray w fun e w2 => ∃ v, e = .returned v ∧ K v w2 :=
  denF_ok Tok (f := 51) (fn := Tryz.f51) (an := A_gate_book_wait_Line_each_1) (args := [.v (.func p0.fn p0.fs p0.cs), .v (.pointer (some c0))]) (by kernel_rfl) (by kernel_rfl) ((congrFun (D_gate_book_wait_Line_each_1 p0 c0 K) w).mpr h)
theorem E_gate_book_wait_Line_each_1 : Enters Pr n_gate_book_wait_Line_each_1 := enters_of_B (by kernel_rfl)

def A_slices_Sorted_string : Ann := .auto
/-- slices.Sorted[string] -/
def F_slices_Sorted_string (p0 : FV) (K : Value → PT) : PT :=
  L.call Pr n_slices_Collect_string [.func p0.fn p0.fs p0.cs] (.one (.one (.slice))) fun (x1 : Sl) =>
  L.call Pr n_slices_Sort_string_string [.slice x1.a x1.len x1.cap] (.tup []) fun (x2 : Unit) =>
  K (.slice x1.a x1.len x1.cap)
theorem D_slices_Sorted_string (p0 : FV) (K : Value → PT) : denF Pr Dt Tryz.f52 A_slices_Sorted_string [.v (.func p0.fn p0.fs p0.cs)] K = F_slices_Sorted_string p0 K := by kernel_rfl
theorem C_slices_Sorted_string (p0 : FV) {K : Value → PT} {w : World} (h : F_slices_Sorted_string p0 K w) : Calls Pr n_slices_Sorted_string [.func p0.fn p0.fs p0.cs].toArray w fun e w2 => ∃ v, e = .returned v ∧ K v w2 :=
  denF_ok Tok (f := 52) (fn := Tryz.f52) (an := A_slices_Sorted_string) (args := [.v (.func p0.fn p0.fs p0.cs)]) (by kernel_rfl) (by kernel_rfl) ((congrFun (D_slices_Sorted_string p0 K) w).mpr h)
theorem E_slices_Sorted_string : Enters Pr n_slices_Sorted_string := enters_of_B (by kernel_rfl)

def A_maps_Keys_map_string_wait_Line_string_wait_Line : Ann := .auto
/-- maps.Keys[map[string]*damper/wait.Line,string,*damper/wait.Line] -/
def F_maps_Keys_map_string_wait_Line_string_wait_Line (p0 : Option Nat) (K : Value → PT) : PT :=
  L.new [.map p0] T_map_string_p_wait_Line fun b1 =>
  K (.func (.func n_maps_Keys_map_string_wait_Line_string_wait_Line_1) #[] #[.pointer (some (⟨b1, 0, none⟩))])
theorem D_maps_Keys_map_string_wait_Line_string_wait_Line (p0 : Option Nat) (K : Value → PT) : denF Pr Dt Tryz.f53 A_maps_Keys_map_string_wait_Line_string_wait_Line [.v (.map p0)] K = F_maps_Keys_map_string_wait_Line_string_wait_Line p0 K := by kernel_rfl
theorem C_maps_Keys_map_string_wait_Line_string_wait_Line (p0 : Option Nat) {K : Value → PT} {w : World} (h : F_maps_Keys_map_string_wait_Line_string_wait_Line p0 K w) : Calls Pr n_maps_Keys_map_string_wait_Line_string_wait_Line [.map p0].toArray w fun e w2 => ∃ v, e = .returned v ∧ K v w2 :=
  denF_ok Tok (f := 53) (fn := Tryz.f53) (an := A_maps_Keys_map_string_wait_Line_string_wait_Line) (args := [.v (.map p0)]) (by kernel_rfl) (by kernel_rfl) ((congrFun (D_maps_Keys_map_string_wait_Line_string_wait_Line p0 K) w).mpr h)
theorem E_maps_Keys_map_string_wait_Line_string_wait_Line : Enters Pr n_maps_Keys_map_string_wait_Line_string_wait_Line := enters_of_B (by kernel_rfl)

def A_wait_row_int_part : Ann := (.seq .auto (.seq .auto (.seq .auto (.seq (.seq .auto (.seq .auto .auto (some [(11, (.one (.int .i64))), (12, (.one (.int .i64)))])) none) .auto none) none) none) none)
/-- (*damper/wait.row[int]).part -/
def F_wait_row_int_part (p0 : Option Addr) (p1 : Int) (K : Value → PT) : PT :=
  L.new [.int .i64 p1] T_int fun b1 =>
  L.new [.slice none 0 0] T_s_int fun b2 =>
  L.new [.slice none 0 0] T_s_wait_held_int fun b3 =>
  L.call Pr n_wait_row_int_each [.pointer p0] (.one (.one (.func))) fun (x4 : FV) =>
  L.range Pr none (.func x4.fn x4.fs x4.cs) [(.one (.int .i64)), (.one (.int .i64))] (fun l5 (y6 : Int × Int × Unit) R7 =>
    L.begin Pr l5 <|
    L.load (.one (.int .i64)) (⟨b1, 0, none⟩) fun (x10 : Int) =>
    L.ite (decide (y6.2.1 ≤ x10)) (
      L.load (.one (.slice)) (⟨b2, 0, none⟩) fun (x11 : Sl) =>
      L.new [.int .i64 y6.1] T_int fun b12 =>
      L.sem Pr (.one (.one .slice)) (Builtin.append_ #[T_s_int, T_s_int] T_s_int #[.slice x11.a x11.len x11.cap, .slice (some ⟨b12, 0, none⟩) 1 1]) fun (s13 : Sl) =>
      L.store (⟨b2, 0, none⟩) [.slice s13.a s13.len s13.cap] <|
      L.endRound Pr l5 none R7) <|
    L.load (.one (.slice)) (⟨b3, 0, none⟩) fun (x14 : Sl) =>
    L.new [.int .i64 y6.1, .int .i64 y6.2.1] T_wait_held_int fun b15 =>
    L.sem Pr (.one (.one .slice)) (Builtin.append_ #[T_s_wait_held_int, T_s_wait_held_int] T_s_wait_held_int #[.slice x14.a x14.len x14.cap, .slice (some ⟨b15, 0, none⟩) 1 1]) fun (s16 : Sl) =>
    L.store (⟨b3, 0, none⟩) [.slice s16.a s16.len s16.cap] <|
    L.endRound Pr l5 none R7) fun d8 j9 =>
  L.jump j9 (
    L.load (.one (.slice)) (⟨b3, 0, none⟩) fun (x17 : Sl) =>
    L.nonnil p0 fun a18 =>
    L.store (a18.add 0) [.slice x17.a x17.len x17.cap] <|
    L.load (.one (.slice)) (⟨b2, 0, none⟩) fun (x19 : Sl) =>
    L.call Pr n_slices_Clone_int_int [.slice x19.a x19.len x19.cap] (.one (.one (.slice))) fun (x20 : Sl) =>
    L.unmark Pr (d8 ++ []) <|
    K (.slice x20.a x20.len x20.cap)) (
    L.unmark Pr (d8 ++ []) <|
    K (.slice none 0 0)) []
theorem D_wait_row_int_part (p0 : Option Addr) (p1 : Int) (K : Value → PT) : denF Pr Dt Tryz.f54 A_wait_row_int_part [.v (.pointer p0), .v (.int .i64 p1)] K = F_wait_row_int_part p0 p1 K := by kernel_rfl
theorem C_wait_row_int_part (p0 : Option Addr) (p1 : Int) {K : Value → PT} {w : World} (h : F_wait_row_int_part p0 p1 K w) : Calls Pr n_wait_row_int_part [.pointer p0, .int .i64 p1].toArray w fun e w2 => ∃ v, e = .returned v ∧ K v w2 :=
  denF_ok Tok (f := 54) (fn := Tryz.f54) (an := A_wait_row_int_part) (args := [.v (.pointer p0), .v (.int .i64 p1)]) (by kernel_rfl) (by kernel_rfl) ((congrFun (D_wait_row_int_part p0 p1 K) w).mpr h)
theorem E_wait_row_int_part : Enters Pr n_wait_row_int_part := enters_of_B (by kernel_rfl)

def A_fleet_Fleet_Take : Ann := (.seq .auto (.seq .auto (.seq .auto (.seq (.seq .auto (.seq .auto .auto (some [(28, (.one (.int .i64))), (29, (.one (.ptr)))])) none) (.seq .auto (.seq (.seq .auto (.one [(41, (.one (.int .i64)))] .auto) none) .auto none) none) none) none) none) none)
/-- (*damper/fleet.Fleet).Take -/
def F_fleet_Fleet_Take (p0 : Option Addr) (p1 : ByteArray) (p2 : Int) (K : Value → PT) : PT :=
  L.nonnil p0 fun a1 =>
  L.load (.one (.map)) (a1.add 1) fun (x2 : Option Nat) =>
  L.semR Pr (.tup [(.one (.int .i64)), .one .bool]) (Instr.lookup T_map_int_int (.map x2) (.int .i64 p2) true) fun (x3 : Int × Bool × Unit) =>
  L.ite x3.2.1 (
    K (.tuple #[.int .i64 0, .bool false])) <|
  L.new [.slice none 0 0] T_s_fleet_choice fun b4 =>
  L.call Pr n_fleet_Fleet_of [.pointer p0, .string p1] (.one (.one (.func))) fun (x5 : FV) =>
  L.range Pr none (.func x5.fn x5.fs x5.cs) [(.one (.int .i64)), (.one (.ptr))] (fun l6 (y7 : Int × Option Addr × Unit) R8 =>
    L.begin Pr l6 <|
    L.draw <|
    L.load (.one (.slice)) (⟨b4, 0, none⟩) fun (x11 : Sl) =>
    L.call Pr n_pod_Pod_Load [.pointer y7.2.1] (.one (.one (.int .i64))) fun (x12 : Int) =>
    L.chk (⟨b4, 0, none⟩) [.slice x11.a x11.len x11.cap] <|
    L.new [.int .i64 x12, .int .i64 y7.1] T_fleet_choice fun b13 =>
    L.chk (⟨b4, 0, none⟩) [.slice x11.a x11.len x11.cap] <|
    L.sem Pr (.one (.one .slice)) (Builtin.append_ #[T_s_fleet_choice, T_s_fleet_choice] T_s_fleet_choice #[.slice x11.a x11.len x11.cap, .slice (some ⟨b13, 0, none⟩) 1 1]) fun (s14 : Sl) =>
    L.store (⟨b4, 0, none⟩) [.slice s14.a s14.len s14.cap] <|
    L.endRound Pr l6 none R8) fun d9 j10 =>
  L.jump j10 (
    L.load (.one (.slice)) (⟨b4, 0, none⟩) fun (x15 : Sl) =>
    L.call Pr n_slices_SortStableFunc_fleet_choice_fleet_choice [.slice x15.a x15.len x15.cap, .func (.func n_fleet_Fleet_Take_1) #[] #[]] (.tup []) fun (x16 : Unit) =>
    L.load (.one (.slice)) (⟨b4, 0, none⟩) fun (x17 : Sl) =>
    L.loop (Y := Int × Unit) (0, ()) fun y18 again19 =>
    L.ite (decide (y18.1 < ((x17.len : Nat) : Int))) (
      L.idx x17.a y18.1 x17.len 2 fun a20 =>
      L.load (.agg [.int .i64, .int .i64]) a20 fun (x21 : Int × Int × Unit) =>
      L.new [.int .i64 0, .int .i64 0] T_fleet_choice fun b22 =>
      L.store (⟨b22, 0, none⟩) [.int .i64 x21.1, .int .i64 x21.2.1] <|
      L.draw <|
      L.nonnil p0 fun a23 =>
      L.load (.one (.map)) (a23.add 0) fun (x24 : Option Nat) =>
      L.load (.one (.int .i64)) ((⟨b22, 0, none⟩ : Addr).add 1) fun (x25 : Int) =>
      L.semR Pr (.one (.agg [.str, .ptr])) (Instr.lookup T_map_int_fleet_one (.map x24) (.int .i64 x25) false) fun (x26 : ByteArray × Option Addr × Unit) =>
      L.call Pr n_pod_Pod_Take [.pointer x26.2.1, .int .i64 p2] (.one (.one (.int .i64))) fun (x27 : Int) =>
      L.ite (x27 == 0) (
        L.draw <|
        L.nonnil p0 fun a28 =>
        L.load (.one (.map)) (a28.add 1) fun (x29 : Option Nat) =>
        L.load (.one (.int .i64)) ((⟨b22, 0, none⟩ : Addr).add 1) fun (x30 : Int) =>
        L.semU Pr (Instr.mapUpdate T_map_int_int (.map x29) (.int .i64 p2) (.int .i64 x30)) <|
        L.load (.one (.int .i64)) ((⟨b22, 0, none⟩ : Addr).add 1) fun (x31 : Int) =>
        L.unmark Pr (d9 ++ []) <|
        K (.tuple #[.int .i64 x31, .bool true])) <|
      again19 (IntKind.wrap .i64 (y18.1 + 1), ())) <|
    L.unmark Pr (d9 ++ []) <|
    K (.tuple #[.int .i64 0, .bool false])) (
    L.unmark Pr (d9 ++ []) <|
    K (.tuple #[.int .i64 0, .bool false])) []
theorem D_fleet_Fleet_Take (p0 : Option Addr) (p1 : ByteArray) (p2 : Int) (K : Value → PT) : denF Pr Dt Tryz.f55 A_fleet_Fleet_Take [.v (.pointer p0), .v (.string p1), .v (.int .i64 p2)] K = F_fleet_Fleet_Take p0 p1 p2 K := by kernel_rfl
theorem C_fleet_Fleet_Take (p0 : Option Addr) (p1 : ByteArray) (p2 : Int) {K : Value → PT} {w : World} (h : F_fleet_Fleet_Take p0 p1 p2 K w) : Calls Pr n_fleet_Fleet_Take [.pointer p0, .string p1, .int .i64 p2].toArray w fun e w2 => ∃ v, e = .returned v ∧ K v w2 :=
  denF_ok Tok (f := 55) (fn := Tryz.f55) (an := A_fleet_Fleet_Take) (args := [.v (.pointer p0), .v (.string p1), .v (.int .i64 p2)]) (by kernel_rfl) (by kernel_rfl) ((congrFun (D_fleet_Fleet_Take p0 p1 p2 K) w).mpr h)
theorem E_fleet_Fleet_Take : Enters Pr n_fleet_Fleet_Take := enters_of_B (by kernel_rfl)

def A_wait_row_int_has : Ann := (.seq .auto (.seq (.seq .auto (.seq .auto .auto (some [(8, (.one (.int .i64))), (9, (.one (.int .i64)))])) none) .auto none) none)
/-- (*damper/wait.row[int]).has -/
def F_wait_row_int_has (p0 : Option Addr) (p1 : Int) (K : Value → PT) : PT :=
  L.new [.int .i64 p1] T_int fun b1 =>
  L.new [.bool false] T_bool fun b2 =>
  L.call Pr n_wait_row_int_each [.pointer p0] (.one (.one (.func))) fun (x3 : FV) =>
  L.range Pr none (.func x3.fn x3.fs x3.cs) [(.one (.int .i64)), (.one (.int .i64))] (fun l4 (y5 : Int × Int × Unit) R6 =>
    L.begin Pr l4 <|
    L.load (.one (.int .i64)) (⟨b1, 0, none⟩) fun (x9 : Int) =>
    L.ite (y5.1 == x9) (
      L.store (⟨b2, 0, none⟩) [.bool true] <|
      L.endRound Pr l4 (some .ret) R6) <|
    L.endRound Pr l4 none R6) fun d7 j8 =>
  L.jump j8 (
    L.store (⟨b2, 0, none⟩) [.bool false] <|
    L.unmark Pr (d7 ++ []) <|
    L.load (.one (.bool)) (⟨b2, 0, none⟩) fun (x10 : Bool) =>
    K (.bool x10)) (
    L.unmark Pr (d7 ++ []) <|
    L.load (.one (.bool)) (⟨b2, 0, none⟩) fun (x11 : Bool) =>
    K (.bool x11)) []
theorem D_wait_row_int_has (p0 : Option Addr) (p1 : Int) (K : Value → PT) : denF Pr Dt Tryz.f56 A_wait_row_int_has [.v (.pointer p0), .v (.int .i64 p1)] K = F_wait_row_int_has p0 p1 K := by kernel_rfl
theorem C_wait_row_int_has (p0 : Option Addr) (p1 : Int) {K : Value → PT} {w : World} (h : F_wait_row_int_has p0 p1 K w) : Calls Pr n_wait_row_int_has [.pointer p0, .int .i64 p1].toArray w fun e w2 => ∃ v, e = .returned v ∧ K v w2 :=
  denF_ok Tok (f := 56) (fn := Tryz.f56) (an := A_wait_row_int_has) (args := [.v (.pointer p0), .v (.int .i64 p1)]) (by kernel_rfl) (by kernel_rfl) ((congrFun (D_wait_row_int_has p0 p1 K) w).mpr h)
theorem E_wait_row_int_has : Enters Pr n_wait_row_int_has := enters_of_B (by kernel_rfl)

def A_wait_row_int_each : Ann := .auto
/-- (*damper/wait.row[int]).each -/
def F_wait_row_int_each (p0 : Option Addr) (K : Value → PT) : PT :=
  L.new [.pointer p0] T_p_wait_row_int fun b1 =>
  K (.func (.func n_wait_row_int_each_1) #[] #[.pointer (some (⟨b1, 0, none⟩))])
theorem D_wait_row_int_each (p0 : Option Addr) (K : Value → PT) : denF Pr Dt Tryz.f57 A_wait_row_int_each [.v (.pointer p0)] K = F_wait_row_int_each p0 K := by kernel_rfl
theorem C_wait_row_int_each (p0 : Option Addr) {K : Value → PT} {w : World} (h : F_wait_row_int_each p0 K w) : Calls Pr n_wait_row_int_each [.pointer p0].toArray w fun e w2 => ∃ v, e = .returned v ∧ K v w2 :=
  denF_ok Tok (f := 57) (fn := Tryz.f57) (an := A_wait_row_int_each) (args := [.v (.pointer p0)]) (by kernel_rfl) (by kernel_rfl) ((congrFun (D_wait_row_int_each p0 K) w).mpr h)
theorem E_wait_row_int_each : Enters Pr n_wait_row_int_each := enters_of_B (by kernel_rfl)

def A_slices_Sorted_int : Ann := .auto
/-- slices.Sorted[int] -/
def F_slices_Sorted_int (p0 : FV) (K : Value → PT) : PT :=
  L.call Pr n_slices_Collect_int [.func p0.fn p0.fs p0.cs] (.one (.one (.slice))) fun (x1 : Sl) =>
  L.call Pr n_slices_Sort_int_int [.slice x1.a x1.len x1.cap] (.tup []) fun (x2 : Unit) =>
  K (.slice x1.a x1.len x1.cap)
theorem D_slices_Sorted_int (p0 : FV) (K : Value → PT) : denF Pr Dt Tryz.f58 A_slices_Sorted_int [.v (.func p0.fn p0.fs p0.cs)] K = F_slices_Sorted_int p0 K := by kernel_rfl
theorem C_slices_Sorted_int (p0 : FV) {K : Value → PT} {w : World} (h : F_slices_Sorted_int p0 K w) : Calls Pr n_slices_Sorted_int [.func p0.fn p0.fs p0.cs].toArray w fun e w2 => ∃ v, e = .returned v ∧ K v w2 :=
  denF_ok Tok (f := 58) (fn := Tryz.f58) (an := A_slices_Sorted_int) (args := [.v (.func p0.fn p0.fs p0.cs)]) (by kernel_rfl) (by kernel_rfl) ((congrFun (D_slices_Sorted_int p0 K) w).mpr h)
theorem E_slices_Sorted_int : Enters Pr n_slices_Sorted_int := enters_of_B (by kernel_rfl)

def A_maps_Keys_map_int_bool_int_bool : Ann := .auto
/-- maps.Keys[map[int]bool,int,bool] -/
def F_maps_Keys_map_int_bool_int_bool (p0 : Option Nat) (K : Value → PT) : PT :=
  L.new [.map p0] T_map_int_bool fun b1 =>
  K (.func (.func n_maps_Keys_map_int_bool_int_bool_1) #[] #[.pointer (some (⟨b1, 0, none⟩))])
theorem D_maps_Keys_map_int_bool_int_bool (p0 : Option Nat) (K : Value → PT) : denF Pr Dt Tryz.f59 A_maps_Keys_map_int_bool_int_bool [.v (.map p0)] K = F_maps_Keys_map_int_bool_int_bool p0 K := by kernel_rfl
theorem C_maps_Keys_map_int_bool_int_bool (p0 : Option Nat) {K : Value → PT} {w : World} (h : F_maps_Keys_map_int_bool_int_bool p0 K w) : Calls Pr n_maps_Keys_map_int_bool_int_bool [.map p0].toArray w fun e w2 => ∃ v, e = .returned v ∧ K v w2 :=
  denF_ok Tok (f := 59) (fn := Tryz.f59) (an := A_maps_Keys_map_int_bool_int_bool) (args := [.v (.map p0)]) (by kernel_rfl) (by kernel_rfl) ((congrFun (D_maps_Keys_map_int_bool_int_bool p0 K) w).mpr h)
theorem E_maps_Keys_map_int_bool_int_bool : Enters Pr n_maps_Keys_map_int_bool_int_bool := enters_of_B (by kernel_rfl)

def A_pod_bag_int_take : Ann := .auto
/-- (*damper/pod.bag[int]).take -/
def F_pod_bag_int_take (p0 : Option Addr) (p1 : Int) (K : Value → PT) : PT :=
  L.nonnil p0 fun a1 =>
  L.load (.one (.map)) (a1.add 0) fun (x2 : Option Nat) =>
  L.semR Pr (.one (.one (.bool))) (Instr.lookup T_map_int_bool (.map x2) (.int .i64 p1) false) fun (x3 : Bool) =>
  L.ite (!x3) (
    K (.int .i64 6)) <|
  L.nonnil p0 fun a4 =>
  L.load (.one (.map)) (a4.add 0) fun (x5 : Option Nat) =>
  L.sem Pr (.tup []) (Builtin.delete_ #[T_map_int_bool, T_int] T_ #[.map x5, .int .i64 p1]) fun _ =>
  K (.int .i64 0)
theorem D_pod_bag_int_take (p0 : Option Addr) (p1 : Int) (K : Value → PT) : denF Pr Dt Tryz.f60 A_pod_bag_int_take [.v (.pointer p0), .v (.int .i64 p1)] K = F_pod_bag_int_take p0 p1 K := by kernel_rfl
theorem C_pod_bag_int_take (p0 : Option Addr) (p1 : Int) {K : Value → PT} {w : World} (h : F_pod_bag_int_take p0 p1 K w) : Calls Pr n_pod_bag_int_take [.pointer p0, .int .i64 p1].toArray w fun e w2 => ∃ v, e = .returned v ∧ K v w2 :=
  denF_ok Tok (f := 60) (fn := Tryz.f60) (an := A_pod_bag_int_take) (args := [.v (.pointer p0), .v (.int .i64 p1)]) (by kernel_rfl) (by kernel_rfl) ((congrFun (D_pod_bag_int_take p0 p1 K) w).mpr h)
theorem E_pod_bag_int_take : Enters Pr n_pod_bag_int_take := enters_of_B (by kernel_rfl)

def A_pod_Pod_Give : Ann := .auto
/-- (*damper/pod.Pod).Give -/
def F_pod_Pod_Give (p0 : Option Addr) (p1 : Int) (K : Value → PT) : PT :=
  L.nonnil p0 fun a1 =>
  L.call Pr n_pod_bag_int_take [.pointer (some (a1.add 1)), .int .i64 p1] (.one (.one (.int .i64))) fun (x2 : Int) =>
  L.call Pr n_pod_Pod_end [.pointer p0] (.tup []) fun (x3 : Unit) =>
  K (.int .i64 x2)
theorem D_pod_Pod_Give (p0 : Option Addr) (p1 : Int) (K : Value → PT) : denF Pr Dt Tryz.f61 A_pod_Pod_Give [.v (.pointer p0), .v (.int .i64 p1)] K = F_pod_Pod_Give p0 p1 K := by kernel_rfl
theorem C_pod_Pod_Give (p0 : Option Addr) (p1 : Int) {K : Value → PT} {w : World} (h : F_pod_Pod_Give p0 p1 K w) : Calls Pr n_pod_Pod_Give [.pointer p0, .int .i64 p1].toArray w fun e w2 => ∃ v, e = .returned v ∧ K v w2 :=
  denF_ok Tok (f := 61) (fn := Tryz.f61) (an := A_pod_Pod_Give) (args := [.v (.pointer p0), .v (.int .i64 p1)]) (by kernel_rfl) (by kernel_rfl) ((congrFun (D_pod_Pod_Give p0 p1 K) w).mpr h)
theorem E_pod_Pod_Give : Enters Pr n_pod_Pod_Give := enters_of_B (by kernel_rfl)

def A_fleet_Fleet_of_1 : Ann := (.seq .auto (.one [(14, (.one (.int .i64)))] (.seq .auto (.seq .auto (.seq (.seq .auto (.seq .auto (.seq .auto (.cond .auto .auto) none) none) none) .auto (some [])) none) none)) none)
/-- (*damper/fleet.Fleet).of$1 -/
def F_fleet_Fleet_of_1 (p0 : FV) (c0 : Addr) (c1 : Addr) (K : Value → PT) : PT :=
  L.load (.one (.ptr)) c0 fun (x1 : Option Addr) =>
  L.nonnil x1 fun a2 =>
  L.load (.one (.map)) (a2.add 0) fun (x3 : Option Nat) =>
  L.call Pr n_maps_Keys_map_int_fleet_one_int_fleet_one [.map x3] (.one (.one (.func))) fun (x4 : FV) =>
  L.call Pr n_slices_Sorted_int [.func x4.fn x4.fs x4.cs] (.one (.one (.slice))) fun (x5 : Sl) =>
  L.loop (Y := Int × Unit) (0, ()) fun y6 again7 =>
  L.ite (decide (y6.1 < ((x5.len : Nat) : Int))) (
    L.join (Y := Unit) (fun k8 =>
      L.idx x5.a y6.1 x5.len 1 fun a10 =>
      L.load (.one (.int .i64)) a10 fun (x11 : Int) =>
      L.load (.one (.ptr)) c0 fun (x12 : Option Addr) =>
      L.nonnil x12 fun a13 =>
      L.load (.one (.map)) (a13.add 0) fun (x14 : Option Nat) =>
      L.semR Pr (.one (.agg [.str, .ptr])) (Instr.lookup T_map_int_fleet_one (.map x14) (.int .i64 x11) false) fun (x15 : ByteArray × Option Addr × Unit) =>
      L.new [.string s_, .pointer none] T_fleet_one fun b16 =>
      L.store (⟨b16, 0, none⟩) [.string x15.1, .pointer x15.2.1] <|
      L.load (.one (.str)) ((⟨b16, 0, none⟩ : Addr).add 0) fun (x17 : ByteArray) =>
      L.load (.one (.str)) c1 fun (x18 : ByteArray) =>
      L.ite (x17.toList == x18.toList) (
        L.load (.one (.ptr)) ((⟨b16, 0, none⟩ : Addr).add 1) fun (x19 : Option Addr) =>
        L.callV Pr (.func p0.fn p0.fs p0.cs) [.int .i64 x11, .pointer x19] (.one (.one (.bool))) fun (x20 : Bool) =>
        L.ite (!x20) (
          K (.tuple #[])) <|
        k8 (())) <|
      k8 (())) fun z9 =>
    again7 (IntKind.wrap .i64 (y6.1 + 1), ())) <|
  K (.tuple #[])
theorem D_fleet_Fleet_of_1 (p0 : FV) (c0 : Addr) (c1 : Addr) (K : Value → PT) : denF Pr Dt Tryz.f64 A_fleet_Fleet_of_1 [.v (.func p0.fn p0.fs p0.cs), .v (.pointer (some c0)), .v (.pointer (some c1))] K = F_fleet_Fleet_of_1 p0 c0 c1 K := by kernel_rfl
theorem C_fleet_Fleet_of_1 (p0 : FV) (c0 : Addr) (c1 : Addr) {K : Value → PT} {w : World} (h : F_fleet_Fleet_of_1 p0 c0 c1 K w) : Calls Pr n_fleet_Fleet_of_1 [.func p0.fn p0.fs p0.cs, .pointer (some c0), .pointer (some c1)].toArray w fun e w2 => ∃ v, e = .returned v ∧ K v w2 :=
  denF_ok Tok (f := 64) (fn := Tryz.f64) (an := A_fleet_Fleet_of_1) (args := [.v (.func p0.fn p0.fs p0.cs), .v (.pointer (some c0)), .v (.pointer (some c1))]) (by kernel_rfl) (by kernel_rfl) ((congrFun (D_fleet_Fleet_of_1 p0 c0 c1 K) w).mpr h)
theorem E_fleet_Fleet_of_1 : Enters Pr n_fleet_Fleet_of_1 := enters_of_B (by kernel_rfl)

def A_maps_Keys_map_int_fleet_one_int_fleet_one : Ann := .auto
/-- maps.Keys[map[int]damper/fleet.one,int,damper/fleet.one] -/
def F_maps_Keys_map_int_fleet_one_int_fleet_one (p0 : Option Nat) (K : Value → PT) : PT :=
  L.new [.map p0] T_map_int_fleet_one fun b1 =>
  K (.func (.func n_maps_Keys_map_int_fleet_one_int_fleet_one_1) #[] #[.pointer (some (⟨b1, 0, none⟩))])
theorem D_maps_Keys_map_int_fleet_one_int_fleet_one (p0 : Option Nat) (K : Value → PT) : denF Pr Dt Tryz.f65 A_maps_Keys_map_int_fleet_one_int_fleet_one [.v (.map p0)] K = F_maps_Keys_map_int_fleet_one_int_fleet_one p0 K := by kernel_rfl
theorem C_maps_Keys_map_int_fleet_one_int_fleet_one (p0 : Option Nat) {K : Value → PT} {w : World} (h : F_maps_Keys_map_int_fleet_one_int_fleet_one p0 K w) : Calls Pr n_maps_Keys_map_int_fleet_one_int_fleet_one [.map p0].toArray w fun e w2 => ∃ v, e = .returned v ∧ K v w2 :=
  denF_ok Tok (f := 65) (fn := Tryz.f65) (an := A_maps_Keys_map_int_fleet_one_int_fleet_one) (args := [.v (.map p0)]) (by kernel_rfl) (by kernel_rfl) ((congrFun (D_maps_Keys_map_int_fleet_one_int_fleet_one p0 K) w).mpr h)
theorem E_maps_Keys_map_int_fleet_one_int_fleet_one : Enters Pr n_maps_Keys_map_int_fleet_one_int_fleet_one := enters_of_B (by kernel_rfl)

def A_slices_Collect_string : Ann := .auto
/-- slices.Collect[string] -/
def F_slices_Collect_string (p0 : FV) (K : Value → PT) : PT :=
  L.call Pr n_slices_AppendSeq_string_string [.slice none 0 0, .func p0.fn p0.fs p0.cs] (.one (.one (.slice))) fun (x1 : Sl) =>
  K (.slice x1.a x1.len x1.cap)
theorem D_slices_Collect_string (p0 : FV) (K : Value → PT) : denF Pr Dt Tryz.f66 A_slices_Collect_string [.v (.func p0.fn p0.fs p0.cs)] K = F_slices_Collect_string p0 K := by kernel_rfl
theorem C_slices_Collect_string (p0 : FV) {K : Value → PT} {w : World} (h : F_slices_Collect_string p0 K w) : Calls Pr n_slices_Collect_string [.func p0.fn p0.fs p0.cs].toArray w fun e w2 => ∃ v, e = .returned v ∧ K v w2 :=
  denF_ok Tok (f := 66) (fn := Tryz.f66) (an := A_slices_Collect_string) (args := [.v (.func p0.fn p0.fs p0.cs)]) (by kernel_rfl) (by kernel_rfl) ((congrFun (D_slices_Collect_string p0 K) w).mpr h)
theorem E_slices_Collect_string : Enters Pr n_slices_Collect_string := enters_of_B (by kernel_rfl)

def A_maps_Keys_map_string_wait_Line_string_wait_Line_1 : Ann := (.seq .auto (.one [] (.seq .auto (.seq (.cond .auto .auto) .auto none) none)) none)
/-- maps.Keys[map[string]*damper/wait.Line,string,*damper/wait.Line]$1 -/
def F_maps_Keys_map_string_wait_Line_string_wait_Line_1 (p0 : FV) (c0 : Addr) (K : Value → PT) : PT :=
  L.load (.one (.map)) c0 fun (x1 : Option Nat) =>
  L.sem Pr (.one (.one .ptr)) (Instr.range T_map_string_p_wait_Line (.map x1)) fun (it2 : Option Addr) =>
  L.loop (Y := Unit) (()) fun y3 again4 =>
  L.next Pr [(.one (.str)), (.one (.ptr))] (Instr.next (.pointer it2) false T_) (
    K (.tuple #[])) fun (x5 : ByteArray × Option Addr × Unit) =>
  L.sem Pr (.tup [(.one (.str)), (.one (.ptr))]) (Instr.entry (.pointer it2)) fun (x6 : ByteArray × Option Addr × Unit) =>
  L.callV Pr (.func p0.fn p0.fs p0.cs) [.string x6.1] (.one (.one (.bool))) fun (x7 : Bool) =>
  L.ite (!x7) (
    K (.tuple #[])) <|
  again4 (())
theorem D_maps_Keys_map_string_wait_Line_string_wait_Line_1 (p0 : FV) (c0 : Addr) (K : Value → PT) : denF Pr Dt Tryz.f68 A_maps_Keys_map_string_wait_Line_string_wait_Line_1 [.v (.func p0.fn p0.fs p0.cs), .v (.pointer (some c0))] K = F_maps_Keys_map_string_wait_Line_string_wait_Line_1 p0 c0 K := by kernel_rfl
theorem C_maps_Keys_map_string_wait_Line_string_wait_Line_1 (p0 : FV) (c0 : Addr) {K : Value → PT} {w : World} (h : F_maps_Keys_map_string_wait_Line_string_wait_Line_1 p0 c0 K w) : Calls Pr n_maps_Keys_map_string_wait_Line_string_wait_Line_1 [.func p0.fn p0.fs p0.cs, .pointer (some c0)].toArray w fun e w2 => ∃ v, e = .returned v ∧ K v w2 :=
  denF_ok Tok (f := 68) (fn := Tryz.f68) (an := A_maps_Keys_map_string_wait_Line_string_wait_Line_1) (args := [.v (.func p0.fn p0.fs p0.cs), .v (.pointer (some c0))]) (by kernel_rfl) (by kernel_rfl) ((congrFun (D_maps_Keys_map_string_wait_Line_string_wait_Line_1 p0 c0 K) w).mpr h)
theorem E_maps_Keys_map_string_wait_Line_string_wait_Line_1 : Enters Pr n_maps_Keys_map_string_wait_Line_string_wait_Line_1 := enters_of_B (by kernel_rfl)

def A_slices_SortStableFunc_fleet_choice_fleet_choice : Ann := .auto
/-- slices.SortStableFunc[[]damper/fleet.choice,damper/fleet.choice] -/
def F_slices_SortStableFunc_fleet_choice_fleet_choice (p0 : Sl) (p1 : FV) (K : Value → PT) : PT :=
  L.call Pr n_slices_stableCmpFunc_fleet_choice [.slice p0.a p0.len p0.cap, .int .i64 ((p0.len : Nat) : Int), .func p1.fn p1.fs p1.cs] (.tup []) fun (x1 : Unit) =>
  K (.tuple #[])
theorem D_slices_SortStableFunc_fleet_choice_fleet_choice (p0 : Sl) (p1 : FV) (K : Value → PT) : denF Pr Dt Tryz.f69 A_slices_SortStableFunc_fleet_choice_fleet_choice [.v (.slice p0.a p0.len p0.cap), .v (.func p1.fn p1.fs p1.cs)] K = F_slices_SortStableFunc_fleet_choice_fleet_choice p0 p1 K := by kernel_rfl
theorem C_slices_SortStableFunc_fleet_choice_fleet_choice (p0 : Sl) (p1 : FV) {K : Value → PT} {w : World} (h : F_slices_SortStableFunc_fleet_choice_fleet_choice p0 p1 K w) : Calls Pr n_slices_SortStableFunc_fleet_choice_fleet_choice [.slice p0.a p0.len p0.cap, .func p1.fn p1.fs p1.cs].toArray w fun e w2 => ∃ v, e = .returned v ∧ K v w2 :=
  denF_ok Tok (f := 69) (fn := Tryz.f69) (an := A_slices_SortStableFunc_fleet_choice_fleet_choice) (args := [.v (.slice p0.a p0.len p0.cap), .v (.func p1.fn p1.fs p1.cs)]) (by kernel_rfl) (by kernel_rfl) ((congrFun (D_slices_SortStableFunc_fleet_choice_fleet_choice p0 p1 K) w).mpr h)
theorem E_slices_SortStableFunc_fleet_choice_fleet_choice : Enters Pr n_slices_SortStableFunc_fleet_choice_fleet_choice := enters_of_B (by kernel_rfl)

def A_fleet_Fleet_Take_1 : Ann := .auto
/-- (*damper/fleet.Fleet).Take$1 -/
def F_fleet_Fleet_Take_1 (p0 : HT [.int .i64, .int .i64]) (p1 : HT [.int .i64, .int .i64]) (K : Value → PT) : PT :=
  L.new [.int .i64 p0.1, .int .i64 p0.2.1] T_fleet_choice fun b1 =>
  L.new [.int .i64 p1.1, .int .i64 p1.2.1] T_fleet_choice fun b2 =>
  L.load (.one (.int .i64)) ((⟨b1, 0, none⟩ : Addr).add 0) fun (x3 : Int) =>
  L.load (.one (.int .i64)) ((⟨b2, 0, none⟩ : Addr).add 0) fun (x4 : Int) =>
  K (.int .i64 (IntKind.wrap .i64 (x3 - x4)))
theorem D_fleet_Fleet_Take_1 (p0 : HT [.int .i64, .int .i64]) (p1 : HT [.int .i64, .int .i64]) (K : Value → PT) : denF Pr Dt Tryz.f70 A_fleet_Fleet_Take_1 [.ag [.int .i64 p0.1, .int .i64 p0.2.1], .ag [.int .i64 p1.1, .int .i64 p1.2.1]] K = F_fleet_Fleet_Take_1 p0 p1 K := by kernel_rfl
theorem C_fleet_Fleet_Take_1 (p0 : HT [.int .i64, .int .i64]) (p1 : HT [.int .i64, .int .i64]) {K : Value → PT} {w : World} (h : F_fleet_Fleet_Take_1 p0 p1 K w) : Calls Pr n_fleet_Fleet_Take_1 [(.ag [.int .i64 p0.1, .int .i64 p0.2.1] : SV).toV, (.ag [.int .i64 p1.1, .int .i64 p1.2.1] : SV).toV].toArray w fun e w2 => ∃ v, e = .returned v ∧ K v w2 :=
  denF_ok Tok (f := 70) (fn := Tryz.f70) (an := A_fleet_Fleet_Take_1) (args := [.ag [.int .i64 p0.1, .int .i64 p0.2.1], .ag [.int .i64 p1.1, .int .i64 p1.2.1]]) (by kernel_rfl) (by kernel_rfl) ((congrFun (D_fleet_Fleet_Take_1 p0 p1 K) w).mpr h)
theorem E_fleet_Fleet_Take_1 : Enters Pr n_fleet_Fleet_Take_1 := enters_of_B (by kernel_rfl)

def A_pod_Pod_Take : Ann := .auto
/-- (*damper/pod.Pod).Take -/
def F_pod_Pod_Take (p0 : Option Addr) (p1 : Int) (K : Value → PT) : PT :=
  L.nonnil p0 fun a1 =>
  L.load (.one (.int .i64)) (a1.add 0) fun (x2 : Int) =>
  L.ite (x2 != 2) (
    K (.int .i64 9)) <|
  L.nonnil p0 fun a3 =>
  L.call Pr n_pod_bag_int_put [.pointer (some (a3.add 1)), .int .i64 p1] (.one (.one (.int .i64))) fun (x4 : Int) =>
  K (.int .i64 x4)
theorem D_pod_Pod_Take (p0 : Option Addr) (p1 : Int) (K : Value → PT) : denF Pr Dt Tryz.f71 A_pod_Pod_Take [.v (.pointer p0), .v (.int .i64 p1)] K = F_pod_Pod_Take p0 p1 K := by kernel_rfl
theorem C_pod_Pod_Take (p0 : Option Addr) (p1 : Int) {K : Value → PT} {w : World} (h : F_pod_Pod_Take p0 p1 K w) : Calls Pr n_pod_Pod_Take [.pointer p0, .int .i64 p1].toArray w fun e w2 => ∃ v, e = .returned v ∧ K v w2 :=
  denF_ok Tok (f := 71) (fn := Tryz.f71) (an := A_pod_Pod_Take) (args := [.v (.pointer p0), .v (.int .i64 p1)]) (by kernel_rfl) (by kernel_rfl) ((congrFun (D_pod_Pod_Take p0 p1 K) w).mpr h)
theorem E_pod_Pod_Take : Enters Pr n_pod_Pod_Take := enters_of_B (by kernel_rfl)

def A_wait_row_int_each_1 : Ann := (.seq .auto (.one [(10, (.one (.int .i64)))] .auto) none)
/-- (*damper/wait.row[int]).each$1 -/
def F_wait_row_int_each_1 (p0 : FV) (c0 : Addr) (K : Value → PT) : PT :=
  L.load (.one (.ptr)) c0 fun (x1 : Option Addr) =>
  L.nonnil x1 fun a2 =>
  L.load (.one (.slice)) (a2.add 0) fun (x3 : Sl) =>
  L.loop (Y := Int × Unit) (0, ()) fun y4 again5 =>
  L.ite (decide (y4.1 < ((x3.len : Nat) : Int))) (
    L.idx x3.a y4.1 x3.len 2 fun a6 =>
    L.load (.agg [.int .i64, .int .i64]) a6 fun (x7 : Int × Int × Unit) =>
    L.new [.int .i64 0, .int .i64 0] T_wait_held_int fun b8 =>
    L.store (⟨b8, 0, none⟩) [.int .i64 x7.1, .int .i64 x7.2.1] <|
    L.load (.one (.int .i64)) ((⟨b8, 0, none⟩ : Addr).add 0) fun (x9 : Int) =>
    L.load (.one (.int .i64)) ((⟨b8, 0, none⟩ : Addr).add 1) fun (x10 : Int) =>
    L.callV Pr (.func p0.fn p0.fs p0.cs) [.int .i64 x9, .int .i64 x10] (.one (.one (.bool))) fun (x11 : Bool) =>
    L.ite (!x11) (
      K (.tuple #[])) <|
    again5 (IntKind.wrap .i64 (y4.1 + 1), ())) <|
  K (.tuple #[])
theorem D_wait_row_int_each_1 (p0 : FV) (c0 : Addr) (K : Value → PT) : denF Pr Dt Tryz.f72 A_wait_row_int_each_1 [.v (.func p0.fn p0.fs p0.cs), .v (.pointer (some c0))] K = F_wait_row_int_each_1 p0 c0 K := by kernel_rfl
theorem C_wait_row_int_each_1 (p0 : FV) (c0 : Addr) {K : Value → PT} {w : World} (h : F_wait_row_int_each_1 p0 c0 K w) : Calls Pr n_wait_row_int_each_1 [.func p0.fn p0.fs p0.cs, .pointer (some c0)].toArray w fun e w2 => ∃ v, e = .returned v ∧ K v w2 :=
  denF_ok Tok (f := 72) (fn := Tryz.f72) (an := A_wait_row_int_each_1) (args := [.v (.func p0.fn p0.fs p0.cs), .v (.pointer (some c0))]) (by kernel_rfl) (by kernel_rfl) ((congrFun (D_wait_row_int_each_1 p0 c0 K) w).mpr h)
theorem E_wait_row_int_each_1 : Enters Pr n_wait_row_int_each_1 := enters_of_B (by kernel_rfl)

def A_slices_Collect_int : Ann := .auto
/-- slices.Collect[int] -/
def F_slices_Collect_int (p0 : FV) (K : Value → PT) : PT :=
  L.call Pr n_slices_AppendSeq_int_int [.slice none 0 0, .func p0.fn p0.fs p0.cs] (.one (.one (.slice))) fun (x1 : Sl) =>
  K (.slice x1.a x1.len x1.cap)
theorem D_slices_Collect_int (p0 : FV) (K : Value → PT) : denF Pr Dt Tryz.f73 A_slices_Collect_int [.v (.func p0.fn p0.fs p0.cs)] K = F_slices_Collect_int p0 K := by kernel_rfl
theorem C_slices_Collect_int (p0 : FV) {K : Value → PT} {w : World} (h : F_slices_Collect_int p0 K w) : Calls Pr n_slices_Collect_int [.func p0.fn p0.fs p0.cs].toArray w fun e w2 => ∃ v, e = .returned v ∧ K v w2 :=
  denF_ok Tok (f := 73) (fn := Tryz.f73) (an := A_slices_Collect_int) (args := [.v (.func p0.fn p0.fs p0.cs)]) (by kernel_rfl) (by kernel_rfl) ((congrFun (D_slices_Collect_int p0 K) w).mpr h)
theorem E_slices_Collect_int : Enters Pr n_slices_Collect_int := enters_of_B (by kernel_rfl)

def A_maps_Keys_map_int_bool_int_bool_1 : Ann := (.seq .auto (.one [] (.seq .auto (.seq (.cond .auto .auto) .auto none) none)) none)
/-- maps.Keys[map[int]bool,int,bool]$1 -/
def F_maps_Keys_map_int_bool_int_bool_1 (p0 : FV) (c0 : Addr) (K : Value → PT) : PT :=
  L.load (.one (.map)) c0 fun (x1 : Option Nat) =>
  L.sem Pr (.one (.one .ptr)) (Instr.range T_map_int_bool (.map x1)) fun (it2 : Option Addr) =>
  L.loop (Y := Unit) (()) fun y3 again4 =>
  L.next Pr [(.one (.int .i64)), (.one (.bool))] (Instr.next (.pointer it2) false T_) (
    K (.tuple #[])) fun (x5 : Int × Bool × Unit) =>
  L.sem Pr (.tup [(.one (.int .i64)), (.one (.bool))]) (Instr.entry (.pointer it2)) fun (x6 : Int × Bool × Unit) =>
  L.callV Pr (.func p0.fn p0.fs p0.cs) [.int .i64 x6.1] (.one (.one (.bool))) fun (x7 : Bool) =>
  L.ite (!x7) (
    K (.tuple #[])) <|
  again4 (())
theorem D_maps_Keys_map_int_bool_int_bool_1 (p0 : FV) (c0 : Addr) (K : Value → PT) : denF Pr Dt Tryz.f74 A_maps_Keys_map_int_bool_int_bool_1 [.v (.func p0.fn p0.fs p0.cs), .v (.pointer (some c0))] K = F_maps_Keys_map_int_bool_int_bool_1 p0 c0 K := by kernel_rfl
theorem C_maps_Keys_map_int_bool_int_bool_1 (p0 : FV) (c0 : Addr) {K : Value → PT} {w : World} (h : F_maps_Keys_map_int_bool_int_bool_1 p0 c0 K w) : Calls Pr n_maps_Keys_map_int_bool_int_bool_1 [.func p0.fn p0.fs p0.cs, .pointer (some c0)].toArray w fun e w2 => ∃ v, e = .returned v ∧ K v w2 :=
  denF_ok Tok (f := 74) (fn := Tryz.f74) (an := A_maps_Keys_map_int_bool_int_bool_1) (args := [.v (.func p0.fn p0.fs p0.cs), .v (.pointer (some c0))]) (by kernel_rfl) (by kernel_rfl) ((congrFun (D_maps_Keys_map_int_bool_int_bool_1 p0 c0 K) w).mpr h)
theorem E_maps_Keys_map_int_bool_int_bool_1 : Enters Pr n_maps_Keys_map_int_bool_int_bool_1 := enters_of_B (by kernel_rfl)

def A_maps_Keys_map_int_fleet_one_int_fleet_one_1 : Ann := (.seq .auto (.one [] (.seq .auto (.seq (.cond .auto .auto) .auto none) none)) none)
/-- maps.Keys[map[int]damper/fleet.one,int,damper/fleet.one]$1 -/
def F_maps_Keys_map_int_fleet_one_int_fleet_one_1 (p0 : FV) (c0 : Addr) (K : Value → PT) : PT :=
  L.load (.one (.map)) c0 fun (x1 : Option Nat) =>
  L.sem Pr (.one (.one .ptr)) (Instr.range T_map_int_fleet_one (.map x1)) fun (it2 : Option Addr) =>
  L.loop (Y := Unit) (()) fun y3 again4 =>
  L.next Pr [(.one (.int .i64)), (.agg [.str, .ptr])] (Instr.next (.pointer it2) false T_) (
    K (.tuple #[])) fun (x5 : Int × (ByteArray × Option Addr × Unit) × Unit) =>
  L.sem Pr (.tup [(.one (.int .i64)), (.agg [.str, .ptr])]) (Instr.entry (.pointer it2)) fun (x6 : Int × (ByteArray × Option Addr × Unit) × Unit) =>
  L.callV Pr (.func p0.fn p0.fs p0.cs) [.int .i64 x6.1] (.one (.one (.bool))) fun (x7 : Bool) =>
  L.ite (!x7) (
    K (.tuple #[])) <|
  again4 (())
theorem D_maps_Keys_map_int_fleet_one_int_fleet_one_1 (p0 : FV) (c0 : Addr) (K : Value → PT) : denF Pr Dt Tryz.f86 A_maps_Keys_map_int_fleet_one_int_fleet_one_1 [.v (.func p0.fn p0.fs p0.cs), .v (.pointer (some c0))] K = F_maps_Keys_map_int_fleet_one_int_fleet_one_1 p0 c0 K := by kernel_rfl
theorem C_maps_Keys_map_int_fleet_one_int_fleet_one_1 (p0 : FV) (c0 : Addr) {K : Value → PT} {w : World} (h : F_maps_Keys_map_int_fleet_one_int_fleet_one_1 p0 c0 K w) : Calls Pr n_maps_Keys_map_int_fleet_one_int_fleet_one_1 [.func p0.fn p0.fs p0.cs, .pointer (some c0)].toArray w fun e w2 => ∃ v, e = .returned v ∧ K v w2 :=
  denF_ok Tok (f := 86) (fn := Tryz.f86) (an := A_maps_Keys_map_int_fleet_one_int_fleet_one_1) (args := [.v (.func p0.fn p0.fs p0.cs), .v (.pointer (some c0))]) (by kernel_rfl) (by kernel_rfl) ((congrFun (D_maps_Keys_map_int_fleet_one_int_fleet_one_1 p0 c0 K) w).mpr h)
theorem E_maps_Keys_map_int_fleet_one_int_fleet_one_1 : Enters Pr n_maps_Keys_map_int_fleet_one_int_fleet_one_1 := enters_of_B (by kernel_rfl)

def A_slices_AppendSeq_string_string : Ann := (.seq .auto (.seq (.seq .auto (.seq .auto .auto (some [(7, (.one (.str)))])) none) .auto none) none)
/-- slices.AppendSeq[[]string,string] -/
def F_slices_AppendSeq_string_string (p0 : Sl) (p1 : FV) (K : Value → PT) : PT :=
  L.new [.slice p0.a p0.len p0.cap] T_s_string fun b1 =>
  L.range Pr none (.func p1.fn p1.fs p1.cs) [(.one (.str))] (fun l2 (y3 : ByteArray × Unit) R4 =>
    L.begin Pr l2 <|
    L.load (.one (.slice)) (⟨b1, 0, none⟩) fun (x7 : Sl) =>
    L.new [.string y3.1] T_string fun b8 =>
    L.sem Pr (.one (.one .slice)) (Builtin.append_ #[T_s_string, T_s_string] T_s_string #[.slice x7.a x7.len x7.cap, .slice (some ⟨b8, 0, none⟩) 1 1]) fun (s9 : Sl) =>
    L.store (⟨b1, 0, none⟩) [.slice s9.a s9.len s9.cap] <|
    L.endRound Pr l2 none R4) fun d5 j6 =>
  L.jump j6 (
    L.load (.one (.slice)) (⟨b1, 0, none⟩) fun (x10 : Sl) =>
    L.unmark Pr (d5 ++ []) <|
    K (.slice x10.a x10.len x10.cap)) (
    L.unmark Pr (d5 ++ []) <|
    K (.slice none 0 0)) []
theorem D_slices_AppendSeq_string_string (p0 : Sl) (p1 : FV) (K : Value → PT) : denF Pr Dt Tryz.f87 A_slices_AppendSeq_string_string [.v (.slice p0.a p0.len p0.cap), .v (.func p1.fn p1.fs p1.cs)] K = F_slices_AppendSeq_string_string p0 p1 K := by kernel_rfl
theorem C_slices_AppendSeq_string_string (p0 : Sl) (p1 : FV) {K : Value → PT} {w : World} (h : F_slices_AppendSeq_string_string p0 p1 K w) : Calls Pr n_slices_AppendSeq_string_string [.slice p0.a p0.len p0.cap, .func p1.fn p1.fs p1.cs].toArray w fun e w2 => ∃ v, e = .returned v ∧ K v w2 :=
  denF_ok Tok (f := 87) (fn := Tryz.f87) (an := A_slices_AppendSeq_string_string) (args := [.v (.slice p0.a p0.len p0.cap), .v (.func p1.fn p1.fs p1.cs)]) (by kernel_rfl) (by kernel_rfl) ((congrFun (D_slices_AppendSeq_string_string p0 p1 K) w).mpr h)
theorem E_slices_AppendSeq_string_string : Enters Pr n_slices_AppendSeq_string_string := enters_of_B (by kernel_rfl)

def A_slices_stableCmpFunc_fleet_choice : Ann := (.seq .auto (.seq .auto (.seq (.one [(7, (.one (.int .i64))), (8, (.one (.int .i64)))] .auto) (.seq .auto (.one [(6, (.one (.int .i64)))] (.seq .auto (.seq .auto (.seq (.one [(7, (.one (.int .i64))), (8, (.one (.int .i64)))] .auto) (.seq .auto .auto (some [])) none) none) none)) none) none) none) none)
/-- slices.stableCmpFunc[damper/fleet.choice] -/
def F_slices_stableCmpFunc_fleet_choice (p0 : Sl) (p1 : Int) (p2 : FV) (K : Value → PT) : PT :=
  L.loop (Y := Int × Int × Unit) (0, 20, ()) fun y1 again2 =>
  L.ite (decide (y1.2.1 ≤ p1)) (
    L.call Pr n_slices_insertionSortCmpFunc_fleet_choice [.slice p0.a p0.len p0.cap, .int .i64 y1.1, .int .i64 y1.2.1, .func p2.fn p2.fs p2.cs] (.tup []) fun (x3 : Unit) =>
    again2 (y1.2.1, IntKind.wrap .i64 (y1.2.1 + 20), ())) <|
  L.call Pr n_slices_insertionSortCmpFunc_fleet_choice [.slice p0.a p0.len p0.cap, .int .i64 y1.1, .int .i64 p1, .func p2.fn p2.fs p2.cs] (.tup []) fun (x4 : Unit) =>
  L.loop (Y := Int × Unit) (20, ()) fun y5 again6 =>
  L.ite (decide (y5.1 < p1)) (
    L.loop (Y := Int × Int × Unit) (0, IntKind.wrap .i64 (2 * y5.1), ()) fun y7 again8 =>
    L.ite (decide (y7.2.1 ≤ p1)) (
      L.call Pr n_slices_symMergeCmpFunc_fleet_choice [.slice p0.a p0.len p0.cap, .int .i64 y7.1, .int .i64 (IntKind.wrap .i64 (y7.1 + y5.1)), .int .i64 y7.2.1, .func p2.fn p2.fs p2.cs] (.tup []) fun (x9 : Unit) =>
      again8 (y7.2.1, IntKind.wrap .i64 (y7.2.1 + (IntKind.wrap .i64 (2 * y5.1))), ())) <|
    L.join (Y := Unit) (fun k10 =>
      L.ite (decide ((IntKind.wrap .i64 (y7.1 + y5.1)) < p1)) (
        L.call Pr n_slices_symMergeCmpFunc_fleet_choice [.slice p0.a p0.len p0.cap, .int .i64 y7.1, .int .i64 (IntKind.wrap .i64 (y7.1 + y5.1)), .int .i64 p1, .func p2.fn p2.fs p2.cs] (.tup []) fun (x12 : Unit) =>
        k10 (())) <|
      k10 (())) fun z11 =>
    again6 (IntKind.wrap .i64 (y5.1 * 2), ())) <|
  K (.tuple #[])
theorem D_slices_stableCmpFunc_fleet_choice (p0 : Sl) (p1 : Int) (p2 : FV) (K : Value → PT) : denF Pr Dt Tryz.f89 A_slices_stableCmpFunc_fleet_choice [.v (.slice p0.a p0.len p0.cap), .v (.int .i64 p1), .v (.func p2.fn p2.fs p2.cs)] K = F_slices_stableCmpFunc_fleet_choice p0 p1 p2 K := by kernel_rfl
theorem C_slices_stableCmpFunc_fleet_choice (p0 : Sl) (p1 : Int) (p2 : FV) {K : Value → PT} {w : World} (h : F_slices_stableCmpFunc_fleet_choice p0 p1 p2 K w) : Calls Pr n_slices_stableCmpFunc_fleet_choice [.slice p0.a p0.len p0.cap, .int .i64 p1, .func p2.fn p2.fs p2.cs].toArray w fun e w2 => ∃ v, e = .returned v ∧ K v w2 :=
  denF_ok Tok (f := 89) (fn := Tryz.f89) (an := A_slices_stableCmpFunc_fleet_choice) (args := [.v (.slice p0.a p0.len p0.cap), .v (.int .i64 p1), .v (.func p2.fn p2.fs p2.cs)]) (by kernel_rfl) (by kernel_rfl) ((congrFun (D_slices_stableCmpFunc_fleet_choice p0 p1 p2 K) w).mpr h)
theorem E_slices_stableCmpFunc_fleet_choice : Enters Pr n_slices_stableCmpFunc_fleet_choice := enters_of_B (by kernel_rfl)

def A_pod_bag_int_put : Ann := .auto
/-- (*damper/pod.bag[int]).put -/
def F_pod_bag_int_put (p0 : Option Addr) (p1 : Int) (K : Value → PT) : PT :=
  L.nonnil p0 fun a1 =>
  L.load (.one (.map)) (a1.add 0) fun (x2 : Option Nat) =>
  L.semR Pr (.one (.one (.bool))) (Instr.lookup T_map_int_bool (.map x2) (.int .i64 p1) false) fun (x3 : Bool) =>
  L.ite x3 (
    K (.int .i64 5)) <|
  L.draw <|
  L.nonnil p0 fun a4 =>
  L.load (.one (.map)) (a4.add 0) fun (x5 : Option Nat) =>
  L.semR Pr (.one (.one (.int .i64))) (Builtin.len_ #[T_map_int_bool] T_int #[.map x5]) fun (x6 : Int) =>
  L.nonnil p0 fun a7 =>
  L.load (.one (.int .i64)) (a7.add 1) fun (x8 : Int) =>
  L.ite (decide (x6 ≥ x8)) (
    K (.int .i64 8)) <|
  L.nonnil p0 fun a9 =>
  L.load (.one (.map)) (a9.add 0) fun (x10 : Option Nat) =>
  L.semU Pr (Instr.mapUpdate T_map_int_bool (.map x10) (.int .i64 p1) (.bool true)) <|
  K (.int .i64 0)
theorem D_pod_bag_int_put (p0 : Option Addr) (p1 : Int) (K : Value → PT) : denF Pr Dt Tryz.f90 A_pod_bag_int_put [.v (.pointer p0), .v (.int .i64 p1)] K = F_pod_bag_int_put p0 p1 K := by kernel_rfl
theorem C_pod_bag_int_put (p0 : Option Addr) (p1 : Int) {K : Value → PT} {w : World} (h : F_pod_bag_int_put p0 p1 K w) : Calls Pr n_pod_bag_int_put [.pointer p0, .int .i64 p1].toArray w fun e w2 => ∃ v, e = .returned v ∧ K v w2 :=
  denF_ok Tok (f := 90) (fn := Tryz.f90) (an := A_pod_bag_int_put) (args := [.v (.pointer p0), .v (.int .i64 p1)]) (by kernel_rfl) (by kernel_rfl) ((congrFun (D_pod_bag_int_put p0 p1 K) w).mpr h)
theorem E_pod_bag_int_put : Enters Pr n_pod_bag_int_put := enters_of_B (by kernel_rfl)

def A_slices_AppendSeq_int_int : Ann := (.seq .auto (.seq (.seq .auto (.seq .auto .auto (some [(7, (.one (.int .i64)))])) none) .auto none) none)
/-- slices.AppendSeq[[]int,int] -/
def F_slices_AppendSeq_int_int (p0 : Sl) (p1 : FV) (K : Value → PT) : PT :=
  L.new [.slice p0.a p0.len p0.cap] T_s_int fun b1 =>
  L.range Pr none (.func p1.fn p1.fs p1.cs) [(.one (.int .i64))] (fun l2 (y3 : Int × Unit) R4 =>
    L.begin Pr l2 <|
    L.load (.one (.slice)) (⟨b1, 0, none⟩) fun (x7 : Sl) =>
    L.new [.int .i64 y3.1] T_int fun b8 =>
    L.sem Pr (.one (.one .slice)) (Builtin.append_ #[T_s_int, T_s_int] T_s_int #[.slice x7.a x7.len x7.cap, .slice (some ⟨b8, 0, none⟩) 1 1]) fun (s9 : Sl) =>
    L.store (⟨b1, 0, none⟩) [.slice s9.a s9.len s9.cap] <|
    L.endRound Pr l2 none R4) fun d5 j6 =>
  L.jump j6 (
    L.load (.one (.slice)) (⟨b1, 0, none⟩) fun (x10 : Sl) =>
    L.unmark Pr (d5 ++ []) <|
    K (.slice x10.a x10.len x10.cap)) (
    L.unmark Pr (d5 ++ []) <|
    K (.slice none 0 0)) []
theorem D_slices_AppendSeq_int_int (p0 : Sl) (p1 : FV) (K : Value → PT) : denF Pr Dt Tryz.f91 A_slices_AppendSeq_int_int [.v (.slice p0.a p0.len p0.cap), .v (.func p1.fn p1.fs p1.cs)] K = F_slices_AppendSeq_int_int p0 p1 K := by kernel_rfl
theorem C_slices_AppendSeq_int_int (p0 : Sl) (p1 : FV) {K : Value → PT} {w : World} (h : F_slices_AppendSeq_int_int p0 p1 K w) : Calls Pr n_slices_AppendSeq_int_int [.slice p0.a p0.len p0.cap, .func p1.fn p1.fs p1.cs].toArray w fun e w2 => ∃ v, e = .returned v ∧ K v w2 :=
  denF_ok Tok (f := 91) (fn := Tryz.f91) (an := A_slices_AppendSeq_int_int) (args := [.v (.slice p0.a p0.len p0.cap), .v (.func p1.fn p1.fs p1.cs)]) (by kernel_rfl) (by kernel_rfl) ((congrFun (D_slices_AppendSeq_int_int p0 p1 K) w).mpr h)
theorem E_slices_AppendSeq_int_int : Enters Pr n_slices_AppendSeq_int_int := enters_of_B (by kernel_rfl)

def A_slices_insertionSortCmpFunc_fleet_choice : Ann := (.seq .auto (.one [(8, (.one (.int .i64)))] (.seq .auto (.seq (.seq .auto (.one [(9, (.one (.int .i64)))] (.seq (.seq .auto (.cond .auto .auto) none) .auto none)) none) .auto (some [])) none)) none)
/-- slices.insertionSortCmpFunc[damper/fleet.choice] -/
def F_slices_insertionSortCmpFunc_fleet_choice (p0 : Sl) (p1 : Int) (p2 : Int) (p3 : FV) (K : Value → PT) : PT :=
  L.loop (Y := Int × Unit) (IntKind.wrap .i64 (p1 + 1), ()) fun y1 again2 =>
  L.ite (decide (y1.1 < p2)) (
    L.join (Y := Unit) (fun k3 =>
      L.loop (Y := Int × Unit) (y1.1, ()) fun y5 again6 =>
      L.draw <|
      L.ite (decide (y5.1 > p1)) (
        L.idx p0.a y5.1 p0.len 2 fun a7 =>
        L.load (.agg [.int .i64, .int .i64]) a7 fun (x8 : Int × Int × Unit) =>
        L.idx p0.a (IntKind.wrap .i64 (y5.1 - 1)) p0.len 2 fun a9 =>
        L.load (.agg [.int .i64, .int .i64]) a9 fun (x10 : Int × Int × Unit) =>
        L.callV Pr (.func p3.fn p3.fs p3.cs) [.agg #[.int .i64 x8.1, .int .i64 x8.2.1], .agg #[.int .i64 x10.1, .int .i64 x10.2.1]] (.one (.one (.int .i64))) fun (x11 : Int) =>
        L.ite (decide (x11 < 0)) (
          L.draw <|
          L.idx p0.a (IntKind.wrap .i64 (y5.1 - 1)) p0.len 2 fun a12 =>
          L.load (.agg [.int .i64, .int .i64]) a12 fun (x13 : Int × Int × Unit) =>
          L.idx p0.a y5.1 p0.len 2 fun a14 =>
          L.load (.agg [.int .i64, .int .i64]) a14 fun (x15 : Int × Int × Unit) =>
          L.idx p0.a y5.1 p0.len 2 fun a16 =>
          L.store a16 [.int .i64 x13.1, .int .i64 x13.2.1] <|
          L.idx p0.a (IntKind.wrap .i64 (y5.1 - 1)) p0.len 2 fun a17 =>
          L.store a17 [.int .i64 x15.1, .int .i64 x15.2.1] <|
          again6 (IntKind.wrap .i64 (y5.1 - 1), ())) <|
        k3 (())) <|
      k3 (())) fun z4 =>
    again2 (IntKind.wrap .i64 (y1.1 + 1), ())) <|
  K (.tuple #[])
theorem D_slices_insertionSortCmpFunc_fleet_choice (p0 : Sl) (p1 : Int) (p2 : Int) (p3 : FV) (K : Value → PT) : denF Pr Dt Tryz.f107 A_slices_insertionSortCmpFunc_fleet_choice [.v (.slice p0.a p0.len p0.cap), .v (.int .i64 p1), .v (.int .i64 p2), .v (.func p3.fn p3.fs p3.cs)] K = F_slices_insertionSortCmpFunc_fleet_choice p0 p1 p2 p3 K := by kernel_rfl
theorem C_slices_insertionSortCmpFunc_fleet_choice (p0 : Sl) (p1 : Int) (p2 : Int) (p3 : FV) {K : Value → PT} {w : World} (h : F_slices_insertionSortCmpFunc_fleet_choice p0 p1 p2 p3 K w) : Calls Pr n_slices_insertionSortCmpFunc_fleet_choice [.slice p0.a p0.len p0.cap, .int .i64 p1, .int .i64 p2, .func p3.fn p3.fs p3.cs].toArray w fun e w2 => ∃ v, e = .returned v ∧ K v w2 :=
  denF_ok Tok (f := 107) (fn := Tryz.f107) (an := A_slices_insertionSortCmpFunc_fleet_choice) (args := [.v (.slice p0.a p0.len p0.cap), .v (.int .i64 p1), .v (.int .i64 p2), .v (.func p3.fn p3.fs p3.cs)]) (by kernel_rfl) (by kernel_rfl) ((congrFun (D_slices_insertionSortCmpFunc_fleet_choice p0 p1 p2 p3 K) w).mpr h)
theorem E_slices_insertionSortCmpFunc_fleet_choice : Enters Pr n_slices_insertionSortCmpFunc_fleet_choice := enters_of_B (by kernel_rfl)

end Go.Proofs.YthmpbgloifdcnaaGreat
