/- The functions of the program, read as predicates on the world, each with its contract (text G). No conditions beyond those its theorems state. -/
import Derived.Test.YtheikjckdnhdhaaDen18
import Derived.Test.YtheikjckdnhdhaaProg
set_option linter.all false
set_option maxRecDepth 100000
namespace Go.Proofs.Ytheikjckdnhdhaa
open Go.Dm
noncomputable abbrev Pr : Program := Try.prog
abbrev n_main_main : Nat := 0
abbrev n_gosem_cut : Nat := 1
abbrev n_gosem_cut_init : Nat := 2
abbrev n_damperlaw11_FleetRoom : Nat := 3
abbrev n_damperlaw11_FleetDown : Nat := 4
abbrev n_damperlaw11_FleetPicks : Nat := 5
abbrev n_damperlaw11_FleetKnown : Nat := 6
abbrev n_damperlaw11_FleetDrains : Nat := 7
abbrev n_damperlaw11_FleetApart : Nat := 8
abbrev n_damperlaw11_FleetOnce : Nat := 9
abbrev n_damperlaw11_known : Nat := 10
abbrev n_damperlaw11_within : Nat := 11
abbrev n_fleet_New : Nat := 12
abbrev n_damperlaw11_revs : Nat := 13
abbrev n_fleet_Fleet_Scale : Nat := 14
abbrev n_fleet_Fleet_Pods : Nat := 15
abbrev n_fleet_Fleet_Live : Nat := 16
abbrev n_fleet_Fleet_Of : Nat := 17
abbrev n_fleet_Fleet_Up : Nat := 18
abbrev n_fleet_Fleet_Take : Nat := 19
abbrev n_fleet_Fleet_Give : Nat := 20
abbrev n_damperlaw8_Ints : Nat := 21
abbrev n_damperref11_New : Nat := 22
abbrev n_damperref11_Fleet_Scale : Nat := 23
abbrev n_damperref11_Fleet_Up : Nat := 24
abbrev n_damperref11_Fleet_Take : Nat := 25
abbrev n_damperref11_Fleet_Pods : Nat := 26
abbrev n_fleet_Fleet_Kill : Nat := 27
abbrev n_fleet_Fleet_up : Nat := 28
abbrev n_pod_New : Nat := 29
abbrev n_fleet_Fleet_spare : Nat := 30
abbrev n_pod_Pod_Drain : Nat := 31
abbrev n_fleet_Fleet_end : Nat := 32
abbrev n_slices_Clone_int_int : Nat := 33
abbrev n_fleet_Fleet_of : Nat := 34
abbrev n_pod_Pod_State : Nat := 35
abbrev n_pod_Pod_Load : Nat := 36
abbrev n_slices_Clone_fleet_Look_fleet_Look : Nat := 37
abbrev n_pod_Pod_Up : Nat := 38
abbrev n_slices_SortStableFunc_fleet_choice_fleet_choice : Nat := 39
abbrev n_fleet_Fleet_Take_1 : Nat := 40
abbrev n_pod_Pod_Take : Nat := 41
abbrev n_pod_Pod_Give : Nat := 42
abbrev n_damperref11_Fleet_Count : Nat := 43
abbrev n_damperref7_New : Nat := 44
abbrev n_damperref11_Fleet_last : Nat := 45
abbrev n_damperref7_Pod_Drain : Nat := 46
abbrev n_damperref11_Fleet_sweep : Nat := 47
abbrev n_damperref11_Fleet_find : Nat := 48
abbrev n_damperref7_Pod_Up : Nat := 49
abbrev n_damperref11_Fleet_where : Nat := 50
abbrev n_damperref7_Pod_State : Nat := 51
abbrev n_damperref7_Pod_Load : Nat := 52
abbrev n_damperref7_Pod_Take : Nat := 53
abbrev n_pod_Pod_Kill : Nat := 54
abbrev n_pod_Pod_end : Nat := 55
abbrev n_fleet_Fleet_of_1 : Nat := 56
abbrev n_slices_Sorted_int : Nat := 57
abbrev n_maps_Keys_map_int_fleet_one_int_fleet_one : Nat := 58
abbrev n_slices_stableCmpFunc_fleet_choice : Nat := 59
abbrev n_pod_bag_int_put : Nat := 60
abbrev n_pod_bag_int_take : Nat := 61
abbrev n_damperref7_Pod_Has : Nat := 62
abbrev n_maps_Keys_map_int_bool_int_bool : Nat := 63
abbrev n_slices_Collect_int : Nat := 64
abbrev n_slices_Sort_int_int : Nat := 65
abbrev n_maps_Keys_map_int_fleet_one_int_fleet_one_1 : Nat := 66
abbrev n_slices_insertionSortCmpFunc_fleet_choice : Nat := 67
abbrev n_slices_symMergeCmpFunc_fleet_choice : Nat := 68
abbrev n_maps_Keys_map_int_bool_int_bool_1 : Nat := 69
abbrev n_slices_AppendSeq_int_int : Nat := 70
abbrev n_slices_pdqsortOrdered_int : Nat := 71
abbrev n_math_bits_Len : Nat := 72
abbrev n_slices_rotateCmpFunc_fleet_choice : Nat := 73
abbrev n_slices_insertionSortOrdered_int : Nat := 74
abbrev n_slices_heapSortOrdered_int : Nat := 75
abbrev n_slices_breakPatternsOrdered_int : Nat := 76
abbrev n_slices_choosePivotOrdered_int : Nat := 77
abbrev n_slices_reverseRangeOrdered_int : Nat := 78
abbrev n_slices_partialInsertionSortOrdered_int : Nat := 79
abbrev n_cmp_Less_int : Nat := 80
abbrev n_slices_partitionEqualOrdered_int : Nat := 81
abbrev n_slices_partitionOrdered_int : Nat := 82
abbrev n_math_bits_Len32 : Nat := 83
abbrev n_math_bits_Len64 : Nat := 84
abbrev n_slices_swapRangeCmpFunc_fleet_choice : Nat := 85
abbrev n_slices_siftDownOrdered_int : Nat := 86
abbrev n_slices_nextPowerOfTwo : Nat := 87
abbrev n_slices_xorshift_Next : Nat := 88
abbrev n_slices_medianAdjacentOrdered_int : Nat := 89
abbrev n_slices_medianOrdered_int : Nat := 90
abbrev n_cmp_isNaN_int : Nat := 91
abbrev n_slices_order2Ordered_int : Nat := 92
abbrev n_runtime_boundsError_Error : Nat := 93
abbrev n_runtime_boundsError_RuntimeError : Nat := 94
abbrev n_runtime_errorString_Error : Nat := 95
abbrev n_runtime_errorString_RuntimeError : Nat := 96
abbrev n_runtime_plainError_Error : Nat := 97
abbrev n_runtime_plainError_RuntimeError : Nat := 98
abbrev n_runtime_errorAddressString_Error : Nat := 99
abbrev n_runtime_errorAddressString_RuntimeError : Nat := 100
abbrev n_runtime_TypeAssertionError_Error : Nat := 101
abbrev n_runtime_TypeAssertionError_RuntimeError : Nat := 102
abbrev n_runtime_PanicNilError_Error : Nat := 103
abbrev n_runtime_PanicNilError_RuntimeError : Nat := 104
abbrev n_internal_abi_Type_Align : Nat := 105
abbrev n_internal_runtime_maps_unhashableTypeError_Error : Nat := 106
abbrev n_internal_runtime_maps_unhashableTypeError_RuntimeError : Nat := 107
abbrev n_api_Errno_Error : Nat := 108
abbrev n_internal_abi_Kind_String : Nat := 109
abbrev T_ : Nat := 0
abbrev T_func : Nat := 1
abbrev T_int64 : Nat := 2
abbrev T_int : Nat := 3
abbrev T_bool : Nat := 4
abbrev T_uint8 : Nat := 5
abbrev T_abi_BoundsErrorCode : Nat := 6
abbrev T_struct_x_int64_y_int_signed_bo_10ef : Nat := 7
abbrev T_runtime_boundsError : Nat := 8
abbrev T_string : Nat := 9
abbrev T_runtime_errorString : Nat := 10
abbrev T_runtime_plainError : Nat := 11
abbrev T_uintptr : Nat := 12
abbrev T_struct_msg_string_addr_uintptr : Nat := 13
abbrev T_runtime_errorAddressString : Nat := 14
abbrev T_p_runtime_TypeAssertionError : Nat := 15
abbrev T_p_runtime_PanicNilError : Nat := 16
abbrev T_p_abi_Type : Nat := 17
abbrev T_struct_typ_p_abi_Type : Nat := 18
abbrev T_maps_unhashableTypeError : Nat := 19
abbrev T_interface : Nat := 20
abbrev T_int32 : Nat := 21
abbrev T_s_int : Nat := 22
abbrev T_func_bool : Nat := 23
abbrev T_func_int_int_int : Nat := 24
abbrev T_p_fleet_Fleet : Nat := 25
abbrev T_func_int_p_fleet_Fleet : Nat := 26
abbrev T_s_string : Nat := 27
abbrev T_func_s_string : Nat := 28
abbrev T_s_int_s_int : Nat := 29
abbrev T_func_string_int_int_s_int_s_int : Nat := 30
abbrev T_s_fleet_Look : Nat := 31
abbrev T_func_string_s_fleet_Look : Nat := 32
abbrev T_func_int : Nat := 33
abbrev T_func_int_string : Nat := 34
abbrev T_func_int_s_int_bool : Nat := 35
abbrev T_s_bool : Nat := 36
abbrev T_api_Errno : Nat := 37
abbrev T_func_int_api_Errno : Nat := 38
abbrev T_int_bool : Nat := 39
abbrev T_func_string_int_int_bool : Nat := 40
abbrev T_func_int_s_bool_s_int_int_bool : Nat := 41
abbrev T_string_api_Errno : Nat := 42
abbrev T_func_int_string_api_Errno : Nat := 43
abbrev T_func_int_int_s_bool_s_int_bool : Nat := 44
abbrev T_func_s_int_s_int_bool : Nat := 45
abbrev T_struct_Id_int_State_int_Load_int : Nat := 46
abbrev T_fleet_Look : Nat := 47
abbrev T_func_int_bool : Nat := 48
abbrev T_func_int_int_bool : Nat := 49
abbrev T_p_damperref11_Fleet : Nat := 50
abbrev T_func_int_p_damperref11_Fleet : Nat := 51
abbrev T_func_int_int : Nat := 52
abbrev T_s_damperref11_Look : Nat := 53
abbrev T_func_string_s_damperref11_Look : Nat := 54
abbrev T_damperref11_Look : Nat := 55
abbrev T_s_int_api_Errno : Nat := 56
abbrev T_func_int_s_int_api_Errno : Nat := 57
abbrev T_func_s_int_int_bool : Nat := 58
abbrev T_map_int_fleet_one : Nat := 59
abbrev T_map_int_int : Nat := 60
abbrev T_struct_all_map_int_fleet_one_w_fe7c : Nat := 61
abbrev T_fleet_Fleet : Nat := 62
abbrev T_func_string_int : Nat := 63
abbrev T_p_pod_Pod : Nat := 64
abbrev T_func_int_p_pod_Pod : Nat := 65
abbrev T_struct_rev_string_pod_p_pod_Pod : Nat := 66
abbrev T_fleet_one : Nat := 67
abbrev T_func_api_Errno : Nat := 68
abbrev T_func_int_1 : Nat := 69
abbrev T_func_s_int_s_int : Nat := 70
abbrev T_func_func_int_p_pod_Pod_bool : Nat := 71
abbrev T_iter_Seq2_int_p_pod_Pod : Nat := 72
abbrev T_func_string_iter_Seq2_int_p_pod_Pod : Nat := 73
abbrev T_func_s_fleet_Look_s_fleet_Look : Nat := 74
abbrev T_fleet_one_bool : Nat := 75
abbrev T_s_fleet_choice : Nat := 76
abbrev T_struct_load_int_id_int : Nat := 77
abbrev T_fleet_choice : Nat := 78
abbrev T_func_s_fleet_choice_func_fleet_cdf5 : Nat := 79
abbrev T_func_fleet_choice_fleet_choice_int : Nat := 80
abbrev T_s_p_damperref11_Held : Nat := 81
abbrev T_struct_Room_int_N_int_L_s_p_da_dc4a : Nat := 82
abbrev T_damperref11_Fleet : Nat := 83
abbrev T_func_string_int_int_int : Nat := 84
abbrev T_p_damperref11_Held : Nat := 85
abbrev T_p_damperref7_Pod : Nat := 86
abbrev T_func_int_p_damperref7_Pod : Nat := 87
abbrev T_struct_Id_int_Rev_string_P_p_d_6bac : Nat := 88
abbrev T_damperref11_Held : Nat := 89
abbrev T_func_string_p_damperref11_Held : Nat := 90
abbrev T_func_int_p_damperref11_Held : Nat := 91
abbrev T_struct_Conc_int_At_int_L_s_int : Nat := 92
abbrev T_damperref7_Pod : Nat := 93
abbrev T_func_s_int_api_Errno : Nat := 94
abbrev T_map_int_bool : Nat := 95
abbrev T_struct_all_map_int_bool_room_int : Nat := 96
abbrev T_pod_bag_int : Nat := 97
abbrev T_struct_state_int_has_pod_bag_int : Nat := 98
abbrev T_pod_Pod : Nat := 99
abbrev T_func_int_p_pod_Pod_bool : Nat := 100
abbrev T_func_iter_Seq_int_s_int : Nat := 101
abbrev T_func_func_int_bool : Nat := 102
abbrev T_iter_Seq_int : Nat := 103
abbrev T_func_map_int_fleet_one_iter_Seq_int : Nat := 104
abbrev T_func_s_fleet_choice_int_func_f_35ec : Nat := 105
abbrev T_func_map_int_bool_iter_Seq_int : Nat := 106
abbrev T_func_s_int : Nat := 107
abbrev T_func_s_fleet_choice_int_int_fu_3043 : Nat := 108
abbrev T_func_s_fleet_choice_int_int_in_38fa : Nat := 109
abbrev T_p_pod_bag_int : Nat := 110
abbrev T_func_s_int_iter_Seq_int_s_int : Nat := 111
abbrev T_func_s_int_int_int_int : Nat := 112
abbrev T_func_uint_int : Nat := 113
abbrev T_uint : Nat := 114
abbrev T_func_s_int_int_int : Nat := 115
abbrev T_slices_sortedHint : Nat := 116
abbrev T_int_slices_sortedHint : Nat := 117
abbrev T_func_s_int_int_int_int_slices_sortedHint : Nat := 118
abbrev T_func_s_int_int_int_bool : Nat := 119
abbrev T_func_s_int_int_int_int_int : Nat := 120
abbrev T_func_s_int_int_int_int_int_bool : Nat := 121
abbrev T_func_uint32_int : Nat := 122
abbrev T_uint32 : Nat := 123
abbrev T_func_uint64_int : Nat := 124
abbrev T_uint64 : Nat := 125
abbrev T_slices_xorshift : Nat := 126
abbrev T_func_int_uint : Nat := 127
abbrev T_func_uint64 : Nat := 128
abbrev T_func_s_int_int_p_int_int : Nat := 129
abbrev T_p_int : Nat := 130
abbrev T_func_s_int_int_int_int_p_int_int : Nat := 131
abbrev T_p_slices_xorshift : Nat := 132
abbrev T_int_int : Nat := 133
abbrev T_func_s_int_int_int_p_int_int_int : Nat := 134
abbrev T_func_string : Nat := 135
abbrev T_struct__interface_p_abi_Type_c_b8d5 : Nat := 136
abbrev T_runtime_TypeAssertionError : Nat := 137
abbrev T_0_p_runtime_PanicNilError : Nat := 138
abbrev T_struct___0_p_runtime_PanicNilError : Nat := 139
abbrev T_runtime_PanicNilError : Nat := 140
abbrev T_abi_TFlag : Nat := 141
abbrev T_abi_Kind : Nat := 142
abbrev T_func_unsafe_Pointer_unsafe_Pointer_bool : Nat := 143
abbrev T_p_uint8 : Nat := 144
abbrev T_abi_NameOff : Nat := 145
abbrev T_abi_TypeOff : Nat := 146
abbrev T_struct_Size__uintptr_PtrBytes__b10b : Nat := 147
abbrev T_abi_Type : Nat := 148
abbrev T_unsafe_Pointer : Nat := 149
def s_ : ByteArray := ⟨#[]⟩
def s_a_1 : ByteArray := ⟨#[97, 45, 49]⟩
def s_a_2 : ByteArray := ⟨#[97, 45, 50]⟩
def s_b_1 : ByteArray := ⟨#[98, 45, 49]⟩
def ti_0 : TI := ⟨.tuple [], 1, none, none⟩
def ti_1 : TI := ⟨.func, 1, some (.one (.func)), some [.nilFunc]⟩
def ti_2 : TI := ⟨.int .i64, 1, some (.one (.int .i64)), some [.int .i64 0]⟩
def ti_3 : TI := ⟨.int .i64, 1, some (.one (.int .i64)), some [.int .i64 0]⟩
def ti_4 : TI := ⟨.bool, 1, some (.one (.bool)), some [.bool false]⟩
def ti_5 : TI := ⟨.int .u8, 1, some (.one (.int .u8)), some [.int .u8 0]⟩
def ti_6 : TI := ⟨.int .u8, 1, some (.one (.int .u8)), some [.int .u8 0]⟩
def ti_7 : TI := ⟨.struct [(2, 0), (3, 1), (4, 2), (6, 3)], 4, some (.agg [.int .i64, .int .i64, .bool, .int .u8]), some [.int .i64 0, .int .i64 0, .bool false, .int .u8 0]⟩
def ti_8 : TI := ⟨.struct [(2, 0), (3, 1), (4, 2), (6, 3)], 4, some (.agg [.int .i64, .int .i64, .bool, .int .u8]), some [.int .i64 0, .int .i64 0, .bool false, .int .u8 0]⟩
def ti_9 : TI := ⟨.str, 1, some (.one (.str)), some [.string s_]⟩
def ti_10 : TI := ⟨.str, 1, some (.one (.str)), some [.string s_]⟩
def ti_11 : TI := ⟨.str, 1, some (.one (.str)), some [.string s_]⟩
def ti_12 : TI := ⟨.int .u64, 1, some (.one (.int .u64)), some [.int .u64 0]⟩
def ti_13 : TI := ⟨.struct [(9, 0), (12, 1)], 2, some (.agg [.str, .int .u64]), some [.string s_, .int .u64 0]⟩
def ti_14 : TI := ⟨.struct [(9, 0), (12, 1)], 2, some (.agg [.str, .int .u64]), some [.string s_, .int .u64 0]⟩
def ti_15 : TI := ⟨.ptr, 1, some (.one (.ptr)), some [.pointer none]⟩
def ti_16 : TI := ⟨.ptr, 1, some (.one (.ptr)), some [.pointer none]⟩
def ti_17 : TI := ⟨.ptr, 1, some (.one (.ptr)), some [.pointer none]⟩
def ti_18 : TI := ⟨.struct [(17, 0)], 1, some (.agg [.ptr]), some [.pointer none]⟩
def ti_19 : TI := ⟨.struct [(17, 0)], 1, some (.agg [.ptr]), some [.pointer none]⟩
def ti_20 : TI := ⟨.iface, 1, some (.one (.iface)), some [.nilIface]⟩
def ti_21 : TI := ⟨.int .i32, 1, some (.one (.int .i32)), some [.int .i32 0]⟩
def ti_22 : TI := ⟨.slice 3, 1, some (.one (.slice)), some [.slice none 0 0]⟩
def ti_23 : TI := ⟨.func, 1, some (.one (.func)), some [.nilFunc]⟩
def ti_24 : TI := ⟨.func, 1, some (.one (.func)), some [.nilFunc]⟩
def ti_25 : TI := ⟨.ptr, 1, some (.one (.ptr)), some [.pointer none]⟩
def ti_26 : TI := ⟨.func, 1, some (.one (.func)), some [.nilFunc]⟩
def ti_27 : TI := ⟨.slice 9, 1, some (.one (.slice)), some [.slice none 0 0]⟩
def ti_28 : TI := ⟨.func, 1, some (.one (.func)), some [.nilFunc]⟩
def ti_29 : TI := ⟨.tuple [22, 22], 1, none, none⟩
def ti_30 : TI := ⟨.func, 1, some (.one (.func)), some [.nilFunc]⟩
def ti_31 : TI := ⟨.slice 47, 1, some (.one (.slice)), some [.slice none 0 0]⟩
def ti_32 : TI := ⟨.func, 1, some (.one (.func)), some [.nilFunc]⟩
def ti_33 : TI := ⟨.func, 1, some (.one (.func)), some [.nilFunc]⟩
def ti_34 : TI := ⟨.func, 1, some (.one (.func)), some [.nilFunc]⟩
def ti_35 : TI := ⟨.func, 1, some (.one (.func)), some [.nilFunc]⟩
def ti_36 : TI := ⟨.slice 4, 1, some (.one (.slice)), some [.slice none 0 0]⟩
def ti_37 : TI := ⟨.int .i64, 1, some (.one (.int .i64)), some [.int .i64 0]⟩
def ti_38 : TI := ⟨.func, 1, some (.one (.func)), some [.nilFunc]⟩
def ti_39 : TI := ⟨.tuple [3, 4], 1, none, none⟩
def ti_40 : TI := ⟨.func, 1, some (.one (.func)), some [.nilFunc]⟩
def ti_41 : TI := ⟨.func, 1, some (.one (.func)), some [.nilFunc]⟩
def ti_42 : TI := ⟨.tuple [9, 37], 1, none, none⟩
def ti_43 : TI := ⟨.func, 1, some (.one (.func)), some [.nilFunc]⟩
def ti_44 : TI := ⟨.func, 1, some (.one (.func)), some [.nilFunc]⟩
def ti_45 : TI := ⟨.func, 1, some (.one (.func)), some [.nilFunc]⟩
def ti_46 : TI := ⟨.struct [(3, 0), (3, 1), (3, 2)], 3, some (.agg [.int .i64, .int .i64, .int .i64]), some [.int .i64 0, .int .i64 0, .int .i64 0]⟩
def ti_47 : TI := ⟨.struct [(3, 0), (3, 1), (3, 2)], 3, some (.agg [.int .i64, .int .i64, .int .i64]), some [.int .i64 0, .int .i64 0, .int .i64 0]⟩
def ti_48 : TI := ⟨.func, 1, some (.one (.func)), some [.nilFunc]⟩
def ti_49 : TI := ⟨.func, 1, some (.one (.func)), some [.nilFunc]⟩
def ti_50 : TI := ⟨.ptr, 1, some (.one (.ptr)), some [.pointer none]⟩
def ti_51 : TI := ⟨.func, 1, some (.one (.func)), some [.nilFunc]⟩
def ti_52 : TI := ⟨.func, 1, some (.one (.func)), some [.nilFunc]⟩
def ti_53 : TI := ⟨.slice 55, 1, some (.one (.slice)), some [.slice none 0 0]⟩
def ti_54 : TI := ⟨.func, 1, some (.one (.func)), some [.nilFunc]⟩
def ti_55 : TI := ⟨.struct [(3, 0), (3, 1), (3, 2)], 3, some (.agg [.int .i64, .int .i64, .int .i64]), some [.int .i64 0, .int .i64 0, .int .i64 0]⟩
def ti_56 : TI := ⟨.tuple [22, 37], 1, none, none⟩
def ti_57 : TI := ⟨.func, 1, some (.one (.func)), some [.nilFunc]⟩
def ti_58 : TI := ⟨.func, 1, some (.one (.func)), some [.nilFunc]⟩
def ti_59 : TI := ⟨.map 3 67, 1, some (.one (.map)), some [.map none]⟩
def ti_60 : TI := ⟨.map 3 3, 1, some (.one (.map)), some [.map none]⟩
def ti_61 : TI := ⟨.struct [(59, 0), (60, 1), (3, 2), (3, 3)], 4, some (.agg [.map, .map, .int .i64, .int .i64]), some [.map none, .map none, .int .i64 0, .int .i64 0]⟩
def ti_62 : TI := ⟨.struct [(59, 0), (60, 1), (3, 2), (3, 3)], 4, some (.agg [.map, .map, .int .i64, .int .i64]), some [.map none, .map none, .int .i64 0, .int .i64 0]⟩
def ti_63 : TI := ⟨.func, 1, some (.one (.func)), some [.nilFunc]⟩
def ti_64 : TI := ⟨.ptr, 1, some (.one (.ptr)), some [.pointer none]⟩
def ti_65 : TI := ⟨.func, 1, some (.one (.func)), some [.nilFunc]⟩
def ti_66 : TI := ⟨.struct [(9, 0), (64, 1)], 2, some (.agg [.str, .ptr]), some [.string s_, .pointer none]⟩
def ti_67 : TI := ⟨.struct [(9, 0), (64, 1)], 2, some (.agg [.str, .ptr]), some [.string s_, .pointer none]⟩
def ti_68 : TI := ⟨.func, 1, some (.one (.func)), some [.nilFunc]⟩
def ti_69 : TI := ⟨.func, 1, some (.one (.func)), some [.nilFunc]⟩
def ti_70 : TI := ⟨.func, 1, some (.one (.func)), some [.nilFunc]⟩
def ti_71 : TI := ⟨.func, 1, some (.one (.func)), some [.nilFunc]⟩
def ti_72 : TI := ⟨.func, 1, some (.one (.func)), some [.nilFunc]⟩
def ti_73 : TI := ⟨.func, 1, some (.one (.func)), some [.nilFunc]⟩
def ti_74 : TI := ⟨.func, 1, some (.one (.func)), some [.nilFunc]⟩
def ti_75 : TI := ⟨.tuple [67, 4], 1, none, none⟩
def ti_76 : TI := ⟨.slice 78, 1, some (.one (.slice)), some [.slice none 0 0]⟩
def ti_77 : TI := ⟨.struct [(3, 0), (3, 1)], 2, some (.agg [.int .i64, .int .i64]), some [.int .i64 0, .int .i64 0]⟩
def ti_78 : TI := ⟨.struct [(3, 0), (3, 1)], 2, some (.agg [.int .i64, .int .i64]), some [.int .i64 0, .int .i64 0]⟩
def ti_79 : TI := ⟨.func, 1, some (.one (.func)), some [.nilFunc]⟩
def ti_80 : TI := ⟨.func, 1, some (.one (.func)), some [.nilFunc]⟩
def ti_81 : TI := ⟨.slice 85, 1, some (.one (.slice)), some [.slice none 0 0]⟩
def ti_82 : TI := ⟨.struct [(3, 0), (3, 1), (81, 2)], 3, some (.agg [.int .i64, .int .i64, .slice]), some [.int .i64 0, .int .i64 0, .slice none 0 0]⟩
def ti_83 : TI := ⟨.struct [(3, 0), (3, 1), (81, 2)], 3, some (.agg [.int .i64, .int .i64, .slice]), some [.int .i64 0, .int .i64 0, .slice none 0 0]⟩
def ti_84 : TI := ⟨.func, 1, some (.one (.func)), some [.nilFunc]⟩
def ti_85 : TI := ⟨.ptr, 1, some (.one (.ptr)), some [.pointer none]⟩
def ti_86 : TI := ⟨.ptr, 1, some (.one (.ptr)), some [.pointer none]⟩
def ti_87 : TI := ⟨.func, 1, some (.one (.func)), some [.nilFunc]⟩
def ti_88 : TI := ⟨.struct [(3, 0), (9, 1), (86, 2)], 3, some (.agg [.int .i64, .str, .ptr]), some [.int .i64 0, .string s_, .pointer none]⟩
def ti_89 : TI := ⟨.struct [(3, 0), (9, 1), (86, 2)], 3, some (.agg [.int .i64, .str, .ptr]), some [.int .i64 0, .string s_, .pointer none]⟩
def ti_90 : TI := ⟨.func, 1, some (.one (.func)), some [.nilFunc]⟩
def ti_91 : TI := ⟨.func, 1, some (.one (.func)), some [.nilFunc]⟩
def ti_92 : TI := ⟨.struct [(3, 0), (3, 1), (22, 2)], 3, some (.agg [.int .i64, .int .i64, .slice]), some [.int .i64 0, .int .i64 0, .slice none 0 0]⟩
def ti_93 : TI := ⟨.struct [(3, 0), (3, 1), (22, 2)], 3, some (.agg [.int .i64, .int .i64, .slice]), some [.int .i64 0, .int .i64 0, .slice none 0 0]⟩
def ti_94 : TI := ⟨.func, 1, some (.one (.func)), some [.nilFunc]⟩
def ti_95 : TI := ⟨.map 3 4, 1, some (.one (.map)), some [.map none]⟩
def ti_96 : TI := ⟨.struct [(95, 0), (3, 1)], 2, some (.agg [.map, .int .i64]), some [.map none, .int .i64 0]⟩
def ti_97 : TI := ⟨.struct [(95, 0), (3, 1)], 2, some (.agg [.map, .int .i64]), some [.map none, .int .i64 0]⟩
def ti_98 : TI := ⟨.struct [(3, 0), (97, 1)], 3, some (.agg [.int .i64, .map, .int .i64]), some [.int .i64 0, .map none, .int .i64 0]⟩
def ti_99 : TI := ⟨.struct [(3, 0), (97, 1)], 3, some (.agg [.int .i64, .map, .int .i64]), some [.int .i64 0, .map none, .int .i64 0]⟩
def ti_100 : TI := ⟨.func, 1, some (.one (.func)), some [.nilFunc]⟩
def ti_101 : TI := ⟨.func, 1, some (.one (.func)), some [.nilFunc]⟩
def ti_102 : TI := ⟨.func, 1, some (.one (.func)), some [.nilFunc]⟩
def ti_103 : TI := ⟨.func, 1, some (.one (.func)), some [.nilFunc]⟩
def ti_104 : TI := ⟨.func, 1, some (.one (.func)), some [.nilFunc]⟩
def ti_105 : TI := ⟨.func, 1, some (.one (.func)), some [.nilFunc]⟩
def ti_106 : TI := ⟨.func, 1, some (.one (.func)), some [.nilFunc]⟩
def ti_107 : TI := ⟨.func, 1, some (.one (.func)), some [.nilFunc]⟩
def ti_108 : TI := ⟨.func, 1, some (.one (.func)), some [.nilFunc]⟩
def ti_109 : TI := ⟨.func, 1, some (.one (.func)), some [.nilFunc]⟩
def ti_110 : TI := ⟨.ptr, 1, some (.one (.ptr)), some [.pointer none]⟩
def ti_111 : TI := ⟨.func, 1, some (.one (.func)), some [.nilFunc]⟩
def ti_112 : TI := ⟨.func, 1, some (.one (.func)), some [.nilFunc]⟩
def ti_113 : TI := ⟨.func, 1, some (.one (.func)), some [.nilFunc]⟩
def ti_114 : TI := ⟨.int .u64, 1, some (.one (.int .u64)), some [.int .u64 0]⟩
def ti_115 : TI := ⟨.func, 1, some (.one (.func)), some [.nilFunc]⟩
def ti_116 : TI := ⟨.int .i64, 1, some (.one (.int .i64)), some [.int .i64 0]⟩
def ti_117 : TI := ⟨.tuple [3, 116], 1, none, none⟩
def ti_118 : TI := ⟨.func, 1, some (.one (.func)), some [.nilFunc]⟩
def ti_119 : TI := ⟨.func, 1, some (.one (.func)), some [.nilFunc]⟩
def ti_120 : TI := ⟨.func, 1, some (.one (.func)), some [.nilFunc]⟩
def ti_121 : TI := ⟨.func, 1, some (.one (.func)), some [.nilFunc]⟩
def ti_122 : TI := ⟨.func, 1, some (.one (.func)), some [.nilFunc]⟩
def ti_123 : TI := ⟨.int .u32, 1, some (.one (.int .u32)), some [.int .u32 0]⟩
def ti_124 : TI := ⟨.func, 1, some (.one (.func)), some [.nilFunc]⟩
def ti_125 : TI := ⟨.int .u64, 1, some (.one (.int .u64)), some [.int .u64 0]⟩
def ti_126 : TI := ⟨.int .u64, 1, some (.one (.int .u64)), some [.int .u64 0]⟩
def ti_127 : TI := ⟨.func, 1, some (.one (.func)), some [.nilFunc]⟩
def ti_128 : TI := ⟨.func, 1, some (.one (.func)), some [.nilFunc]⟩
def ti_129 : TI := ⟨.func, 1, some (.one (.func)), some [.nilFunc]⟩
def ti_130 : TI := ⟨.ptr, 1, some (.one (.ptr)), some [.pointer none]⟩
def ti_131 : TI := ⟨.func, 1, some (.one (.func)), some [.nilFunc]⟩
def ti_132 : TI := ⟨.ptr, 1, some (.one (.ptr)), some [.pointer none]⟩
def ti_133 : TI := ⟨.tuple [3, 3], 1, none, none⟩
def ti_134 : TI := ⟨.func, 1, some (.one (.func)), some [.nilFunc]⟩
def ti_135 : TI := ⟨.func, 1, some (.one (.func)), some [.nilFunc]⟩
def ti_136 : TI := ⟨.struct [(17, 0), (17, 1), (17, 2), (9, 3)], 4, some (.agg [.ptr, .ptr, .ptr, .str]), some [.pointer none, .pointer none, .pointer none, .string s_]⟩
def ti_137 : TI := ⟨.struct [(17, 0), (17, 1), (17, 2), (9, 3)], 4, some (.agg [.ptr, .ptr, .ptr, .str]), some [.pointer none, .pointer none, .pointer none, .string s_]⟩
def ti_138 : TI := ⟨.arr 0 16, 0, some (.agg []), some []⟩
def ti_139 : TI := ⟨.struct [(138, 0)], 0, some (.agg []), some []⟩
def ti_140 : TI := ⟨.struct [(138, 0)], 0, some (.agg []), some []⟩
def ti_141 : TI := ⟨.int .u8, 1, some (.one (.int .u8)), some [.int .u8 0]⟩
def ti_142 : TI := ⟨.int .u8, 1, some (.one (.int .u8)), some [.int .u8 0]⟩
def ti_143 : TI := ⟨.func, 1, some (.one (.func)), some [.nilFunc]⟩
def ti_144 : TI := ⟨.ptr, 1, some (.one (.ptr)), some [.pointer none]⟩
def ti_145 : TI := ⟨.int .i32, 1, some (.one (.int .i32)), some [.int .i32 0]⟩
def ti_146 : TI := ⟨.int .i32, 1, some (.one (.int .i32)), some [.int .i32 0]⟩
def ti_147 : TI := ⟨.struct [(12, 0), (12, 1), (123, 2), (141, 3), (5, 4), (5, 5), (142, 6), (143, 7), (144, 8), (145, 9), (146, 10)], 11, some (.agg [.int .u64, .int .u64, .int .u32, .int .u8, .int .u8, .int .u8, .int .u8, .func, .ptr, .int .i32, .int .i32]), some [.int .u64 0, .int .u64 0, .int .u32 0, .int .u8 0, .int .u8 0, .int .u8 0, .int .u8 0, .nilFunc, .pointer none, .int .i32 0, .int .i32 0]⟩
def ti_148 : TI := ⟨.struct [(12, 0), (12, 1), (123, 2), (141, 3), (5, 4), (5, 5), (142, 6), (143, 7), (144, 8), (145, 9), (146, 10)], 11, some (.agg [.int .u64, .int .u64, .int .u32, .int .u8, .int .u8, .int .u8, .int .u8, .func, .ptr, .int .i32, .int .i32]), some [.int .u64 0, .int .u64 0, .int .u32 0, .int .u8 0, .int .u8 0, .int .u8 0, .int .u8 0, .nilFunc, .pointer none, .int .i32 0, .int .i32 0]⟩
def ti_149 : TI := ⟨.other, 1, none, none⟩
def fi_0 : Option RT := none
def fi_1 : Option RT := none
def fi_2 : Option RT := some (.tup [])
def fi_3 : Option RT := some (.one (.one (.bool)))
def fi_4 : Option RT := some (.one (.one (.bool)))
def fi_5 : Option RT := some (.one (.one (.bool)))
def fi_6 : Option RT := some (.one (.one (.bool)))
def fi_7 : Option RT := some (.one (.one (.bool)))
def fi_8 : Option RT := some (.one (.one (.bool)))
def fi_9 : Option RT := some (.one (.one (.bool)))
def fi_10 : Option RT := some (.one (.one (.bool)))
def fi_11 : Option RT := some (.one (.one (.int .i64)))
def fi_12 : Option RT := some (.one (.one (.ptr)))
def fi_13 : Option RT := some (.one (.one (.slice)))
def fi_14 : Option RT := some (.tup [(.one (.slice)), (.one (.slice))])
def fi_15 : Option RT := some (.one (.one (.slice)))
def fi_16 : Option RT := some (.one (.one (.int .i64)))
def fi_17 : Option RT := some (.one (.one (.str)))
def fi_18 : Option RT := some (.one (.one (.int .i64)))
def fi_19 : Option RT := some (.tup [(.one (.int .i64)), (.one (.bool))])
def fi_20 : Option RT := some (.tup [(.one (.str)), (.one (.int .i64))])
def fi_21 : Option RT := some (.one (.one (.bool)))
def fi_22 : Option RT := some (.one (.one (.ptr)))
def fi_23 : Option RT := some (.tup [(.one (.slice)), (.one (.slice))])
def fi_24 : Option RT := some (.one (.one (.int .i64)))
def fi_25 : Option RT := some (.tup [(.one (.int .i64)), (.one (.bool))])
def fi_26 : Option RT := some (.one (.one (.slice)))
def fi_27 : Option RT := some (.tup [(.one (.slice)), (.one (.int .i64))])
def fi_28 : Option RT := some (.one (.one (.int .i64)))
def fi_29 : Option RT := some (.one (.one (.ptr)))
def fi_30 : Option RT := some (.one (.one (.int .i64)))
def fi_31 : Option RT := some (.one (.one (.int .i64)))
def fi_32 : Option RT := some (.tup [])
def fi_33 : Option RT := some (.one (.one (.slice)))
def fi_34 : Option RT := some (.one (.one (.func)))
def fi_35 : Option RT := some (.one (.one (.int .i64)))
def fi_36 : Option RT := some (.one (.one (.int .i64)))
def fi_37 : Option RT := some (.one (.one (.slice)))
def fi_38 : Option RT := some (.one (.one (.int .i64)))
def fi_39 : Option RT := some (.tup [])
def fi_40 : Option RT := some (.one (.one (.int .i64)))
def fi_41 : Option RT := some (.one (.one (.int .i64)))
def fi_42 : Option RT := some (.one (.one (.int .i64)))
def fi_43 : Option RT := some (.one (.one (.int .i64)))
def fi_44 : Option RT := some (.one (.one (.ptr)))
def fi_45 : Option RT := some (.one (.one (.ptr)))
def fi_46 : Option RT := some (.one (.one (.int .i64)))
def fi_47 : Option RT := some (.tup [])
def fi_48 : Option RT := some (.one (.one (.ptr)))
def fi_49 : Option RT := some (.one (.one (.int .i64)))
def fi_50 : Option RT := some (.one (.one (.ptr)))
def fi_51 : Option RT := some (.one (.one (.int .i64)))
def fi_52 : Option RT := some (.one (.one (.int .i64)))
def fi_53 : Option RT := some (.one (.one (.int .i64)))
def fi_54 : Option RT := some (.tup [(.one (.slice)), (.one (.int .i64))])
def fi_55 : Option RT := some (.tup [])
def fi_56 : Option RT := some (.tup [])
def fi_57 : Option RT := some (.one (.one (.slice)))
def fi_58 : Option RT := some (.one (.one (.func)))
def fi_59 : Option RT := some (.tup [])
def fi_60 : Option RT := some (.one (.one (.int .i64)))
def fi_61 : Option RT := some (.one (.one (.int .i64)))
def fi_62 : Option RT := some (.one (.one (.bool)))
def fi_63 : Option RT := some (.one (.one (.func)))
def fi_64 : Option RT := some (.one (.one (.slice)))
def fi_65 : Option RT := some (.tup [])
def fi_66 : Option RT := some (.tup [])
def fi_67 : Option RT := some (.tup [])
def fi_68 : Option RT := some (.tup [])
def fi_69 : Option RT := some (.tup [])
def fi_70 : Option RT := some (.one (.one (.slice)))
def fi_71 : Option RT := some (.tup [])
def fi_72 : Option RT := some (.one (.one (.int .i64)))
def fi_73 : Option RT := some (.tup [])
def fi_74 : Option RT := some (.tup [])
def fi_75 : Option RT := some (.tup [])
def fi_76 : Option RT := some (.tup [])
def fi_77 : Option RT := some (.tup [(.one (.int .i64)), (.one (.int .i64))])
def fi_78 : Option RT := some (.tup [])
def fi_79 : Option RT := some (.one (.one (.bool)))
def fi_80 : Option RT := some (.one (.one (.bool)))
def fi_81 : Option RT := some (.one (.one (.int .i64)))
def fi_82 : Option RT := some (.tup [(.one (.int .i64)), (.one (.bool))])
def fi_83 : Option RT := some (.one (.one (.int .i64)))
def fi_84 : Option RT := some (.one (.one (.int .i64)))
def fi_85 : Option RT := some (.tup [])
def fi_86 : Option RT := some (.tup [])
def fi_87 : Option RT := some (.one (.one (.int .u64)))
def fi_88 : Option RT := some (.one (.one (.int .u64)))
def fi_89 : Option RT := some (.one (.one (.int .i64)))
def fi_90 : Option RT := some (.one (.one (.int .i64)))
def fi_91 : Option RT := some (.one (.one (.bool)))
def fi_92 : Option RT := some (.tup [(.one (.int .i64)), (.one (.int .i64))])
def fi_93 : Option RT := none
def fi_94 : Option RT := none
def fi_95 : Option RT := none
def fi_96 : Option RT := none
def fi_97 : Option RT := none
def fi_98 : Option RT := none
def fi_99 : Option RT := none
def fi_100 : Option RT := none
def fi_101 : Option RT := none
def fi_102 : Option RT := none
def fi_103 : Option RT := none
def fi_104 : Option RT := none
def fi_105 : Option RT := none
def fi_106 : Option RT := none
def fi_107 : Option RT := none
def fi_108 : Option RT := none
def fi_109 : Option RT := none
def Dt : Tb := ⟨150, 110, (.node ti_0 (.node ti_1 (.node ti_3 (.node ti_7 (.node ti_15 (.node ti_31 (.node ti_63 (.node ti_127 .nil .nil) .nil) (.node ti_95 .nil .nil)) (.node ti_47 (.node ti_79 (.node ti_143 .nil .nil) .nil) (.node ti_111 .nil .nil))) (.node ti_23 (.node ti_39 (.node ti_71 (.node ti_135 .nil .nil) .nil) (.node ti_103 .nil .nil)) (.node ti_55 (.node ti_87 .nil .nil) (.node ti_119 .nil .nil)))) (.node ti_11 (.node ti_19 (.node ti_35 (.node ti_67 (.node ti_131 .nil .nil) .nil) (.node ti_99 .nil .nil)) (.node ti_51 (.node ti_83 (.node ti_147 .nil .nil) .nil) (.node ti_115 .nil .nil))) (.node ti_27 (.node ti_43 (.node ti_75 (.node ti_139 .nil .nil) .nil) (.node ti_107 .nil .nil)) (.node ti_59 (.node ti_91 .nil .nil) (.node ti_123 .nil .nil))))) (.node ti_5 (.node ti_9 (.node ti_17 (.node ti_33 (.node ti_65 (.node ti_129 .nil .nil) .nil) (.node ti_97 .nil .nil)) (.node ti_49 (.node ti_81 (.node ti_145 .nil .nil) .nil) (.node ti_113 .nil .nil))) (.node ti_25 (.node ti_41 (.node ti_73 (.node ti_137 .nil .nil) .nil) (.node ti_105 .nil .nil)) (.node ti_57 (.node ti_89 .nil .nil) (.node ti_121 .nil .nil)))) (.node ti_13 (.node ti_21 (.node ti_37 (.node ti_69 (.node ti_133 .nil .nil) .nil) (.node ti_101 .nil .nil)) (.node ti_53 (.node ti_85 (.node ti_149 .nil .nil) .nil) (.node ti_117 .nil .nil))) (.node ti_29 (.node ti_45 (.node ti_77 (.node ti_141 .nil .nil) .nil) (.node ti_109 .nil .nil)) (.node ti_61 (.node ti_93 .nil .nil) (.node ti_125 .nil .nil)))))) (.node ti_2 (.node ti_4 (.node ti_8 (.node ti_16 (.node ti_32 (.node ti_64 (.node ti_128 .nil .nil) .nil) (.node ti_96 .nil .nil)) (.node ti_48 (.node ti_80 (.node ti_144 .nil .nil) .nil) (.node ti_112 .nil .nil))) (.node ti_24 (.node ti_40 (.node ti_72 (.node ti_136 .nil .nil) .nil) (.node ti_104 .nil .nil)) (.node ti_56 (.node ti_88 .nil .nil) (.node ti_120 .nil .nil)))) (.node ti_12 (.node ti_20 (.node ti_36 (.node ti_68 (.node ti_132 .nil .nil) .nil) (.node ti_100 .nil .nil)) (.node ti_52 (.node ti_84 (.node ti_148 .nil .nil) .nil) (.node ti_116 .nil .nil))) (.node ti_28 (.node ti_44 (.node ti_76 (.node ti_140 .nil .nil) .nil) (.node ti_108 .nil .nil)) (.node ti_60 (.node ti_92 .nil .nil) (.node ti_124 .nil .nil))))) (.node ti_6 (.node ti_10 (.node ti_18 (.node ti_34 (.node ti_66 (.node ti_130 .nil .nil) .nil) (.node ti_98 .nil .nil)) (.node ti_50 (.node ti_82 (.node ti_146 .nil .nil) .nil) (.node ti_114 .nil .nil))) (.node ti_26 (.node ti_42 (.node ti_74 (.node ti_138 .nil .nil) .nil) (.node ti_106 .nil .nil)) (.node ti_58 (.node ti_90 .nil .nil) (.node ti_122 .nil .nil)))) (.node ti_14 (.node ti_22 (.node ti_38 (.node ti_70 (.node ti_134 .nil .nil) .nil) (.node ti_102 .nil .nil)) (.node ti_54 (.node ti_86 .nil .nil) (.node ti_118 .nil .nil))) (.node ti_30 (.node ti_46 (.node ti_78 (.node ti_142 .nil .nil) .nil) (.node ti_110 .nil .nil)) (.node ti_62 (.node ti_94 .nil .nil) (.node ti_126 .nil .nil))))))), (.node fi_0 (.node fi_1 (.node fi_3 (.node fi_7 (.node fi_15 (.node fi_31 (.node fi_63 .nil .nil) (.node fi_95 .nil .nil)) (.node fi_47 (.node fi_79 .nil .nil) .nil)) (.node fi_23 (.node fi_39 (.node fi_71 .nil .nil) (.node fi_103 .nil .nil)) (.node fi_55 (.node fi_87 .nil .nil) .nil))) (.node fi_11 (.node fi_19 (.node fi_35 (.node fi_67 .nil .nil) (.node fi_99 .nil .nil)) (.node fi_51 (.node fi_83 .nil .nil) .nil)) (.node fi_27 (.node fi_43 (.node fi_75 .nil .nil) (.node fi_107 .nil .nil)) (.node fi_59 (.node fi_91 .nil .nil) .nil)))) (.node fi_5 (.node fi_9 (.node fi_17 (.node fi_33 (.node fi_65 .nil .nil) (.node fi_97 .nil .nil)) (.node fi_49 (.node fi_81 .nil .nil) .nil)) (.node fi_25 (.node fi_41 (.node fi_73 .nil .nil) (.node fi_105 .nil .nil)) (.node fi_57 (.node fi_89 .nil .nil) .nil))) (.node fi_13 (.node fi_21 (.node fi_37 (.node fi_69 .nil .nil) (.node fi_101 .nil .nil)) (.node fi_53 (.node fi_85 .nil .nil) .nil)) (.node fi_29 (.node fi_45 (.node fi_77 .nil .nil) (.node fi_109 .nil .nil)) (.node fi_61 (.node fi_93 .nil .nil) .nil))))) (.node fi_2 (.node fi_4 (.node fi_8 (.node fi_16 (.node fi_32 (.node fi_64 .nil .nil) (.node fi_96 .nil .nil)) (.node fi_48 (.node fi_80 .nil .nil) .nil)) (.node fi_24 (.node fi_40 (.node fi_72 .nil .nil) (.node fi_104 .nil .nil)) (.node fi_56 (.node fi_88 .nil .nil) .nil))) (.node fi_12 (.node fi_20 (.node fi_36 (.node fi_68 .nil .nil) (.node fi_100 .nil .nil)) (.node fi_52 (.node fi_84 .nil .nil) .nil)) (.node fi_28 (.node fi_44 (.node fi_76 .nil .nil) (.node fi_108 .nil .nil)) (.node fi_60 (.node fi_92 .nil .nil) .nil)))) (.node fi_6 (.node fi_10 (.node fi_18 (.node fi_34 (.node fi_66 .nil .nil) (.node fi_98 .nil .nil)) (.node fi_50 (.node fi_82 .nil .nil) .nil)) (.node fi_26 (.node fi_42 (.node fi_74 .nil .nil) (.node fi_106 .nil .nil)) (.node fi_58 (.node fi_90 .nil .nil) .nil))) (.node fi_14 (.node fi_22 (.node fi_38 (.node fi_70 .nil .nil) (.node fi_102 .nil .nil)) (.node fi_54 (.node fi_86 .nil .nil) .nil)) (.node fi_30 (.node fi_46 (.node fi_78 .nil .nil) .nil) (.node fi_62 (.node fi_94 .nil .nil) .nil))))))⟩
theorem Tok : TbOk Pr Dt := tbOk_of (by kernel_rfl) (by kernel_rfl) (by kernel_rfl)

def A_damperlaw11_FleetRoom : Ann := (.seq .auto (.seq .auto (.seq .auto (.seq .auto (.seq .auto (.seq .auto (.seq (.seq .auto (.one [(7, (.one (.int .i64))), (8, (.one (.int .i64)))] (.seq (.seq .auto (.cond .auto .auto) none) (.seq (.seq .auto (.seq .auto (.seq .auto (.seq .auto (.seq (.seq .auto .auto (some [(90, (.one (.bool)))])) (.seq (.seq .auto (.one [(7, (.one (.int .i64))), (14, (.one (.int .i64)))] .auto) none) (.seq .auto (.one [(15, (.one (.int .i64)))] .auto) none) none) none) none) none) none) none) .auto none) none)) none) .auto (some [])) none) none) none) none) none) none)
/-- damper/damperlaw11.FleetRoom -/
def F_damperlaw11_FleetRoom (p0 : Int) (p1 : Sl) (K : Value → PT) : PT :=
  L.call Pr n_damperlaw11_known [] (.one (.one (.bool))) fun (x1 : Bool) =>
  L.ite (!x1) (
    K (.bool false)) <|
  L.call Pr n_damperlaw11_within [.int .i64 p0, .int .i64 30] (.one (.one (.int .i64))) fun (x2 : Int) =>
  L.call Pr n_fleet_New [.int .i64 (IntKind.wrap .i64 (1 + x2))] (.one (.one (.ptr))) fun (x3 : Option Addr) =>
  L.ite ((x3).isNone) (
    K (.bool false)) <|
  L.join (Y := Unit) (fun k4 =>
    L.loop (Y := Int × Int × Unit) (0, 0, ()) fun y6 again7 =>
    L.ite (decide (y6.2.1 < ((p1.len : Nat) : Int))) (
      L.ite (decide (y6.2.1 < 60)) (
        L.draw <|
        L.idx p1.a y6.2.1 p1.len 1 fun a8 =>
        L.load (.one (.int .i64)) a8 fun (x9 : Int) =>
        L.call Pr n_damperlaw11_revs [] (.one (.one (.slice))) fun (x10 : Sl) =>
        L.chk a8 [.int .i64 x9] <|
        L.call Pr n_damperlaw11_within [.int .i64 x9, .int .i64 3] (.one (.one (.int .i64))) fun (x11 : Int) =>
        L.idx x10.a x11 x10.len 1 fun a12 =>
        L.load (.one (.str)) a12 fun (x13 : ByteArray) =>
        L.idx p1.a y6.2.1 p1.len 1 fun a14 =>
        L.load (.one (.int .i64)) a14 fun (x15 : Int) =>
        L.guard (3 ≠ (0 : Int)) <|
        L.call Pr n_damperlaw11_within [.int .i64 (IntKind.wrap .i64 (Int.tdiv x15 3)), .int .i64 11] (.one (.one (.int .i64))) fun (x16 : Int) =>
        L.call Pr n_fleet_Fleet_Scale [.pointer x3, .string x13, .int .i64 1, .int .i64 x16] (.tup [(.one (.slice)), (.one (.slice))]) fun (x17 : Sl × Sl × Unit) =>
        L.call Pr n_fleet_Fleet_Pods [.pointer x3, .string x13] (.one (.one (.slice))) fun (x18 : Sl) =>
        L.join (Y := Bool × Unit) (fun k19 =>
          L.ite (decide (((x17.1.len : Nat) : Int) > 0)) (
            L.ite (decide (((x17.2.1.len : Nat) : Int) > 0)) (
              k19 (true, ())) <|
            L.call Pr n_fleet_Fleet_Live [.pointer x3] (.one (.one (.int .i64))) fun (x21 : Int) =>
            L.ite (decide (x21 > (IntKind.wrap .i64 (1 + x2)))) (
              k19 (true, ())) <|
            L.ite (decide (((x18.len : Nat) : Int) > (if 0 > x16 then 0 else x16))) (
              k19 (true, ())) <|
            L.ite (decide (((x18.len : Nat) : Int) < x16)) (
              L.call Pr n_fleet_Fleet_Live [.pointer x3] (.one (.one (.int .i64))) fun (x22 : Int) =>
              k19 (decide (x22 < (IntKind.wrap .i64 (1 + x2))), ())) <|
            k19 (false, ())) <|
          L.call Pr n_fleet_Fleet_Live [.pointer x3] (.one (.one (.int .i64))) fun (x23 : Int) =>
          L.ite (decide (x23 > (IntKind.wrap .i64 (1 + x2)))) (
            k19 (true, ())) <|
          L.ite (decide (((x18.len : Nat) : Int) > (if 0 > x16 then 0 else x16))) (
            k19 (true, ())) <|
          L.ite (decide (((x18.len : Nat) : Int) < x16)) (
            L.call Pr n_fleet_Fleet_Live [.pointer x3] (.one (.one (.int .i64))) fun (x24 : Int) =>
            k19 (decide (x24 < (IntKind.wrap .i64 (1 + x2))), ())) <|
          k19 (false, ())) fun z20 =>
        L.ite z20.1 (
          K (.bool false)) <|
        L.loop (Y := Int × Int × Unit) (y6.1, 0, ()) fun y25 again26 =>
        L.ite (decide (y25.2.1 < ((x17.1.len : Nat) : Int))) (
          L.idx x17.1.a y25.2.1 x17.1.len 1 fun a27 =>
          L.load (.one (.int .i64)) a27 fun (x28 : Int) =>
          L.ite (decide (x28 ≤ y25.1)) (
            K (.bool false)) <|
          L.idx x17.1.a y25.2.1 x17.1.len 1 fun a29 =>
          L.load (.one (.int .i64)) a29 fun (x30 : Int) =>
          L.call Pr n_fleet_Fleet_Of [.pointer x3, .int .i64 x30] (.one (.one (.str))) fun (x31 : ByteArray) =>
          L.ite (!(x31.toList == x13.toList)) (
            K (.bool false)) <|
          L.idx x17.1.a y25.2.1 x17.1.len 1 fun a32 =>
          L.load (.one (.int .i64)) a32 fun (x33 : Int) =>
          again26 (x33, IntKind.wrap .i64 (y25.2.1 + 1), ())) <|
        L.loop (Y := Int × Unit) (0, ()) fun y34 again35 =>
        L.ite (decide (y34.1 < ((x17.2.1.len : Nat) : Int))) (
          L.idx x17.2.1.a y34.1 x17.2.1.len 1 fun a36 =>
          L.load (.one (.int .i64)) a36 fun (x37 : Int) =>
          L.call Pr n_fleet_Fleet_Of [.pointer x3, .int .i64 x37] (.one (.one (.str))) fun (x38 : ByteArray) =>
          L.ite (!(x38.toList == s_.toList)) (
            K (.bool false)) <|
          again35 (IntKind.wrap .i64 (y34.1 + 1), ())) <|
        again7 (y25.1, IntKind.wrap .i64 (y6.2.1 + 1), ())) <|
      k4 (())) <|
    k4 (())) fun z5 =>
  K (.bool true)
theorem D_damperlaw11_FleetRoom (p0 : Int) (p1 : Sl) (K : Value → PT) : denF Pr Dt Try.f3 A_damperlaw11_FleetRoom [.v (.int .i64 p0), .v (.slice p1.a p1.len p1.cap)] K = F_damperlaw11_FleetRoom p0 p1 K := by kernel_rfl
theorem C_damperlaw11_FleetRoom (p0 : Int) (p1 : Sl) {K : Value → PT} {w : World} (h : F_damperlaw11_FleetRoom p0 p1 K w) : Calls Pr n_damperlaw11_FleetRoom [.int .i64 p0, .slice p1.a p1.len p1.cap].toArray w fun e w2 => ∃ v, e = .returned v ∧ K v w2 :=
  denF_ok Tok (f := 3) (fn := Try.f3) (an := A_damperlaw11_FleetRoom) (args := [.v (.int .i64 p0), .v (.slice p1.a p1.len p1.cap)]) (by kernel_rfl) (by kernel_rfl) ((congrFun (D_damperlaw11_FleetRoom p0 p1 K) w).mpr h)
theorem E_damperlaw11_FleetRoom : Enters Pr n_damperlaw11_FleetRoom := enters_of_B (by kernel_rfl)

def A_damperlaw11_FleetDown : Ann := (.seq .auto (.seq .auto (.seq .auto (.seq .auto (.seq .auto (.seq .auto (.seq (.one [(10, (.one (.slice))), (11, (.one (.slice)))] .auto) (.seq .auto (.seq (.seq .auto (.one [(13, (.one (.int .i64)))] (.seq .auto (.seq (.seq .auto (.cond .auto .auto) none) .auto (some [])) none)) none) (.seq (.seq .auto (.one [(12, (.one (.int .i64))), (14, (.one (.int .i64)))] (.seq (.seq .auto (.cond .auto .auto) none) (.seq .auto .auto (some [(12, (.one (.int .i64)))])) none)) none) (.seq .auto (.seq .auto (.seq .auto (.seq .auto (.seq (.seq .auto (.one [(21, (.one (.int .i64)))] (.seq .auto (.seq (.seq .auto (.seq (.seq .auto (.one [(22, (.one (.int .i64))), (23, (.one (.int .i64)))] (.seq .auto (.seq (.seq .auto (.seq .auto .auto (some [(174, (.one (.bool)))])) none) .auto (some [(22, (.one (.int .i64)))])) none)) none) .auto none) none) .auto none) none)) none) .auto none) none) none) none) none) (some [])) none) none) none) none) none) none) none) none) none)
/-- damper/damperlaw11.FleetDown -/
def F_damperlaw11_FleetDown (p0 : Int) (p1 : Sl) (p2 : Sl) (p3 : Int) (K : Value → PT) : PT :=
  L.call Pr n_damperlaw11_known [] (.one (.one (.bool))) fun (x1 : Bool) =>
  L.ite (!x1) (
    K (.bool false)) <|
  L.call Pr n_fleet_New [.int .i64 10] (.one (.one (.ptr))) fun (x2 : Option Addr) =>
  L.ite ((x2).isNone) (
    K (.bool false)) <|
  L.call Pr n_damperlaw11_within [.int .i64 p0, .int .i64 9] (.one (.one (.int .i64))) fun (x3 : Int) =>
  L.call Pr n_fleet_Fleet_Scale [.pointer x2, .string s_a_1, .int .i64 3, .int .i64 (IntKind.wrap .i64 (1 + x3))] (.tup [(.one (.slice)), (.one (.slice))]) fun (x4 : Sl × Sl × Unit) =>
  L.join (Y := Sl × Sl × Unit) (fun k5 =>
    L.draw <|
    L.alts [(
        L.sem Pr (.one (.one .slice)) (Instr.makeSlice T_s_int (.int .i64 (IntKind.wrap .i64 ((IntKind.wrap .i64 (1 + x3)) + 1))) (.int .i64 (IntKind.wrap .i64 ((IntKind.wrap .i64 (1 + x3)) + 1)))) fun (s7 : Sl) =>
        L.alts [(
            L.sem Pr (.one (.one .slice)) (Instr.makeSlice T_s_bool (.int .i64 (IntKind.wrap .i64 ((IntKind.wrap .i64 (1 + x3)) + 1))) (.int .i64 (IntKind.wrap .i64 ((IntKind.wrap .i64 (1 + x3)) + 1)))) fun (s8 : Sl) =>
            k5 (⟨s7.a, s7.len, s7.cap⟩, ⟨s8.a, s8.len, s8.cap⟩, ())),(
            L.sem Pr (.one (.one .slice)) (Instr.makeSlice T_s_bool (.int .i64 (IntKind.wrap .i64 ((IntKind.wrap .i64 (1 + x3)) + 1))) (.int .i64 (IntKind.wrap .i64 ((IntKind.wrap .i64 (1 + x3)) + 1)))) fun (s9 : Sl) =>
            k5 (⟨s7.a, s7.len, s7.cap⟩, ⟨s9.a, s9.len, s9.cap⟩, ()))]),(
        L.sem Pr (.one (.one .slice)) (Instr.makeSlice T_s_bool (.int .i64 (IntKind.wrap .i64 ((IntKind.wrap .i64 (1 + x3)) + 1))) (.int .i64 (IntKind.wrap .i64 ((IntKind.wrap .i64 (1 + x3)) + 1)))) fun (s10 : Sl) =>
        L.sem Pr (.one (.one .slice)) (Instr.makeSlice T_s_int (.int .i64 (IntKind.wrap .i64 ((IntKind.wrap .i64 (1 + x3)) + 1))) (.int .i64 (IntKind.wrap .i64 ((IntKind.wrap .i64 (1 + x3)) + 1)))) fun (s11 : Sl) =>
        k5 (⟨s11.a, s11.len, s11.cap⟩, ⟨s10.a, s10.len, s10.cap⟩, ()))]) fun z6 =>
  L.loop (Y := Int × Unit) (1, ()) fun y12 again13 =>
  L.ite (decide (y12.1 ≤ (IntKind.wrap .i64 (1 + x3)))) (
    L.join (Y := Unit) (fun k14 =>
      L.ite (decide ((IntKind.wrap .i64 (y12.1 - 1)) < ((p1.len : Nat) : Int))) (
        L.idx p1.a (IntKind.wrap .i64 (y12.1 - 1)) p1.len 1 fun a16 =>
        L.load (.one (.bool)) a16 fun (x17 : Bool) =>
        L.ite x17 (
          L.call Pr n_fleet_Fleet_Up [.pointer x2, .int .i64 y12.1] (.one (.one (.int .i64))) fun (x18 : Int) =>
          L.idx z6.2.1.a y12.1 z6.2.1.len 1 fun a19 =>
          L.store a19 [.bool (x18 == 0)] <|
          k14 (())) <|
        k14 (())) <|
      k14 (())) fun z15 =>
    again13 (IntKind.wrap .i64 (y12.1 + 1), ())) <|
  L.join (Y := Unit) (fun k20 =>
    L.loop (Y := Int × Int × Unit) (1, 0, ()) fun y22 again23 =>
    L.ite (decide (y22.2.1 < ((p2.len : Nat) : Int))) (
      L.ite (decide (y22.2.1 < 20)) (
        L.join (Y := Int × Unit) (fun k24 =>
          L.call Pr n_fleet_Fleet_Take [.pointer x2, .string s_a_1, .int .i64 y22.1] (.tup [(.one (.int .i64)), (.one (.bool))]) fun (x26 : Int × Bool × Unit) =>
          L.ite x26.2.1 (
            L.ite (decide (x26.1 < 1)) (
              K (.bool false)) <|
            L.ite (decide (x26.1 > (IntKind.wrap .i64 (1 + x3)))) (
              K (.bool false)) <|
            L.idx z6.1.a x26.1 z6.1.len 1 fun a27 =>
            L.load (.one (.int .i64)) a27 fun (x28 : Int) =>
            L.idx z6.1.a x26.1 z6.1.len 1 fun a29 =>
            L.store a29 [.int .i64 (IntKind.wrap .i64 (x28 + 1))] <|
            k24 (IntKind.wrap .i64 (y22.1 + 1), ())) <|
          k24 (IntKind.wrap .i64 (y22.1 + 1), ())) fun z25 =>
        again23 (z25.1, IntKind.wrap .i64 (y22.2.1 + 1), ())) <|
      k20 (())) <|
    k20 (())) fun z21 =>
  L.call Pr n_damperlaw11_within [.int .i64 p3, .int .i64 (IntKind.wrap .i64 ((IntKind.wrap .i64 (1 + x3)) + 1))] (.one (.one (.int .i64))) fun (x30 : Int) =>
  L.call Pr n_fleet_Fleet_Scale [.pointer x2, .string s_a_1, .int .i64 3, .int .i64 x30] (.tup [(.one (.slice)), (.one (.slice))]) fun (x31 : Sl × Sl × Unit) =>
  L.ite (((x31.2.1.len : Nat) : Int) != (IntKind.wrap .i64 ((IntKind.wrap .i64 (1 + x3)) - x30))) (
    K (.bool false)) <|
  L.sem Pr (.one (.one .slice)) (Instr.makeSlice T_s_bool (.int .i64 (IntKind.wrap .i64 ((IntKind.wrap .i64 (1 + x3)) + 1))) (.int .i64 (IntKind.wrap .i64 ((IntKind.wrap .i64 (1 + x3)) + 1)))) fun (s32 : Sl) =>
  L.loop (Y := Int × Unit) (0, ()) fun y33 again34 =>
  L.ite (decide (y33.1 < ((x31.2.1.len : Nat) : Int))) (
    L.loop (Y := Int × Int × Unit) (0, 1, ()) fun y35 again36 =>
    L.ite (decide (y35.2.1 ≤ (IntKind.wrap .i64 (1 + x3)))) (
      L.join (Y := Int × Unit) (fun k37 =>
        L.idx s32.a y35.2.1 s32.len 1 fun a39 =>
        L.load (.one (.bool)) a39 fun (x40 : Bool) =>
        L.ite x40 (
          k37 (y35.1, ())) <|
        L.join (Y := Bool × Unit) (fun k41 =>
          L.draw <|
          L.ite (y35.1 == 0) (
            k41 (true, ())) <|
          L.idx z6.2.1.a y35.2.1 z6.2.1.len 1 fun a43 =>
          L.load (.one (.bool)) a43 fun (x44 : Bool) =>
          L.ite (!x44) (
            L.idx z6.2.1.a y35.1 z6.2.1.len 1 fun a45 =>
            L.load (.one (.bool)) a45 fun (x46 : Bool) =>
            L.ite x46 (
              k41 (true, ())) <|
            L.idx z6.2.1.a y35.2.1 z6.2.1.len 1 fun a47 =>
            L.load (.one (.bool)) a47 fun (x48 : Bool) =>
            L.idx z6.2.1.a y35.1 z6.2.1.len 1 fun a49 =>
            L.load (.one (.bool)) a49 fun (x50 : Bool) =>
            L.ite (x48 == x50) (
              L.idx z6.2.1.a y35.2.1 z6.2.1.len 1 fun a51 =>
              L.load (.one (.bool)) a51 fun (x52 : Bool) =>
              L.ite (!x52) (
                k41 (true, ())) <|
              L.idx z6.1.a y35.2.1 z6.1.len 1 fun a53 =>
              L.load (.one (.int .i64)) a53 fun (x54 : Int) =>
              L.idx z6.1.a y35.1 z6.1.len 1 fun a55 =>
              L.load (.one (.int .i64)) a55 fun (x56 : Int) =>
              k41 (decide (x54 ≤ x56), ())) <|
            k41 (false, ())) <|
          L.idx z6.2.1.a y35.2.1 z6.2.1.len 1 fun a57 =>
          L.load (.one (.bool)) a57 fun (x58 : Bool) =>
          L.idx z6.2.1.a y35.1 z6.2.1.len 1 fun a59 =>
          L.load (.one (.bool)) a59 fun (x60 : Bool) =>
          L.ite (x58 == x60) (
            L.idx z6.2.1.a y35.2.1 z6.2.1.len 1 fun a61 =>
            L.load (.one (.bool)) a61 fun (x62 : Bool) =>
            L.ite (!x62) (
              k41 (true, ())) <|
            L.idx z6.1.a y35.2.1 z6.1.len 1 fun a63 =>
            L.load (.one (.int .i64)) a63 fun (x64 : Int) =>
            L.idx z6.1.a y35.1 z6.1.len 1 fun a65 =>
            L.load (.one (.int .i64)) a65 fun (x66 : Int) =>
            k41 (decide (x64 ≤ x66), ())) <|
          k41 (false, ())) fun z42 =>
        L.ite z42.1 (
          k37 (y35.2.1, ())) <|
        k37 (y35.1, ())) fun z38 =>
      again36 (z38.1, IntKind.wrap .i64 (y35.2.1 + 1), ())) <|
    L.idx x31.2.1.a y33.1 x31.2.1.len 1 fun a67 =>
    L.load (.one (.int .i64)) a67 fun (x68 : Int) =>
    L.ite (x68 != y35.1) (
      K (.bool false)) <|
    L.idx s32.a y35.1 s32.len 1 fun a69 =>
    L.store a69 [.bool true] <|
    again34 (IntKind.wrap .i64 (y33.1 + 1), ())) <|
  K (.bool true)
theorem D_damperlaw11_FleetDown (p0 : Int) (p1 : Sl) (p2 : Sl) (p3 : Int) (K : Value → PT) : denF Pr Dt Try.f4 A_damperlaw11_FleetDown [.v (.int .i64 p0), .v (.slice p1.a p1.len p1.cap), .v (.slice p2.a p2.len p2.cap), .v (.int .i64 p3)] K = F_damperlaw11_FleetDown p0 p1 p2 p3 K := by kernel_rfl
theorem C_damperlaw11_FleetDown (p0 : Int) (p1 : Sl) (p2 : Sl) (p3 : Int) {K : Value → PT} {w : World} (h : F_damperlaw11_FleetDown p0 p1 p2 p3 K w) : Calls Pr n_damperlaw11_FleetDown [.int .i64 p0, .slice p1.a p1.len p1.cap, .slice p2.a p2.len p2.cap, .int .i64 p3].toArray w fun e w2 => ∃ v, e = .returned v ∧ K v w2 :=
  denF_ok Tok (f := 4) (fn := Try.f4) (an := A_damperlaw11_FleetDown) (args := [.v (.int .i64 p0), .v (.slice p1.a p1.len p1.cap), .v (.slice p2.a p2.len p2.cap), .v (.int .i64 p3)]) (by kernel_rfl) (by kernel_rfl) ((congrFun (D_damperlaw11_FleetDown p0 p1 p2 p3 K) w).mpr h)
theorem E_damperlaw11_FleetDown : Enters Pr n_damperlaw11_FleetDown := enters_of_B (by kernel_rfl)

def A_damperlaw11_FleetPicks : Ann := (.seq .auto (.seq .auto (.seq .auto (.seq .auto (.seq .auto (.seq .auto (.seq .auto (.seq .auto (.seq .auto (.seq (.seq .auto (.one [(14, (.one (.int .i64)))] (.seq .auto (.seq .auto .auto (some [])) none)) none) (.seq .auto (.seq (.seq .auto (.one [(15, (.one (.slice))), (16, (.one (.int .i64)))] (.seq (.seq .auto (.cond .auto .auto) none) (.seq (.seq (.seq .auto (.cond .auto .auto) none) (.seq .auto (.seq (.seq .auto (.one [(20, (.one (.int .i64))), (21, (.one (.int .i64)))] (.seq .auto (.seq (.seq .auto (.cond .auto .auto) none) .auto (some [(20, (.one (.int .i64)))])) none)) none) (.seq .auto (.seq (.seq .auto (.cond .auto .auto) none) .auto (some [])) none) none) none) (some [])) .auto (some [(15, (.one (.slice)))])) none)) none) .auto (some [])) none) none) none) none) none) none) none) none) none) none) none)
/-- damper/damperlaw11.FleetPicks -/
def F_damperlaw11_FleetPicks (p0 : Int) (p1 : Int) (p2 : Sl) (p3 : Sl) (K : Value → PT) : PT :=
  L.call Pr n_damperlaw11_known [] (.one (.one (.bool))) fun (x1 : Bool) =>
  L.ite (!x1) (
    K (.bool false)) <|
  L.call Pr n_fleet_New [.int .i64 10] (.one (.one (.ptr))) fun (x2 : Option Addr) =>
  L.ite ((x2).isNone) (
    K (.bool false)) <|
  L.call Pr n_damperlaw11_within [.int .i64 p0, .int .i64 8] (.one (.one (.int .i64))) fun (x3 : Int) =>
  L.call Pr n_damperlaw11_within [.int .i64 p1, .int .i64 4] (.one (.one (.int .i64))) fun (x4 : Int) =>
  L.call Pr n_fleet_Fleet_Scale [.pointer x2, .string s_a_1, .int .i64 (IntKind.wrap .i64 (1 + x4)), .int .i64 (IntKind.wrap .i64 (1 + x3))] (.tup [(.one (.slice)), (.one (.slice))]) fun (x5 : Sl × Sl × Unit) =>
  L.ite (((x5.1.len : Nat) : Int) != (IntKind.wrap .i64 (1 + x3))) (
    K (.bool false)) <|
  L.sem Pr (.one (.one .slice)) (Instr.makeSlice T_s_int (.int .i64 (IntKind.wrap .i64 (1 + x3))) (.int .i64 (IntKind.wrap .i64 (1 + x3)))) fun (s6 : Sl) =>
  L.sem Pr (.one (.one .slice)) (Instr.makeSlice T_s_bool (.int .i64 (IntKind.wrap .i64 (1 + x3))) (.int .i64 (IntKind.wrap .i64 (1 + x3)))) fun (s7 : Sl) =>
  L.loop (Y := Int × Unit) (0, ()) fun y8 again9 =>
  L.ite (decide (y8.1 < (IntKind.wrap .i64 (1 + x3)))) (
    L.join (Y := Unit) (fun k10 =>
      L.idx x5.1.a y8.1 x5.1.len 1 fun a12 =>
      L.load (.one (.int .i64)) a12 fun (x13 : Int) =>
      L.ite (x13 != (IntKind.wrap .i64 (y8.1 + 1))) (
        K (.bool false)) <|
      L.ite (decide (y8.1 ≥ ((p2.len : Nat) : Int))) (
        L.call Pr n_fleet_Fleet_Up [.pointer x2, .int .i64 (IntKind.wrap .i64 (y8.1 + 1))] (.one (.one (.int .i64))) fun (x14 : Int) =>
        L.idx s7.a y8.1 s7.len 1 fun a15 =>
        L.store a15 [.bool (x14 == 0)] <|
        k10 (())) <|
      L.idx p2.a y8.1 p2.len 1 fun a16 =>
      L.load (.one (.bool)) a16 fun (x17 : Bool) =>
      L.ite x17 (
        L.call Pr n_fleet_Fleet_Up [.pointer x2, .int .i64 (IntKind.wrap .i64 (y8.1 + 1))] (.one (.one (.int .i64))) fun (x18 : Int) =>
        L.idx s7.a y8.1 s7.len 1 fun a19 =>
        L.store a19 [.bool (x18 == 0)] <|
        k10 (())) <|
      k10 (())) fun z11 =>
    again9 (IntKind.wrap .i64 (y8.1 + 1), ())) <|
  L.join (Y := Unit) (fun k20 =>
    L.loop (Y := Sl × Int × Unit) (⟨none, 0, 0⟩, 0, ()) fun y22 again23 =>
    L.ite (decide (y22.2.1 < ((p3.len : Nat) : Int))) (
      L.ite (decide (y22.2.1 < 50)) (
        L.join (Y := Sl × Unit) (fun k24 =>
          L.join (Y := Unit) (fun k26 =>
            L.idx p3.a y22.2.1 p3.len 1 fun a28 =>
            L.load (.one (.int .i64)) a28 fun (x29 : Int) =>
            L.call Pr n_damperlaw11_within [.int .i64 x29, .int .i64 4] (.one (.one (.int .i64))) fun (x30 : Int) =>
            L.ite (x30 == 0) (
              L.ite (decide (((y22.1.len : Nat) : Int) > 0)) (
                L.idx p3.a y22.2.1 p3.len 1 fun a31 =>
                L.load (.one (.int .i64)) a31 fun (x32 : Int) =>
                L.guard (4 ≠ (0 : Int)) <|
                L.call Pr n_damperlaw11_within [.int .i64 (IntKind.wrap .i64 (Int.tdiv x32 4)), .int .i64 ((y22.1.len : Nat) : Int)] (.one (.one (.int .i64))) fun (x33 : Int) =>
                L.call Pr n_fleet_Fleet_Give [.pointer x2, .int .i64 (IntKind.wrap .i64 (x33 + 1))] (.tup [(.one (.str)), (.one (.int .i64))]) fun (x34 : ByteArray × Int × Unit) =>
                L.idx y22.1.a x33 y22.1.len 1 fun a35 =>
                L.load (.one (.int .i64)) a35 fun (x36 : Int) =>
                L.ite (decide (x36 < 0)) (
                  L.ite (x34.2.1 != 6) (
                    K (.bool false)) <|
                  k24 (⟨y22.1.a, y22.1.len, y22.1.cap⟩, ())) <|
                L.ite (x34.2.1 != 0) (
                  K (.bool false)) <|
                L.ite (!(x34.1.toList == s_a_1.toList)) (
                  K (.bool false)) <|
                L.idx y22.1.a x33 y22.1.len 1 fun a37 =>
                L.load (.one (.int .i64)) a37 fun (x38 : Int) =>
                L.idx s6.a x38 s6.len 1 fun a39 =>
                L.load (.one (.int .i64)) a39 fun (x40 : Int) =>
                L.idx s6.a x38 s6.len 1 fun a41 =>
                L.store a41 [.int .i64 (IntKind.wrap .i64 (x40 - 1))] <|
                L.idx y22.1.a x33 y22.1.len 1 fun a42 =>
                L.store a42 [.int .i64 (-1)] <|
                k24 (⟨y22.1.a, y22.1.len, y22.1.cap⟩, ())) <|
              k26 (())) <|
            k26 (())) fun z27 =>
          L.loop (Y := Int × Int × Unit) ((-1), 0, ()) fun y43 again44 =>
          L.ite (decide (y43.2.1 < (IntKind.wrap .i64 (1 + x3)))) (
            L.join (Y := Int × Unit) (fun k45 =>
              L.draw <|
              L.idx s7.a y43.2.1 s7.len 1 fun a47 =>
              L.load (.one (.bool)) a47 fun (x48 : Bool) =>
              L.ite x48 (
                L.idx s6.a y43.2.1 s6.len 1 fun a49 =>
                L.load (.one (.int .i64)) a49 fun (x50 : Int) =>
                L.ite (decide (x50 < (IntKind.wrap .i64 (1 + x4)))) (
                  L.ite (decide (y43.1 < 0)) (
                    k45 (y43.2.1, ())) <|
                  L.idx s6.a y43.2.1 s6.len 1 fun a51 =>
                  L.load (.one (.int .i64)) a51 fun (x52 : Int) =>
                  L.idx s6.a y43.1 s6.len 1 fun a53 =>
                  L.load (.one (.int .i64)) a53 fun (x54 : Int) =>
                  L.ite (decide (x52 < x54)) (
                    k45 (y43.2.1, ())) <|
                  k45 (y43.1, ())) <|
                k45 (y43.1, ())) <|
              k45 (y43.1, ())) fun z46 =>
            again44 (z46.1, IntKind.wrap .i64 (y43.2.1 + 1), ())) <|
          L.call Pr n_fleet_Fleet_Take [.pointer x2, .string s_a_1, .int .i64 (IntKind.wrap .i64 (((y22.1.len : Nat) : Int) + 1))] (.tup [(.one (.int .i64)), (.one (.bool))]) fun (x55 : Int × Bool × Unit) =>
          L.join (Y := Unit) (fun k56 =>
            L.ite (!(x55.2.1 == (decide (y43.1 ≥ 0)))) (
              K (.bool false)) <|
            L.ite x55.2.1 (
              L.ite (x55.1 != (IntKind.wrap .i64 (y43.1 + 1))) (
                K (.bool false)) <|
              k56 (())) <|
            k56 (())) fun z57 =>
          L.ite x55.2.1 (
            L.idx s6.a y43.1 s6.len 1 fun a58 =>
            L.load (.one (.int .i64)) a58 fun (x59 : Int) =>
            L.idx s6.a y43.1 s6.len 1 fun a60 =>
            L.store a60 [.int .i64 (IntKind.wrap .i64 (x59 + 1))] <|
            L.new [.int .i64 y43.1] T_int fun b61 =>
            L.sem Pr (.one (.one .slice)) (Builtin.append_ #[T_s_int, T_s_int] T_s_int #[.slice y22.1.a y22.1.len y22.1.cap, .slice (some ⟨b61, 0, none⟩) 1 1]) fun (s62 : Sl) =>
            k24 (⟨s62.a, s62.len, s62.cap⟩, ())) <|
          L.new [.int .i64 (-1)] T_int fun b63 =>
          L.sem Pr (.one (.one .slice)) (Builtin.append_ #[T_s_int, T_s_int] T_s_int #[.slice y22.1.a y22.1.len y22.1.cap, .slice (some ⟨b63, 0, none⟩) 1 1]) fun (s64 : Sl) =>
          k24 (⟨s64.a, s64.len, s64.cap⟩, ())) fun z25 =>
        again23 (⟨z25.1.a, z25.1.len, z25.1.cap⟩, IntKind.wrap .i64 (y22.2.1 + 1), ())) <|
      k20 (())) <|
    k20 (())) fun z21 =>
  L.call Pr n_fleet_Fleet_Take [.pointer x2, .string s_a_2, .int .i64 999] (.tup [(.one (.int .i64)), (.one (.bool))]) fun (x65 : Int × Bool × Unit) =>
  K (.bool (!x65.2.1))
theorem D_damperlaw11_FleetPicks (p0 : Int) (p1 : Int) (p2 : Sl) (p3 : Sl) (K : Value → PT) : denF Pr Dt Try.f5 A_damperlaw11_FleetPicks [.v (.int .i64 p0), .v (.int .i64 p1), .v (.slice p2.a p2.len p2.cap), .v (.slice p3.a p3.len p3.cap)] K = F_damperlaw11_FleetPicks p0 p1 p2 p3 K := by kernel_rfl
theorem C_damperlaw11_FleetPicks (p0 : Int) (p1 : Int) (p2 : Sl) (p3 : Sl) {K : Value → PT} {w : World} (h : F_damperlaw11_FleetPicks p0 p1 p2 p3 K w) : Calls Pr n_damperlaw11_FleetPicks [.int .i64 p0, .int .i64 p1, .slice p2.a p2.len p2.cap, .slice p3.a p3.len p3.cap].toArray w fun e w2 => ∃ v, e = .returned v ∧ K v w2 :=
  denF_ok Tok (f := 5) (fn := Try.f5) (an := A_damperlaw11_FleetPicks) (args := [.v (.int .i64 p0), .v (.int .i64 p1), .v (.slice p2.a p2.len p2.cap), .v (.slice p3.a p3.len p3.cap)]) (by kernel_rfl) (by kernel_rfl) ((congrFun (D_damperlaw11_FleetPicks p0 p1 p2 p3 K) w).mpr h)
theorem E_damperlaw11_FleetPicks : Enters Pr n_damperlaw11_FleetPicks := enters_of_B (by kernel_rfl)

def A_damperlaw11_FleetDrains : Ann := (.seq .auto (.seq .auto (.seq .auto (.seq .auto (.seq .auto (.seq .auto (.seq .auto (.seq .auto (.seq (.seq .auto (.one [(8, (.one (.int .i64)))] .auto) none) (.seq .auto (.seq .auto (.seq .auto (.seq .auto (.seq (.seq .auto (.one [(15, (.one (.int .i64))), (16, (.one (.int .i64)))] .auto) none) .auto none) none) none) none) none) none) none) none) none) none) none) none) none) none)
/-- damper/damperlaw11.FleetDrains -/
def F_damperlaw11_FleetDrains (p0 : Int) (p1 : Int) (K : Value → PT) : PT :=
  L.call Pr n_damperlaw11_known [] (.one (.one (.bool))) fun (x1 : Bool) =>
  L.ite (!x1) (
    K (.bool false)) <|
  L.call Pr n_fleet_New [.int .i64 2] (.one (.one (.ptr))) fun (x2 : Option Addr) =>
  L.ite ((x2).isNone) (
    K (.bool false)) <|
  L.call Pr n_damperlaw11_within [.int .i64 p1, .int .i64 8] (.one (.one (.int .i64))) fun (x3 : Int) =>
  L.call Pr n_damperlaw11_within [.int .i64 p0, .int .i64 (IntKind.wrap .i64 ((IntKind.wrap .i64 (1 + x3)) + 1))] (.one (.one (.int .i64))) fun (x4 : Int) =>
  L.call Pr n_fleet_Fleet_Scale [.pointer x2, .string s_a_1, .int .i64 (IntKind.wrap .i64 (1 + x3)), .int .i64 1] (.tup [(.one (.slice)), (.one (.slice))]) fun (x5 : Sl × Sl × Unit) =>
  L.call Pr n_fleet_Fleet_Up [.pointer x2, .int .i64 1] (.one (.one (.int .i64))) fun (x6 : Int) =>
  L.ite (x6 != 0) (
    K (.bool false)) <|
  L.loop (Y := Int × Unit) (1, ()) fun y7 again8 =>
  L.ite (decide (y7.1 ≤ x4)) (
    L.call Pr n_fleet_Fleet_Take [.pointer x2, .string s_a_1, .int .i64 y7.1] (.tup [(.one (.int .i64)), (.one (.bool))]) fun (x9 : Int × Bool × Unit) =>
    L.ite (!x9.2.1) (
      K (.bool false)) <|
    again8 (IntKind.wrap .i64 (y7.1 + 1), ())) <|
  L.call Pr n_fleet_Fleet_Scale [.pointer x2, .string s_a_1, .int .i64 (IntKind.wrap .i64 (1 + x3)), .int .i64 0] (.tup [(.one (.slice)), (.one (.slice))]) fun (x10 : Sl × Sl × Unit) =>
  L.new [.int .i64 1] T_int fun b11 =>
  L.call Pr n_damperlaw8_Ints [.slice x10.2.1.a x10.2.1.len x10.2.1.cap, .slice (some ⟨b11, 0, none⟩) 1 1] (.one (.one (.bool))) fun (x12 : Bool) =>
  L.ite (!x12) (
    K (.bool false)) <|
  L.call Pr n_fleet_Fleet_Live [.pointer x2] (.one (.one (.int .i64))) fun (x13 : Int) =>
  L.ite (x13 != (if 1 < x4 then 1 else x4)) (
    K (.bool false)) <|
  L.call Pr n_fleet_Fleet_Take [.pointer x2, .string s_a_1, .int .i64 99] (.tup [(.one (.int .i64)), (.one (.bool))]) fun (x14 : Int × Bool × Unit) =>
  L.ite x14.2.1 (
    K (.bool false)) <|
  L.loop (Y := Int × Int × Unit) (x4, 1, ()) fun y15 again16 =>
  L.ite (decide (y15.2.1 ≤ x4)) (
    L.call Pr n_fleet_Fleet_Of [.pointer x2, .int .i64 1] (.one (.one (.str))) fun (x17 : ByteArray) =>
    L.ite (!(x17.toList == s_a_1.toList)) (
      K (.bool false)) <|
    L.call Pr n_fleet_Fleet_Pods [.pointer x2, .string s_a_1] (.one (.one (.slice))) fun (x18 : Sl) =>
    L.ite (((x18.len : Nat) : Int) != 1) (
      K (.bool false)) <|
    L.call Pr n_fleet_Fleet_Pods [.pointer x2, .string s_a_1] (.one (.one (.slice))) fun (x19 : Sl) =>
    L.idx x19.a 0 x19.len 3 fun a20 =>
    L.load (.one (.int .i64)) (a20.add 2) fun (x21 : Int) =>
    L.ite (x21 != y15.1) (
      K (.bool false)) <|
    L.call Pr n_fleet_Fleet_Give [.pointer x2, .int .i64 y15.2.1] (.tup [(.one (.str)), (.one (.int .i64))]) fun (x22 : ByteArray × Int × Unit) =>
    L.ite (x22.2.1 != 0) (
      K (.bool false)) <|
    L.ite (!(x22.1.toList == s_a_1.toList)) (
      K (.bool false)) <|
    again16 (IntKind.wrap .i64 (y15.1 - 1), IntKind.wrap .i64 (y15.2.1 + 1), ())) <|
  L.call Pr n_fleet_Fleet_Of [.pointer x2, .int .i64 1] (.one (.one (.str))) fun (x23 : ByteArray) =>
  L.ite (x23.toList == s_.toList) (
    L.call Pr n_fleet_Fleet_Live [.pointer x2] (.one (.one (.int .i64))) fun (x24 : Int) =>
    L.ite (x24 == 0) (
      L.call Pr n_fleet_Fleet_Pods [.pointer x2, .string s_a_1] (.one (.one (.slice))) fun (x25 : Sl) =>
      L.ite (((x25.len : Nat) : Int) == 0) (
        L.call Pr n_fleet_Fleet_Up [.pointer x2, .int .i64 1] (.one (.one (.int .i64))) fun (x26 : Int) =>
        K (.bool (x26 == 6))) <|
      K (.bool false)) <|
    K (.bool false)) <|
  K (.bool false)
theorem D_damperlaw11_FleetDrains (p0 : Int) (p1 : Int) (K : Value → PT) : denF Pr Dt Try.f7 A_damperlaw11_FleetDrains [.v (.int .i64 p0), .v (.int .i64 p1)] K = F_damperlaw11_FleetDrains p0 p1 K := by kernel_rfl
theorem C_damperlaw11_FleetDrains (p0 : Int) (p1 : Int) {K : Value → PT} {w : World} (h : F_damperlaw11_FleetDrains p0 p1 K w) : Calls Pr n_damperlaw11_FleetDrains [.int .i64 p0, .int .i64 p1].toArray w fun e w2 => ∃ v, e = .returned v ∧ K v w2 :=
  denF_ok Tok (f := 7) (fn := Try.f7) (an := A_damperlaw11_FleetDrains) (args := [.v (.int .i64 p0), .v (.int .i64 p1)]) (by kernel_rfl) (by kernel_rfl) ((congrFun (D_damperlaw11_FleetDrains p0 p1 K) w).mpr h)
theorem E_damperlaw11_FleetDrains : Enters Pr n_damperlaw11_FleetDrains := enters_of_B (by kernel_rfl)

def A_damperlaw11_FleetApart : Ann := (.seq .auto (.seq .auto (.seq .auto (.seq .auto (.seq .auto (.seq .auto (.seq (.seq .auto (.one [(7, (.one (.int .i64)))] .auto) none) (.seq (.seq .auto (.one [(8, (.one (.int .i64)))] (.seq (.seq .auto (.cond .auto .auto) none) (.seq (.seq .auto (.seq .auto (.seq .auto (.seq .auto (.seq .auto (.cond (.seq .auto (.seq (.seq .auto (.one [(16, (.one (.int .i64)))] .auto) none) .auto none) none) .auto) none) none) none) none) none) .auto (some [])) none)) none) (.seq .auto (.seq .auto (.seq (.seq .auto (.one [(19, (.one (.int .i64)))] .auto) none) .auto none) none) none) (some [])) none) none) none) none) none) none) none)
/-- damper/damperlaw11.FleetApart -/
def F_damperlaw11_FleetApart (p0 : Sl) (p1 : Sl) (K : Value → PT) : PT :=
  L.call Pr n_damperlaw11_known [] (.one (.one (.bool))) fun (x1 : Bool) =>
  L.ite (!x1) (
    K (.bool false)) <|
  L.call Pr n_fleet_New [.int .i64 30] (.one (.one (.ptr))) fun (x2 : Option Addr) =>
  L.call Pr n_damperref11_New [.int .i64 30] (.one (.one (.ptr))) fun (x3 : Option Addr) =>
  L.ite ((x2).isNone) (
    K (.bool false)) <|
  L.call Pr n_fleet_Fleet_Scale [.pointer x2, .string s_a_1, .int .i64 2, .int .i64 3] (.tup [(.one (.slice)), (.one (.slice))]) fun (x4 : Sl × Sl × Unit) =>
  L.call Pr n_damperref11_Fleet_Scale [.pointer x3, .string s_a_1, .int .i64 2, .int .i64 3] (.tup [(.one (.slice)), (.one (.slice))]) fun (x5 : Sl × Sl × Unit) =>
  L.loop (Y := Int × Unit) (1, ()) fun y6 again7 =>
  L.ite (decide (y6.1 ≤ 3)) (
    L.call Pr n_fleet_Fleet_Up [.pointer x2, .int .i64 y6.1] (.one (.one (.int .i64))) fun (x8 : Int) =>
    L.call Pr n_damperref11_Fleet_Up [.pointer x3, .int .i64 y6.1] (.one (.one (.int .i64))) fun (x9 : Int) =>
    again7 (IntKind.wrap .i64 (y6.1 + 1), ())) <|
  L.join (Y := Unit) (fun k10 =>
    L.loop (Y := Int × Unit) (0, ()) fun y12 again13 =>
    L.ite (decide (y12.1 < ((p0.len : Nat) : Int))) (
      L.ite (decide (y12.1 < 30)) (
        L.join (Y := Unit) (fun k14 =>
          L.idx p0.a y12.1 p0.len 1 fun a16 =>
          L.load (.one (.int .i64)) a16 fun (x17 : Int) =>
          L.call Pr n_damperlaw11_within [.int .i64 x17, .int .i64 20] (.one (.one (.int .i64))) fun (x18 : Int) =>
          L.call Pr n_fleet_Fleet_Take [.pointer x2, .string s_a_1, .int .i64 (IntKind.wrap .i64 (1 + x18))] (.tup [(.one (.int .i64)), (.one (.bool))]) fun (x19 : Int × Bool × Unit) =>
          L.call Pr n_damperref11_Fleet_Take [.pointer x3, .string s_a_1, .int .i64 (IntKind.wrap .i64 (1 + x18))] (.tup [(.one (.int .i64)), (.one (.bool))]) fun (x20 : Int × Bool × Unit) =>
          L.ite (x19.1 != x20.1) (
            K (.bool false)) <|
          L.ite (!(x19.2.1 == x20.2.1)) (
            K (.bool false)) <|
          L.ite (decide (y12.1 < ((p1.len : Nat) : Int))) (
            L.idx p1.a y12.1 p1.len 1 fun a21 =>
            L.load (.one (.int .i64)) a21 fun (x22 : Int) =>
            L.call Pr n_damperlaw11_within [.int .i64 x22, .int .i64 6] (.one (.one (.int .i64))) fun (x23 : Int) =>
            L.call Pr n_fleet_Fleet_Scale [.pointer x2, .string s_b_1, .int .i64 1, .int .i64 x23] (.tup [(.one (.slice)), (.one (.slice))]) fun (x24 : Sl × Sl × Unit) =>
            L.loop (Y := Int × Unit) (0, ()) fun y25 again26 =>
            L.ite (decide (y25.1 < ((x24.1.len : Nat) : Int))) (
              L.idx x24.1.a y25.1 x24.1.len 1 fun a27 =>
              L.load (.one (.int .i64)) a27 fun (x28 : Int) =>
              L.call Pr n_fleet_Fleet_Up [.pointer x2, .int .i64 x28] (.one (.one (.int .i64))) fun (x29 : Int) =>
              again26 (IntKind.wrap .i64 (y25.1 + 1), ())) <|
            L.call Pr n_fleet_Fleet_Take [.pointer x2, .string s_b_1, .int .i64 (IntKind.wrap .i64 (100 + y12.1))] (.tup [(.one (.int .i64)), (.one (.bool))]) fun (x30 : Int × Bool × Unit) =>
            L.idx p1.a y12.1 p1.len 1 fun a31 =>
            L.load (.one (.int .i64)) a31 fun (x32 : Int) =>
            L.call Pr n_damperlaw11_within [.int .i64 x32, .int .i64 30] (.one (.one (.int .i64))) fun (x33 : Int) =>
            L.call Pr n_fleet_Fleet_Give [.pointer x2, .int .i64 (IntKind.wrap .i64 (100 + x33))] (.tup [(.one (.str)), (.one (.int .i64))]) fun (x34 : ByteArray × Int × Unit) =>
            k14 (())) <|
          k14 (())) fun z15 =>
        again13 (IntKind.wrap .i64 (y12.1 + 1), ())) <|
      k10 (())) <|
    k10 (())) fun z11 =>
  L.call Pr n_fleet_Fleet_Pods [.pointer x2, .string s_a_1] (.one (.one (.slice))) fun (x35 : Sl) =>
  L.call Pr n_damperref11_Fleet_Pods [.pointer x3, .string s_a_1] (.one (.one (.slice))) fun (x36 : Sl) =>
  L.ite (((x35.len : Nat) : Int) != ((x36.len : Nat) : Int)) (
    K (.bool false)) <|
  L.loop (Y := Int × Unit) (0, ()) fun y37 again38 =>
  L.ite (decide (y37.1 < ((x35.len : Nat) : Int))) (
    L.draw <|
    L.idx x35.a y37.1 x35.len 3 fun a39 =>
    L.load (.one (.int .i64)) (a39.add 0) fun (x40 : Int) =>
    L.idx x36.a y37.1 x36.len 3 fun a41 =>
    L.load (.one (.int .i64)) (a41.add 0) fun (x42 : Int) =>
    L.ite (x40 != x42) (
      K (.bool false)) <|
    L.idx x35.a y37.1 x35.len 3 fun a43 =>
    L.load (.one (.int .i64)) (a43.add 1) fun (x44 : Int) =>
    L.idx x36.a y37.1 x36.len 3 fun a45 =>
    L.load (.one (.int .i64)) (a45.add 1) fun (x46 : Int) =>
    L.ite (x44 != x46) (
      K (.bool false)) <|
    L.idx x35.a y37.1 x35.len 3 fun a47 =>
    L.load (.one (.int .i64)) (a47.add 2) fun (x48 : Int) =>
    L.idx x36.a y37.1 x36.len 3 fun a49 =>
    L.load (.one (.int .i64)) (a49.add 2) fun (x50 : Int) =>
    L.ite (x48 != x50) (
      K (.bool false)) <|
    again38 (IntKind.wrap .i64 (y37.1 + 1), ())) <|
  K (.bool true)
theorem D_damperlaw11_FleetApart (p0 : Sl) (p1 : Sl) (K : Value → PT) : denF Pr Dt Try.f8 A_damperlaw11_FleetApart [.v (.slice p0.a p0.len p0.cap), .v (.slice p1.a p1.len p1.cap)] K = F_damperlaw11_FleetApart p0 p1 K := by kernel_rfl
theorem C_damperlaw11_FleetApart (p0 : Sl) (p1 : Sl) {K : Value → PT} {w : World} (h : F_damperlaw11_FleetApart p0 p1 K w) : Calls Pr n_damperlaw11_FleetApart [.slice p0.a p0.len p0.cap, .slice p1.a p1.len p1.cap].toArray w fun e w2 => ∃ v, e = .returned v ∧ K v w2 :=
  denF_ok Tok (f := 8) (fn := Try.f8) (an := A_damperlaw11_FleetApart) (args := [.v (.slice p0.a p0.len p0.cap), .v (.slice p1.a p1.len p1.cap)]) (by kernel_rfl) (by kernel_rfl) ((congrFun (D_damperlaw11_FleetApart p0 p1 K) w).mpr h)
theorem E_damperlaw11_FleetApart : Enters Pr n_damperlaw11_FleetApart := enters_of_B (by kernel_rfl)

def A_damperlaw11_FleetOnce : Ann := (.seq .auto (.seq .auto (.seq .auto (.seq .auto (.seq .auto (.seq .auto (.seq .auto (.seq .auto (.seq (.seq .auto (.one [(11, (.one (.int .i64)))] .auto) none) (.seq .auto (.seq (.seq .auto (.one [(13, (.one (.int .i64)))] (.seq (.seq .auto (.cond .auto .auto) none) (.seq (.seq .auto (.seq .auto (.seq .auto (.seq (.seq .auto (.cond .auto .auto) none) .auto (some [])) none) none) none) .auto (some [])) none)) none) (.seq .auto (.seq .auto (.seq (.seq .auto (.one [(19, (.one (.slice))), (20, (.one (.int .i64)))] (.seq .auto (.seq .auto .auto (some [(19, (.one (.slice)))])) none)) none) (.seq .auto (.seq .auto (.seq (.seq .auto (.one [(23, (.one (.int .i64)))] (.seq .auto (.seq .auto .auto (some [])) none)) none) .auto none) none) none) none) none) none) (some [])) none) none) none) none) none) none) none) none) none) none)
/-- damper/damperlaw11.FleetOnce -/
def F_damperlaw11_FleetOnce (p0 : Sl) (p1 : Int) (K : Value → PT) : PT :=
  L.call Pr n_damperlaw11_known [] (.one (.one (.bool))) fun (x1 : Bool) =>
  L.ite (!x1) (
    K (.bool false)) <|
  L.call Pr n_fleet_New [.int .i64 12] (.one (.one (.ptr))) fun (x2 : Option Addr) =>
  L.ite ((x2).isNone) (
    K (.bool false)) <|
  L.call Pr n_fleet_Fleet_Scale [.pointer x2, .string s_a_1, .int .i64 3, .int .i64 3] (.tup [(.one (.slice)), (.one (.slice))]) fun (x3 : Sl × Sl × Unit) =>
  L.call Pr n_fleet_Fleet_Scale [.pointer x2, .string s_b_1, .int .i64 3, .int .i64 3] (.tup [(.one (.slice)), (.one (.slice))]) fun (x4 : Sl × Sl × Unit) =>
  L.new [] T_int fun b5 =>
  L.sem Pr (.one (.one .slice)) (Builtin.append_ #[T_s_int, T_s_int] T_s_int #[.slice (some ⟨b5, 0, none⟩) 0 0, .slice x3.1.a x3.1.len x3.1.cap]) fun (s6 : Sl) =>
  L.sem Pr (.one (.one .slice)) (Builtin.append_ #[T_s_int, T_s_int] T_s_int #[.slice s6.a s6.len s6.cap, .slice x4.1.a x4.1.len x4.1.cap]) fun (s7 : Sl) =>
  L.ite (((s7.len : Nat) : Int) != 6) (
    K (.bool false)) <|
  L.loop (Y := Int × Unit) (0, ()) fun y8 again9 =>
  L.ite (decide (y8.1 < 6)) (
    L.idx s7.a y8.1 s7.len 1 fun a10 =>
    L.load (.one (.int .i64)) a10 fun (x11 : Int) =>
    L.call Pr n_fleet_Fleet_Up [.pointer x2, .int .i64 x11] (.one (.one (.int .i64))) fun (x12 : Int) =>
    L.ite (x12 != 0) (
      K (.bool false)) <|
    again9 (IntKind.wrap .i64 (y8.1 + 1), ())) <|
  L.sem Pr (.one (.one .slice)) (Instr.makeSlice T_s_int (.int .i64 20) (.int .i64 20)) fun (s13 : Sl) =>
  L.join (Y := Unit) (fun k14 =>
    L.loop (Y := Int × Unit) (0, ()) fun y16 again17 =>
    L.ite (decide (y16.1 < ((p0.len : Nat) : Int))) (
      L.ite (decide (y16.1 < 40)) (
        L.join (Y := Unit) (fun k18 =>
          L.idx p0.a y16.1 p0.len 1 fun a20 =>
          L.load (.one (.int .i64)) a20 fun (x21 : Int) =>
          L.call Pr n_damperlaw11_within [.int .i64 x21, .int .i64 19] (.one (.one (.int .i64))) fun (x22 : Int) =>
          L.new [.string s_a_1, .string s_b_1] T_string fun b23 =>
          L.idx p0.a y16.1 p0.len 1 fun a24 =>
          L.load (.one (.int .i64)) a24 fun (x25 : Int) =>
          L.guard (19 ≠ (0 : Int)) <|
          L.call Pr n_damperlaw11_within [.int .i64 (IntKind.wrap .i64 (Int.tdiv x25 19)), .int .i64 2] (.one (.one (.int .i64))) fun (x26 : Int) =>
          L.idx (some ⟨b23, 0, none⟩) x26 2 1 fun a27 =>
          L.load (.one (.str)) a27 fun (x28 : ByteArray) =>
          L.call Pr n_fleet_Fleet_Take [.pointer x2, .string x28, .int .i64 (IntKind.wrap .i64 (1 + x22))] (.tup [(.one (.int .i64)), (.one (.bool))]) fun (x29 : Int × Bool × Unit) =>
          L.join (Y := Unit) (fun k30 =>
            L.ite x29.2.1 (
              L.idx s13.a (IntKind.wrap .i64 (1 + x22)) s13.len 1 fun a32 =>
              L.load (.one (.int .i64)) a32 fun (x33 : Int) =>
              L.ite (decide (x33 > 0)) (
                K (.bool false)) <|
              L.ite x29.2.1 (
                L.call Pr n_fleet_Fleet_Of [.pointer x2, .int .i64 x29.1] (.one (.one (.str))) fun (x34 : ByteArray) =>
                L.ite (!(x34.toList == x28.toList)) (
                  K (.bool false)) <|
                k30 (())) <|
              k30 (())) <|
            L.ite x29.2.1 (
              L.call Pr n_fleet_Fleet_Of [.pointer x2, .int .i64 x29.1] (.one (.one (.str))) fun (x35 : ByteArray) =>
              L.ite (!(x35.toList == x28.toList)) (
                K (.bool false)) <|
              k30 (())) <|
            k30 (())) fun z31 =>
          L.ite x29.2.1 (
            L.idx s13.a (IntKind.wrap .i64 (1 + x22)) s13.len 1 fun a36 =>
            L.store a36 [.int .i64 x29.1] <|
            k18 (())) <|
          k18 (())) fun z19 =>
        again17 (IntKind.wrap .i64 (y16.1 + 1), ())) <|
      k14 (())) <|
    k14 (())) fun z15 =>
  L.call Pr n_damperlaw11_within [.int .i64 p1, .int .i64 6] (.one (.one (.int .i64))) fun (x37 : Int) =>
  L.idx s7.a x37 s7.len 1 fun a38 =>
  L.load (.one (.int .i64)) a38 fun (x39 : Int) =>
  L.loop (Y := Sl × Int × Unit) (⟨none, 0, 0⟩, 1, ()) fun y40 again41 =>
  L.ite (decide (y40.2.1 < 20)) (
    L.join (Y := Sl × Unit) (fun k42 =>
      L.idx s13.a y40.2.1 s13.len 1 fun a44 =>
      L.load (.one (.int .i64)) a44 fun (x45 : Int) =>
      L.ite (x45 == x39) (
        L.new [.int .i64 y40.2.1] T_int fun b46 =>
        L.sem Pr (.one (.one .slice)) (Builtin.append_ #[T_s_int, T_s_int] T_s_int #[.slice y40.1.a y40.1.len y40.1.cap, .slice (some ⟨b46, 0, none⟩) 1 1]) fun (s47 : Sl) =>
        k42 (⟨s47.a, s47.len, s47.cap⟩, ())) <|
      k42 (⟨y40.1.a, y40.1.len, y40.1.cap⟩, ())) fun z43 =>
    again41 (⟨z43.1.a, z43.1.len, z43.1.cap⟩, IntKind.wrap .i64 (y40.2.1 + 1), ())) <|
  L.call Pr n_fleet_Fleet_Kill [.pointer x2, .int .i64 x39] (.tup [(.one (.slice)), (.one (.int .i64))]) fun (x48 : Sl × Int × Unit) =>
  L.ite (x48.2.1 != 0) (
    K (.bool false)) <|
  L.call Pr n_damperlaw8_Ints [.slice x48.1.a x48.1.len x48.1.cap, .slice y40.1.a y40.1.len y40.1.cap] (.one (.one (.bool))) fun (x49 : Bool) =>
  L.ite (!x49) (
    K (.bool false)) <|
  L.call Pr n_fleet_Fleet_Of [.pointer x2, .int .i64 x39] (.one (.one (.str))) fun (x50 : ByteArray) =>
  L.ite (!(x50.toList == s_.toList)) (
    K (.bool false)) <|
  L.call Pr n_fleet_Fleet_Live [.pointer x2] (.one (.one (.int .i64))) fun (x51 : Int) =>
  L.ite (x51 != 5) (
    K (.bool false)) <|
  L.loop (Y := Int × Unit) (1, ()) fun y52 again53 =>
  L.ite (decide (y52.1 < 20)) (
    L.join (Y := Unit) (fun k54 =>
      L.call Pr n_fleet_Fleet_Give [.pointer x2, .int .i64 y52.1] (.tup [(.one (.str)), (.one (.int .i64))]) fun (x56 : ByteArray × Int × Unit) =>
      L.idx s13.a y52.1 s13.len 1 fun a57 =>
      L.load (.one (.int .i64)) a57 fun (x58 : Int) =>
      L.ite (decide (x58 > 0)) (
        L.idx s13.a y52.1 s13.len 1 fun a59 =>
        L.load (.one (.int .i64)) a59 fun (x60 : Int) =>
        L.ite (!((x56.2.1 == 0) == (x60 != x39))) (
          K (.bool false)) <|
        k54 (())) <|
      L.ite (!((x56.2.1 == 0) == false)) (
        K (.bool false)) <|
      k54 (())) fun z55 =>
    again53 (IntKind.wrap .i64 (y52.1 + 1), ())) <|
  K (.bool true)
theorem D_damperlaw11_FleetOnce (p0 : Sl) (p1 : Int) (K : Value → PT) : denF Pr Dt Try.f9 A_damperlaw11_FleetOnce [.v (.slice p0.a p0.len p0.cap), .v (.int .i64 p1)] K = F_damperlaw11_FleetOnce p0 p1 K := by kernel_rfl
theorem C_damperlaw11_FleetOnce (p0 : Sl) (p1 : Int) {K : Value → PT} {w : World} (h : F_damperlaw11_FleetOnce p0 p1 K w) : Calls Pr n_damperlaw11_FleetOnce [.slice p0.a p0.len p0.cap, .int .i64 p1].toArray w fun e w2 => ∃ v, e = .returned v ∧ K v w2 :=
  denF_ok Tok (f := 9) (fn := Try.f9) (an := A_damperlaw11_FleetOnce) (args := [.v (.slice p0.a p0.len p0.cap), .v (.int .i64 p1)]) (by kernel_rfl) (by kernel_rfl) ((congrFun (D_damperlaw11_FleetOnce p0 p1 K) w).mpr h)
theorem E_damperlaw11_FleetOnce : Enters Pr n_damperlaw11_FleetOnce := enters_of_B (by kernel_rfl)

def A_damperlaw11_known : Ann := .auto
/-- damper/damperlaw11.known -/
def F_damperlaw11_known  (K : Value → PT) : PT :=
  L.call Pr n_fleet_New [.int .i64 3] (.one (.one (.ptr))) fun (x1 : Option Addr) =>
  L.ite ((x1).isNone) (
    K (.bool false)) <|
  L.call Pr n_fleet_Fleet_Live [.pointer x1] (.one (.one (.int .i64))) fun (x2 : Int) =>
  L.ite (x2 != 0) (
    K (.bool false)) <|
  L.call Pr n_fleet_Fleet_Scale [.pointer x1, .string s_a_1, .int .i64 2, .int .i64 1] (.tup [(.one (.slice)), (.one (.slice))]) fun (x3 : Sl × Sl × Unit) =>
  L.ite (((x3.1.len : Nat) : Int) == 1) (
    L.idx x3.1.a 0 x3.1.len 1 fun a4 =>
    L.load (.one (.int .i64)) a4 fun (x5 : Int) =>
    L.ite (x5 == 1) (
      L.ite (((x3.2.1.len : Nat) : Int) == 0) (
        L.call Pr n_fleet_Fleet_Live [.pointer x1] (.one (.one (.int .i64))) fun (x6 : Int) =>
        L.ite (x6 == 1) (
          L.call Pr n_fleet_Fleet_Of [.pointer x1, .int .i64 1] (.one (.one (.str))) fun (x7 : ByteArray) =>
          L.ite (x7.toList == s_a_1.toList) (
            L.call Pr n_fleet_Fleet_Up [.pointer x1, .int .i64 1] (.one (.one (.int .i64))) fun (x8 : Int) =>
            K (.bool (x8 == 0))) <|
          K (.bool false)) <|
        K (.bool false)) <|
      K (.bool false)) <|
    K (.bool false)) <|
  K (.bool false)
theorem D_damperlaw11_known  (K : Value → PT) : denF Pr Dt Try.f10 A_damperlaw11_known [] K = F_damperlaw11_known  K := by kernel_rfl
theorem C_damperlaw11_known  {K : Value → PT} {w : World} (h : F_damperlaw11_known  K w) : Calls Pr n_damperlaw11_known [].toArray w fun e w2 => ∃ v, e = .returned v ∧ K v w2 :=
  denF_ok Tok (f := 10) (fn := Try.f10) (an := A_damperlaw11_known) (args := []) (by kernel_rfl) (by kernel_rfl) ((congrFun (D_damperlaw11_known  K) w).mpr h)
theorem E_damperlaw11_known : Enters Pr n_damperlaw11_known := enters_of_B (by kernel_rfl)

def A_damperlaw11_within : Ann := (.seq .auto (.seq .auto (.seq .auto .auto (some [(5, (.one (.int .i64)))])) none) none)
/-- damper/damperlaw11.within -/
def F_damperlaw11_within (p0 : Int) (p1 : Int) (K : Value → PT) : PT :=
  L.guard (p1 ≠ (0 : Int)) <|
  L.join (Y := Int × Unit) (fun k1 =>
    L.ite (decide ((Int.tmod p0 p1) < 0)) (
      k1 (IntKind.wrap .i64 ((Int.tmod p0 p1) + p1), ())) <|
    k1 (Int.tmod p0 p1, ())) fun z2 =>
  K (.int .i64 z2.1)
theorem D_damperlaw11_within (p0 : Int) (p1 : Int) (K : Value → PT) : denF Pr Dt Try.f11 A_damperlaw11_within [.v (.int .i64 p0), .v (.int .i64 p1)] K = F_damperlaw11_within p0 p1 K := by kernel_rfl
theorem C_damperlaw11_within (p0 : Int) (p1 : Int) {K : Value → PT} {w : World} (h : F_damperlaw11_within p0 p1 K w) : Calls Pr n_damperlaw11_within [.int .i64 p0, .int .i64 p1].toArray w fun e w2 => ∃ v, e = .returned v ∧ K v w2 :=
  denF_ok Tok (f := 11) (fn := Try.f11) (an := A_damperlaw11_within) (args := [.v (.int .i64 p0), .v (.int .i64 p1)]) (by kernel_rfl) (by kernel_rfl) ((congrFun (D_damperlaw11_within p0 p1 K) w).mpr h)
theorem E_damperlaw11_within : Enters Pr n_damperlaw11_within := enters_of_B (by kernel_rfl)

def A_fleet_New : Ann := .auto
/-- damper/fleet.New -/
def F_fleet_New (p0 : Int) (K : Value → PT) : PT :=
  L.sem Pr (.one (.one .map)) (Instr.makeMap T_map_int_fleet_one none) fun (m1 : Option Nat) =>
  L.sem Pr (.one (.one .map)) (Instr.makeMap T_map_int_int none) fun (m2 : Option Nat) =>
  L.new [.map m1, .map m2, .int .i64 p0, .int .i64 0] T_fleet_Fleet fun b3 =>
  K (.pointer (some (⟨b3, 0, none⟩)))
theorem D_fleet_New (p0 : Int) (K : Value → PT) : denF Pr Dt Try.f12 A_fleet_New [.v (.int .i64 p0)] K = F_fleet_New p0 K := by kernel_rfl
theorem C_fleet_New (p0 : Int) {K : Value → PT} {w : World} (h : F_fleet_New p0 K w) : Calls Pr n_fleet_New [.int .i64 p0].toArray w fun e w2 => ∃ v, e = .returned v ∧ K v w2 :=
  denF_ok Tok (f := 12) (fn := Try.f12) (an := A_fleet_New) (args := [.v (.int .i64 p0)]) (by kernel_rfl) (by kernel_rfl) ((congrFun (D_fleet_New p0 K) w).mpr h)
theorem E_fleet_New : Enters Pr n_fleet_New := enters_of_B (by kernel_rfl)

def A_damperlaw11_revs : Ann := .auto
/-- damper/damperlaw11.revs -/
def F_damperlaw11_revs  (K : Value → PT) : PT :=
  L.new [.string s_a_1, .string s_a_2, .string s_b_1] T_string fun b1 =>
  K (.slice (some ⟨b1, 0, none⟩) 3 3)
theorem D_damperlaw11_revs  (K : Value → PT) : denF Pr Dt Try.f13 A_damperlaw11_revs [] K = F_damperlaw11_revs  K := by kernel_rfl
theorem C_damperlaw11_revs  {K : Value → PT} {w : World} (h : F_damperlaw11_revs  K w) : Calls Pr n_damperlaw11_revs [].toArray w fun e w2 => ∃ v, e = .returned v ∧ K v w2 :=
  denF_ok Tok (f := 13) (fn := Try.f13) (an := A_damperlaw11_revs) (args := []) (by kernel_rfl) (by kernel_rfl) ((congrFun (D_damperlaw11_revs  K) w).mpr h)
theorem E_damperlaw11_revs : Enters Pr n_damperlaw11_revs := enters_of_B (by kernel_rfl)

def A_fleet_Fleet_Scale : Ann := (.seq .auto (.seq .auto (.seq (.one [(8, (.one (.slice))), (10, (.one (.int .i64)))] (.seq (.seq .auto (.cond .auto .auto) none) .auto none)) (.seq (.one [(9, (.one (.slice))), (10, (.one (.int .i64)))] .auto) .auto none) (some [(8, (.one (.slice))), (10, (.one (.int .i64)))])) none) none)
/-- (*damper/fleet.Fleet).Scale -/
def F_fleet_Fleet_Scale (p0 : Option Addr) (p1 : ByteArray) (p2 : Int) (p3 : Int) (K : Value → PT) : PT :=
  L.call Pr n_fleet_Fleet_up [.pointer p0, .string p1] (.one (.one (.int .i64))) fun (x1 : Int) =>
  L.join (Y := Sl × Int × Unit) (fun k2 =>
    L.loop (Y := Sl × Int × Unit) (⟨none, 0, 0⟩, x1, ()) fun y4 again5 =>
    L.draw <|
    L.ite (decide (y4.2.1 < p3)) (
      L.nonnil p0 fun a6 =>
      L.load (.one (.map)) (a6.add 0) fun (x7 : Option Nat) =>
      L.semR Pr (.one (.one (.int .i64))) (Builtin.len_ #[T_map_int_fleet_one] T_int #[.map x7]) fun (x8 : Int) =>
      L.nonnil p0 fun a9 =>
      L.load (.one (.int .i64)) (a9.add 2) fun (x10 : Int) =>
      L.ite (decide (x8 < x10)) (
        L.nonnil p0 fun a11 =>
        L.load (.one (.int .i64)) (a11.add 3) fun (x12 : Int) =>
        L.nonnil p0 fun a13 =>
        L.store (a13.add 3) [.int .i64 (IntKind.wrap .i64 (x12 + 1))] <|
        L.draw <|
        L.nonnil p0 fun a14 =>
        L.load (.one (.map)) (a14.add 0) fun (x15 : Option Nat) =>
        L.nonnil p0 fun a16 =>
        L.load (.one (.int .i64)) (a16.add 3) fun (x17 : Int) =>
        L.call Pr n_pod_New [.int .i64 p2] (.one (.one (.ptr))) fun (x18 : Option Addr) =>
        L.chk (a16.add 3) [.int .i64 x17] <|
        L.chk (a14.add 0) [.map x15] <|
        L.semU Pr (Instr.mapUpdate T_map_int_fleet_one (.map x15) (.int .i64 x17) (.agg #[.string p1, .pointer x18])) <|
        L.nonnil p0 fun a19 =>
        L.load (.one (.int .i64)) (a19.add 3) fun (x20 : Int) =>
        L.new [.int .i64 x20] T_int fun b21 =>
        L.sem Pr (.one (.one .slice)) (Builtin.append_ #[T_s_int, T_s_int] T_s_int #[.slice y4.1.a y4.1.len y4.1.cap, .slice (some ⟨b21, 0, none⟩) 1 1]) fun (s22 : Sl) =>
        again5 (⟨s22.a, s22.len, s22.cap⟩, IntKind.wrap .i64 (y4.2.1 + 1), ())) <|
      k2 (⟨y4.1.a, y4.1.len, y4.1.cap⟩, y4.2.1, ())) <|
    k2 (⟨y4.1.a, y4.1.len, y4.1.cap⟩, y4.2.1, ())) fun z3 =>
  L.loop (Y := Sl × Int × Unit) (⟨none, 0, 0⟩, z3.2.1, ()) fun y23 again24 =>
  L.ite (decide (y23.2.1 > (if 0 > p3 then 0 else p3))) (
    L.call Pr n_fleet_Fleet_spare [.pointer p0, .string p1] (.one (.one (.int .i64))) fun (x25 : Int) =>
    L.nonnil p0 fun a26 =>
    L.load (.one (.map)) (a26.add 0) fun (x27 : Option Nat) =>
    L.semR Pr (.one (.agg [.str, .ptr])) (Instr.lookup T_map_int_fleet_one (.map x27) (.int .i64 x25) false) fun (x28 : ByteArray × Option Addr × Unit) =>
    L.call Pr n_pod_Pod_Drain [.pointer x28.2.1] (.one (.one (.int .i64))) fun (x29 : Int) =>
    L.call Pr n_fleet_Fleet_end [.pointer p0, .int .i64 x25] (.tup []) fun (x30 : Unit) =>
    L.new [.int .i64 x25] T_int fun b31 =>
    L.sem Pr (.one (.one .slice)) (Builtin.append_ #[T_s_int, T_s_int] T_s_int #[.slice y23.1.a y23.1.len y23.1.cap, .slice (some ⟨b31, 0, none⟩) 1 1]) fun (s32 : Sl) =>
    again24 (⟨s32.a, s32.len, s32.cap⟩, IntKind.wrap .i64 (y23.2.1 - 1), ())) <|
  L.call Pr n_slices_Clone_int_int [.slice z3.1.a z3.1.len z3.1.cap] (.one (.one (.slice))) fun (x33 : Sl) =>
  L.call Pr n_slices_Clone_int_int [.slice y23.1.a y23.1.len y23.1.cap] (.one (.one (.slice))) fun (x34 : Sl) =>
  K (.tuple #[.slice x33.a x33.len x33.cap, .slice x34.a x34.len x34.cap])
theorem D_fleet_Fleet_Scale (p0 : Option Addr) (p1 : ByteArray) (p2 : Int) (p3 : Int) (K : Value → PT) : denF Pr Dt Try.f14 A_fleet_Fleet_Scale [.v (.pointer p0), .v (.string p1), .v (.int .i64 p2), .v (.int .i64 p3)] K = F_fleet_Fleet_Scale p0 p1 p2 p3 K := by kernel_rfl
theorem C_fleet_Fleet_Scale (p0 : Option Addr) (p1 : ByteArray) (p2 : Int) (p3 : Int) {K : Value → PT} {w : World} (h : F_fleet_Fleet_Scale p0 p1 p2 p3 K w) : Calls Pr n_fleet_Fleet_Scale [.pointer p0, .string p1, .int .i64 p2, .int .i64 p3].toArray w fun e w2 => ∃ v, e = .returned v ∧ K v w2 :=
  denF_ok Tok (f := 14) (fn := Try.f14) (an := A_fleet_Fleet_Scale) (args := [.v (.pointer p0), .v (.string p1), .v (.int .i64 p2), .v (.int .i64 p3)]) (by kernel_rfl) (by kernel_rfl) ((congrFun (D_fleet_Fleet_Scale p0 p1 p2 p3 K) w).mpr h)
theorem E_fleet_Fleet_Scale : Enters Pr n_fleet_Fleet_Scale := enters_of_B (by kernel_rfl)

def A_fleet_Fleet_Pods : Ann := (.seq .auto (.seq .auto (.seq (.seq .auto (.seq .auto .auto (some [(11, (.one (.int .i64))), (12, (.one (.ptr)))])) none) .auto none) none) none)
/-- (*damper/fleet.Fleet).Pods -/
def F_fleet_Fleet_Pods (p0 : Option Addr) (p1 : ByteArray) (K : Value → PT) : PT :=
  L.new [.slice none 0 0] T_s_fleet_Look fun b1 =>
  L.call Pr n_fleet_Fleet_of [.pointer p0, .string p1] (.one (.one (.func))) fun (x2 : FV) =>
  L.range Pr none (.func x2.fn x2.fs x2.cs) [(.one (.int .i64)), (.one (.ptr))] (fun l3 (y4 : Int × Option Addr × Unit) R5 =>
    L.begin Pr l3 <|
    L.draw <|
    L.load (.one (.slice)) (⟨b1, 0, none⟩) fun (x8 : Sl) =>
    L.call Pr n_pod_Pod_State [.pointer y4.2.1] (.one (.one (.int .i64))) fun (x9 : Int) =>
    L.chk (⟨b1, 0, none⟩) [.slice x8.a x8.len x8.cap] <|
    L.call Pr n_pod_Pod_Load [.pointer y4.2.1] (.one (.one (.int .i64))) fun (x10 : Int) =>
    L.chk (⟨b1, 0, none⟩) [.slice x8.a x8.len x8.cap] <|
    L.new [.int .i64 y4.1, .int .i64 x9, .int .i64 x10] T_fleet_Look fun b11 =>
    L.chk (⟨b1, 0, none⟩) [.slice x8.a x8.len x8.cap] <|
    L.sem Pr (.one (.one .slice)) (Builtin.append_ #[T_s_fleet_Look, T_s_fleet_Look] T_s_fleet_Look #[.slice x8.a x8.len x8.cap, .slice (some ⟨b11, 0, none⟩) 1 1]) fun (s12 : Sl) =>
    L.store (⟨b1, 0, none⟩) [.slice s12.a s12.len s12.cap] <|
    L.endRound Pr l3 none R5) fun d6 j7 =>
  L.jump j7 (
    L.load (.one (.slice)) (⟨b1, 0, none⟩) fun (x13 : Sl) =>
    L.call Pr n_slices_Clone_fleet_Look_fleet_Look [.slice x13.a x13.len x13.cap] (.one (.one (.slice))) fun (x14 : Sl) =>
    L.unmark Pr (d6 ++ []) <|
    K (.slice x14.a x14.len x14.cap)) (
    L.unmark Pr (d6 ++ []) <|
    K (.slice none 0 0)) []
theorem D_fleet_Fleet_Pods (p0 : Option Addr) (p1 : ByteArray) (K : Value → PT) : denF Pr Dt Try.f15 A_fleet_Fleet_Pods [.v (.pointer p0), .v (.string p1)] K = F_fleet_Fleet_Pods p0 p1 K := by kernel_rfl
theorem C_fleet_Fleet_Pods (p0 : Option Addr) (p1 : ByteArray) {K : Value → PT} {w : World} (h : F_fleet_Fleet_Pods p0 p1 K w) : Calls Pr n_fleet_Fleet_Pods [.pointer p0, .string p1].toArray w fun e w2 => ∃ v, e = .returned v ∧ K v w2 :=
  denF_ok Tok (f := 15) (fn := Try.f15) (an := A_fleet_Fleet_Pods) (args := [.v (.pointer p0), .v (.string p1)]) (by kernel_rfl) (by kernel_rfl) ((congrFun (D_fleet_Fleet_Pods p0 p1 K) w).mpr h)
theorem E_fleet_Fleet_Pods : Enters Pr n_fleet_Fleet_Pods := enters_of_B (by kernel_rfl)

def A_fleet_Fleet_Live : Ann := .auto
/-- (*damper/fleet.Fleet).Live -/
def F_fleet_Fleet_Live (p0 : Option Addr) (K : Value → PT) : PT :=
  L.nonnil p0 fun a1 =>
  L.load (.one (.map)) (a1.add 0) fun (x2 : Option Nat) =>
  L.semR Pr (.one (.one (.int .i64))) (Builtin.len_ #[T_map_int_fleet_one] T_int #[.map x2]) fun (x3 : Int) =>
  K (.int .i64 x3)
theorem D_fleet_Fleet_Live (p0 : Option Addr) (K : Value → PT) : denF Pr Dt Try.f16 A_fleet_Fleet_Live [.v (.pointer p0)] K = F_fleet_Fleet_Live p0 K := by kernel_rfl
theorem C_fleet_Fleet_Live (p0 : Option Addr) {K : Value → PT} {w : World} (h : F_fleet_Fleet_Live p0 K w) : Calls Pr n_fleet_Fleet_Live [.pointer p0].toArray w fun e w2 => ∃ v, e = .returned v ∧ K v w2 :=
  denF_ok Tok (f := 16) (fn := Try.f16) (an := A_fleet_Fleet_Live) (args := [.v (.pointer p0)]) (by kernel_rfl) (by kernel_rfl) ((congrFun (D_fleet_Fleet_Live p0 K) w).mpr h)
theorem E_fleet_Fleet_Live : Enters Pr n_fleet_Fleet_Live := enters_of_B (by kernel_rfl)

def A_fleet_Fleet_Of : Ann := .auto
/-- (*damper/fleet.Fleet).Of -/
def F_fleet_Fleet_Of (p0 : Option Addr) (p1 : Int) (K : Value → PT) : PT :=
  L.nonnil p0 fun a1 =>
  L.load (.one (.map)) (a1.add 0) fun (x2 : Option Nat) =>
  L.semR Pr (.one (.agg [.str, .ptr])) (Instr.lookup T_map_int_fleet_one (.map x2) (.int .i64 p1) false) fun (x3 : ByteArray × Option Addr × Unit) =>
  K (.string x3.1)
theorem D_fleet_Fleet_Of (p0 : Option Addr) (p1 : Int) (K : Value → PT) : denF Pr Dt Try.f17 A_fleet_Fleet_Of [.v (.pointer p0), .v (.int .i64 p1)] K = F_fleet_Fleet_Of p0 p1 K := by kernel_rfl
theorem C_fleet_Fleet_Of (p0 : Option Addr) (p1 : Int) {K : Value → PT} {w : World} (h : F_fleet_Fleet_Of p0 p1 K w) : Calls Pr n_fleet_Fleet_Of [.pointer p0, .int .i64 p1].toArray w fun e w2 => ∃ v, e = .returned v ∧ K v w2 :=
  denF_ok Tok (f := 17) (fn := Try.f17) (an := A_fleet_Fleet_Of) (args := [.v (.pointer p0), .v (.int .i64 p1)]) (by kernel_rfl) (by kernel_rfl) ((congrFun (D_fleet_Fleet_Of p0 p1 K) w).mpr h)
theorem E_fleet_Fleet_Of : Enters Pr n_fleet_Fleet_Of := enters_of_B (by kernel_rfl)

def A_fleet_Fleet_Up : Ann := .auto
/-- (*damper/fleet.Fleet).Up -/
def F_fleet_Fleet_Up (p0 : Option Addr) (p1 : Int) (K : Value → PT) : PT :=
  L.nonnil p0 fun a1 =>
  L.load (.one (.map)) (a1.add 0) fun (x2 : Option Nat) =>
  L.semR Pr (.tup [(.agg [.str, .ptr]), .one .bool]) (Instr.lookup T_map_int_fleet_one (.map x2) (.int .i64 p1) true) fun (x3 : (ByteArray × Option Addr × Unit) × Bool × Unit) =>
  L.new [.string s_, .pointer none] T_fleet_one fun b4 =>
  L.store (⟨b4, 0, none⟩) [.string x3.1.1, .pointer x3.1.2.1] <|
  L.ite (!x3.2.1) (
    K (.int .i64 6)) <|
  L.load (.one (.ptr)) ((⟨b4, 0, none⟩ : Addr).add 1) fun (x5 : Option Addr) =>
  L.call Pr n_pod_Pod_Up [.pointer x5] (.one (.one (.int .i64))) fun (x6 : Int) =>
  K (.int .i64 x6)
theorem D_fleet_Fleet_Up (p0 : Option Addr) (p1 : Int) (K : Value → PT) : denF Pr Dt Try.f18 A_fleet_Fleet_Up [.v (.pointer p0), .v (.int .i64 p1)] K = F_fleet_Fleet_Up p0 p1 K := by kernel_rfl
theorem C_fleet_Fleet_Up (p0 : Option Addr) (p1 : Int) {K : Value → PT} {w : World} (h : F_fleet_Fleet_Up p0 p1 K w) : Calls Pr n_fleet_Fleet_Up [.pointer p0, .int .i64 p1].toArray w fun e w2 => ∃ v, e = .returned v ∧ K v w2 :=
  denF_ok Tok (f := 18) (fn := Try.f18) (an := A_fleet_Fleet_Up) (args := [.v (.pointer p0), .v (.int .i64 p1)]) (by kernel_rfl) (by kernel_rfl) ((congrFun (D_fleet_Fleet_Up p0 p1 K) w).mpr h)
theorem E_fleet_Fleet_Up : Enters Pr n_fleet_Fleet_Up := enters_of_B (by kernel_rfl)

def A_fleet_Fleet_Take : Ann := (.seq .auto (.seq .auto (.seq .auto (.seq (.seq .auto (.seq .auto .auto (some [(28, (.one (.int .i64))), (29, (.one (.ptr)))])) none) (.seq .auto (.seq (.seq .auto (.one [(41, (.one (.int .i64)))] .auto) none) .auto none) none) none) none) none) none)
/-- (*damper/fleet.Fleet).Take -/
def F_fleet_Fleet_Take (p0 : Option Addr) (p1 : ByteArray) (p2 : Int) (K : Value → PT) : PT :=
  L.nonnil p0 fun a1 =>
  L.load (.one (.map)) (a1.add 1) fun (x2 : Option Nat) =>
  L.semR Pr (.tup [(.one (.int .i64)), .one .bool]) (Instr.lookup T_map_int_int (.map x2) (.int .i64 p2) true) fun (x3 : Int × Bool × Unit) =>
  L.ite x3.2.1 (
    K (.tuple #[.int .i64 0, .bool false])) <|
  L.new [.slice none 0 0] T_s_fleet_choice fun b4 =>
  L.call Pr n_fleet_Fleet_of [.pointer p0, .string p1] (.one (.one (.func))) fun (x5 : FV) =>
  L.range Pr none (.func x5.fn x5.fs x5.cs) [(.one (.int .i64)), (.one (.ptr))] (fun l6 (y7 : Int × Option Addr × Unit) R8 =>
    L.begin Pr l6 <|
    L.draw <|
    L.load (.one (.slice)) (⟨b4, 0, none⟩) fun (x11 : Sl) =>
    L.call Pr n_pod_Pod_Load [.pointer y7.2.1] (.one (.one (.int .i64))) fun (x12 : Int) =>
    L.chk (⟨b4, 0, none⟩) [.slice x11.a x11.len x11.cap] <|
    L.new [.int .i64 x12, .int .i64 y7.1] T_fleet_choice fun b13 =>
    L.chk (⟨b4, 0, none⟩) [.slice x11.a x11.len x11.cap] <|
    L.sem Pr (.one (.one .slice)) (Builtin.append_ #[T_s_fleet_choice, T_s_fleet_choice] T_s_fleet_choice #[.slice x11.a x11.len x11.cap, .slice (some ⟨b13, 0, none⟩) 1 1]) fun (s14 : Sl) =>
    L.store (⟨b4, 0, none⟩) [.slice s14.a s14.len s14.cap] <|
    L.endRound Pr l6 none R8) fun d9 j10 =>
  L.jump j10 (
    L.load (.one (.slice)) (⟨b4, 0, none⟩) fun (x15 : Sl) =>
    L.call Pr n_slices_SortStableFunc_fleet_choice_fleet_choice [.slice x15.a x15.len x15.cap, .func (.func n_fleet_Fleet_Take_1) #[] #[]] (.tup []) fun (x16 : Unit) =>
    L.load (.one (.slice)) (⟨b4, 0, none⟩) fun (x17 : Sl) =>
    L.loop (Y := Int × Unit) (0, ()) fun y18 again19 =>
    L.ite (decide (y18.1 < ((x17.len : Nat) : Int))) (
      L.idx x17.a y18.1 x17.len 2 fun a20 =>
      L.load (.agg [.int .i64, .int .i64]) a20 fun (x21 : Int × Int × Unit) =>
      L.new [.int .i64 0, .int .i64 0] T_fleet_choice fun b22 =>
      L.store (⟨b22, 0, none⟩) [.int .i64 x21.1, .int .i64 x21.2.1] <|
      L.draw <|
      L.nonnil p0 fun a23 =>
      L.load (.one (.map)) (a23.add 0) fun (x24 : Option Nat) =>
      L.load (.one (.int .i64)) ((⟨b22, 0, none⟩ : Addr).add 1) fun (x25 : Int) =>
      L.semR Pr (.one (.agg [.str, .ptr])) (Instr.lookup T_map_int_fleet_one (.map x24) (.int .i64 x25) false) fun (x26 : ByteArray × Option Addr × Unit) =>
      L.call Pr n_pod_Pod_Take [.pointer x26.2.1, .int .i64 p2] (.one (.one (.int .i64))) fun (x27 : Int) =>
      L.ite (x27 == 0) (
        L.draw <|
        L.nonnil p0 fun a28 =>
        L.load (.one (.map)) (a28.add 1) fun (x29 : Option Nat) =>
        L.load (.one (.int .i64)) ((⟨b22, 0, none⟩ : Addr).add 1) fun (x30 : Int) =>
        L.semU Pr (Instr.mapUpdate T_map_int_int (.map x29) (.int .i64 p2) (.int .i64 x30)) <|
        L.load (.one (.int .i64)) ((⟨b22, 0, none⟩ : Addr).add 1) fun (x31 : Int) =>
        L.unmark Pr (d9 ++ []) <|
        K (.tuple #[.int .i64 x31, .bool true])) <|
      again19 (IntKind.wrap .i64 (y18.1 + 1), ())) <|
    L.unmark Pr (d9 ++ []) <|
    K (.tuple #[.int .i64 0, .bool false])) (
    L.unmark Pr (d9 ++ []) <|
    K (.tuple #[.int .i64 0, .bool false])) []
theorem D_fleet_Fleet_Take (p0 : Option Addr) (p1 : ByteArray) (p2 : Int) (K : Value → PT) : denF Pr Dt Try.f19 A_fleet_Fleet_Take [.v (.pointer p0), .v (.string p1), .v (.int .i64 p2)] K = F_fleet_Fleet_Take p0 p1 p2 K := by kernel_rfl
theorem C_fleet_Fleet_Take (p0 : Option Addr) (p1 : ByteArray) (p2 : Int) {K : Value → PT} {w : World} (h : F_fleet_Fleet_Take p0 p1 p2 K w) : Calls Pr n_fleet_Fleet_Take [.pointer p0, .string p1, .int .i64 p2].toArray w fun e w2 => ∃ v, e = .returned v ∧ K v w2 :=
  denF_ok Tok (f := 19) (fn := Try.f19) (an := A_fleet_Fleet_Take) (args := [.v (.pointer p0), .v (.string p1), .v (.int .i64 p2)]) (by kernel_rfl) (by kernel_rfl) ((congrFun (D_fleet_Fleet_Take p0 p1 p2 K) w).mpr h)
theorem E_fleet_Fleet_Take : Enters Pr n_fleet_Fleet_Take := enters_of_B (by kernel_rfl)

def A_fleet_Fleet_Give : Ann := .auto
/-- (*damper/fleet.Fleet).Give -/
def F_fleet_Fleet_Give (p0 : Option Addr) (p1 : Int) (K : Value → PT) : PT :=
  L.nonnil p0 fun a1 =>
  L.load (.one (.map)) (a1.add 1) fun (x2 : Option Nat) =>
  L.semR Pr (.tup [(.one (.int .i64)), .one .bool]) (Instr.lookup T_map_int_int (.map x2) (.int .i64 p1) true) fun (x3 : Int × Bool × Unit) =>
  L.ite (!x3.2.1) (
    K (.tuple #[.string s_, .int .i64 6])) <|
  L.nonnil p0 fun a4 =>
  L.load (.one (.map)) (a4.add 0) fun (x5 : Option Nat) =>
  L.semR Pr (.one (.agg [.str, .ptr])) (Instr.lookup T_map_int_fleet_one (.map x5) (.int .i64 x3.1) false) fun (x6 : ByteArray × Option Addr × Unit) =>
  L.new [.string s_, .pointer none] T_fleet_one fun b7 =>
  L.store (⟨b7, 0, none⟩) [.string x6.1, .pointer x6.2.1] <|
  L.load (.one (.ptr)) ((⟨b7, 0, none⟩ : Addr).add 1) fun (x8 : Option Addr) =>
  L.call Pr n_pod_Pod_Give [.pointer x8, .int .i64 p1] (.one (.one (.int .i64))) fun (x9 : Int) =>
  L.nonnil p0 fun a10 =>
  L.load (.one (.map)) (a10.add 1) fun (x11 : Option Nat) =>
  L.sem Pr (.tup []) (Builtin.delete_ #[T_map_int_int, T_int] T_ #[.map x11, .int .i64 p1]) fun _ =>
  L.call Pr n_fleet_Fleet_end [.pointer p0, .int .i64 x3.1] (.tup []) fun (x12 : Unit) =>
  L.load (.one (.str)) ((⟨b7, 0, none⟩ : Addr).add 0) fun (x13 : ByteArray) =>
  K (.tuple #[.string x13, .int .i64 0])
theorem D_fleet_Fleet_Give (p0 : Option Addr) (p1 : Int) (K : Value → PT) : denF Pr Dt Try.f20 A_fleet_Fleet_Give [.v (.pointer p0), .v (.int .i64 p1)] K = F_fleet_Fleet_Give p0 p1 K := by kernel_rfl
theorem C_fleet_Fleet_Give (p0 : Option Addr) (p1 : Int) {K : Value → PT} {w : World} (h : F_fleet_Fleet_Give p0 p1 K w) : Calls Pr n_fleet_Fleet_Give [.pointer p0, .int .i64 p1].toArray w fun e w2 => ∃ v, e = .returned v ∧ K v w2 :=
  denF_ok Tok (f := 20) (fn := Try.f20) (an := A_fleet_Fleet_Give) (args := [.v (.pointer p0), .v (.int .i64 p1)]) (by kernel_rfl) (by kernel_rfl) ((congrFun (D_fleet_Fleet_Give p0 p1 K) w).mpr h)
theorem E_fleet_Fleet_Give : Enters Pr n_fleet_Fleet_Give := enters_of_B (by kernel_rfl)

def A_damperlaw8_Ints : Ann := (.seq .auto (.seq .auto (.seq (.seq .auto (.one [(5, (.one (.int .i64)))] .auto) none) .auto none) none) none)
/-- damper/damperlaw8.Ints -/
def F_damperlaw8_Ints (p0 : Sl) (p1 : Sl) (K : Value → PT) : PT :=
  L.ite (((p0.len : Nat) : Int) != ((p1.len : Nat) : Int)) (
    K (.bool false)) <|
  L.loop (Y := Int × Unit) (0, ()) fun y1 again2 =>
  L.ite (decide (y1.1 < ((p0.len : Nat) : Int))) (
    L.draw <|
    L.idx p0.a y1.1 p0.len 1 fun a3 =>
    L.load (.one (.int .i64)) a3 fun (x4 : Int) =>
    L.idx p1.a y1.1 p1.len 1 fun a5 =>
    L.load (.one (.int .i64)) a5 fun (x6 : Int) =>
    L.ite (x4 != x6) (
      K (.bool false)) <|
    again2 (IntKind.wrap .i64 (y1.1 + 1), ())) <|
  K (.bool true)
theorem D_damperlaw8_Ints (p0 : Sl) (p1 : Sl) (K : Value → PT) : denF Pr Dt Try.f21 A_damperlaw8_Ints [.v (.slice p0.a p0.len p0.cap), .v (.slice p1.a p1.len p1.cap)] K = F_damperlaw8_Ints p0 p1 K := by kernel_rfl
theorem C_damperlaw8_Ints (p0 : Sl) (p1 : Sl) {K : Value → PT} {w : World} (h : F_damperlaw8_Ints p0 p1 K w) : Calls Pr n_damperlaw8_Ints [.slice p0.a p0.len p0.cap, .slice p1.a p1.len p1.cap].toArray w fun e w2 => ∃ v, e = .returned v ∧ K v w2 :=
  denF_ok Tok (f := 21) (fn := Try.f21) (an := A_damperlaw8_Ints) (args := [.v (.slice p0.a p0.len p0.cap), .v (.slice p1.a p1.len p1.cap)]) (by kernel_rfl) (by kernel_rfl) ((congrFun (D_damperlaw8_Ints p0 p1 K) w).mpr h)
theorem E_damperlaw8_Ints : Enters Pr n_damperlaw8_Ints := enters_of_B (by kernel_rfl)

def A_damperref11_New : Ann := .auto
/-- damper/damperref11.New -/
def F_damperref11_New (p0 : Int) (K : Value → PT) : PT :=
  L.new [.int .i64 p0, .int .i64 0, .slice none 0 0] T_damperref11_Fleet fun b1 =>
  K (.pointer (some (⟨b1, 0, none⟩)))
theorem D_damperref11_New (p0 : Int) (K : Value → PT) : denF Pr Dt Try.f22 A_damperref11_New [.v (.int .i64 p0)] K = F_damperref11_New p0 K := by kernel_rfl
theorem C_damperref11_New (p0 : Int) {K : Value → PT} {w : World} (h : F_damperref11_New p0 K w) : Calls Pr n_damperref11_New [.int .i64 p0].toArray w fun e w2 => ∃ v, e = .returned v ∧ K v w2 :=
  denF_ok Tok (f := 22) (fn := Try.f22) (an := A_damperref11_New) (args := [.v (.int .i64 p0)]) (by kernel_rfl) (by kernel_rfl) ((congrFun (D_damperref11_New p0 K) w).mpr h)
theorem E_damperref11_New : Enters Pr n_damperref11_New := enters_of_B (by kernel_rfl)

def A_damperref11_Fleet_Scale : Ann := (.seq .auto (.seq .auto (.seq .auto (.seq (.one [(10, (.one (.slice))), (12, (.one (.int .i64)))] (.seq (.seq .auto (.cond .auto .auto) none) .auto none)) (.seq (.one [(11, (.one (.slice))), (12, (.one (.int .i64)))] .auto) .auto none) (some [(10, (.one (.slice))), (12, (.one (.int .i64)))])) none) none) none)
/-- (*damper/damperref11.Fleet).Scale -/
def F_damperref11_Fleet_Scale (p0 : Option Addr) (p1 : ByteArray) (p2 : Int) (p3 : Int) (K : Value → PT) : PT :=
  L.call Pr n_damperref11_Fleet_Count [.pointer p0, .string p1, .int .i64 1, .int .i64 2] (.one (.one (.int .i64))) fun (x1 : Int) =>
  L.join (Y := Sl × Int × Unit) (fun k2 =>
    L.loop (Y := Sl × Int × Unit) (⟨none, 0, 0⟩, x1, ()) fun y4 again5 =>
    L.draw <|
    L.ite (decide (y4.2.1 < p3)) (
      L.nonnil p0 fun a6 =>
      L.load (.one (.slice)) (a6.add 2) fun (x7 : Sl) =>
      L.nonnil p0 fun a8 =>
      L.load (.one (.int .i64)) (a8.add 0) fun (x9 : Int) =>
      L.ite (decide (((x7.len : Nat) : Int) < x9)) (
        L.nonnil p0 fun a10 =>
        L.load (.one (.int .i64)) (a10.add 1) fun (x11 : Int) =>
        L.nonnil p0 fun a12 =>
        L.store (a12.add 1) [.int .i64 (IntKind.wrap .i64 (x11 + 1))] <|
        L.draw <|
        L.nonnil p0 fun a13 =>
        L.load (.one (.slice)) (a13.add 2) fun (x14 : Sl) =>
        L.nonnil p0 fun a15 =>
        L.load (.one (.int .i64)) (a15.add 1) fun (x16 : Int) =>
        L.call Pr n_damperref7_New [.int .i64 p2] (.one (.one (.ptr))) fun (x17 : Option Addr) =>
        L.chk (a15.add 1) [.int .i64 x16] <|
        L.chk (a13.add 2) [.slice x14.a x14.len x14.cap] <|
        L.new [.int .i64 x16, .string p1, .pointer x17] T_damperref11_Held fun b18 =>
        L.chk (a13.add 2) [.slice x14.a x14.len x14.cap] <|
        L.new [.pointer (some (⟨b18, 0, none⟩))] T_p_damperref11_Held fun b19 =>
        L.chk (a13.add 2) [.slice x14.a x14.len x14.cap] <|
        L.sem Pr (.one (.one .slice)) (Builtin.append_ #[T_s_p_damperref11_Held, T_s_p_damperref11_Held] T_s_p_damperref11_Held #[.slice x14.a x14.len x14.cap, .slice (some ⟨b19, 0, none⟩) 1 1]) fun (s20 : Sl) =>
        L.nonnil p0 fun a21 =>
        L.store (a21.add 2) [.slice s20.a s20.len s20.cap] <|
        L.nonnil p0 fun a22 =>
        L.load (.one (.int .i64)) (a22.add 1) fun (x23 : Int) =>
        L.new [.int .i64 x23] T_int fun b24 =>
        L.sem Pr (.one (.one .slice)) (Builtin.append_ #[T_s_int, T_s_int] T_s_int #[.slice y4.1.a y4.1.len y4.1.cap, .slice (some ⟨b24, 0, none⟩) 1 1]) fun (s25 : Sl) =>
        again5 (⟨s25.a, s25.len, s25.cap⟩, IntKind.wrap .i64 (y4.2.1 + 1), ())) <|
      k2 (⟨y4.1.a, y4.1.len, y4.1.cap⟩, y4.2.1, ())) <|
    k2 (⟨y4.1.a, y4.1.len, y4.1.cap⟩, y4.2.1, ())) fun z3 =>
  L.loop (Y := Sl × Int × Unit) (⟨none, 0, 0⟩, z3.2.1, ()) fun y26 again27 =>
  L.ite (decide (y26.2.1 > p3)) (
    L.call Pr n_damperref11_Fleet_last [.pointer p0, .string p1] (.one (.one (.ptr))) fun (x28 : Option Addr) =>
    L.nonnil x28 fun a29 =>
    L.load (.one (.ptr)) (a29.add 2) fun (x30 : Option Addr) =>
    L.call Pr n_damperref7_Pod_Drain [.pointer x30] (.one (.one (.int .i64))) fun (x31 : Int) =>
    L.nonnil x28 fun a32 =>
    L.load (.one (.int .i64)) (a32.add 0) fun (x33 : Int) =>
    L.new [.int .i64 x33] T_int fun b34 =>
    L.sem Pr (.one (.one .slice)) (Builtin.append_ #[T_s_int, T_s_int] T_s_int #[.slice y26.1.a y26.1.len y26.1.cap, .slice (some ⟨b34, 0, none⟩) 1 1]) fun (s35 : Sl) =>
    again27 (⟨s35.a, s35.len, s35.cap⟩, IntKind.wrap .i64 (y26.2.1 - 1), ())) <|
  L.call Pr n_damperref11_Fleet_sweep [.pointer p0] (.tup []) fun (x36 : Unit) =>
  K (.tuple #[.slice z3.1.a z3.1.len z3.1.cap, .slice y26.1.a y26.1.len y26.1.cap])
theorem D_damperref11_Fleet_Scale (p0 : Option Addr) (p1 : ByteArray) (p2 : Int) (p3 : Int) (K : Value → PT) : denF Pr Dt Try.f23 A_damperref11_Fleet_Scale [.v (.pointer p0), .v (.string p1), .v (.int .i64 p2), .v (.int .i64 p3)] K = F_damperref11_Fleet_Scale p0 p1 p2 p3 K := by kernel_rfl
theorem C_damperref11_Fleet_Scale (p0 : Option Addr) (p1 : ByteArray) (p2 : Int) (p3 : Int) {K : Value → PT} {w : World} (h : F_damperref11_Fleet_Scale p0 p1 p2 p3 K w) : Calls Pr n_damperref11_Fleet_Scale [.pointer p0, .string p1, .int .i64 p2, .int .i64 p3].toArray w fun e w2 => ∃ v, e = .returned v ∧ K v w2 :=
  denF_ok Tok (f := 23) (fn := Try.f23) (an := A_damperref11_Fleet_Scale) (args := [.v (.pointer p0), .v (.string p1), .v (.int .i64 p2), .v (.int .i64 p3)]) (by kernel_rfl) (by kernel_rfl) ((congrFun (D_damperref11_Fleet_Scale p0 p1 p2 p3 K) w).mpr h)
theorem E_damperref11_Fleet_Scale : Enters Pr n_damperref11_Fleet_Scale := enters_of_B (by kernel_rfl)

def A_damperref11_Fleet_Up : Ann := .auto
/-- (*damper/damperref11.Fleet).Up -/
def F_damperref11_Fleet_Up (p0 : Option Addr) (p1 : Int) (K : Value → PT) : PT :=
  L.call Pr n_damperref11_Fleet_find [.pointer p0, .int .i64 p1] (.one (.one (.ptr))) fun (x1 : Option Addr) =>
  L.ite ((x1).isNone) (
    K (.int .i64 6)) <|
  L.nonnil x1 fun a2 =>
  L.load (.one (.ptr)) (a2.add 2) fun (x3 : Option Addr) =>
  L.call Pr n_damperref7_Pod_Up [.pointer x3] (.one (.one (.int .i64))) fun (x4 : Int) =>
  K (.int .i64 x4)
theorem D_damperref11_Fleet_Up (p0 : Option Addr) (p1 : Int) (K : Value → PT) : denF Pr Dt Try.f24 A_damperref11_Fleet_Up [.v (.pointer p0), .v (.int .i64 p1)] K = F_damperref11_Fleet_Up p0 p1 K := by kernel_rfl
theorem C_damperref11_Fleet_Up (p0 : Option Addr) (p1 : Int) {K : Value → PT} {w : World} (h : F_damperref11_Fleet_Up p0 p1 K w) : Calls Pr n_damperref11_Fleet_Up [.pointer p0, .int .i64 p1].toArray w fun e w2 => ∃ v, e = .returned v ∧ K v w2 :=
  denF_ok Tok (f := 24) (fn := Try.f24) (an := A_damperref11_Fleet_Up) (args := [.v (.pointer p0), .v (.int .i64 p1)]) (by kernel_rfl) (by kernel_rfl) ((congrFun (D_damperref11_Fleet_Up p0 p1 K) w).mpr h)
theorem E_damperref11_Fleet_Up : Enters Pr n_damperref11_Fleet_Up := enters_of_B (by kernel_rfl)

def A_damperref11_Fleet_Take : Ann := (.seq .auto (.seq .auto (.seq .auto (.seq (.seq .auto (.one [(8, (.one (.ptr))), (9, (.one (.int .i64)))] (.seq .auto (.seq (.seq .auto (.seq .auto (.cond .auto .auto) none) none) .auto (some [(8, (.one (.ptr)))])) none)) none) .auto none) none) none) none)
/-- (*damper/damperref11.Fleet).Take -/
def F_damperref11_Fleet_Take (p0 : Option Addr) (p1 : ByteArray) (p2 : Int) (K : Value → PT) : PT :=
  L.call Pr n_damperref11_Fleet_where [.pointer p0, .int .i64 p2] (.one (.one (.ptr))) fun (x1 : Option Addr) =>
  L.ite (!(x1).isNone) (
    K (.tuple #[.int .i64 0, .bool false])) <|
  L.loop (Y := Option Addr × Int × Unit) (none, 0, ()) fun y2 again3 =>
  L.nonnil p0 fun a4 =>
  L.load (.one (.slice)) (a4.add 2) fun (x5 : Sl) =>
  L.ite (decide (y2.2.1 < ((x5.len : Nat) : Int))) (
    L.join (Y := Option Addr × Unit) (fun k6 =>
      L.nonnil p0 fun a8 =>
      L.load (.one (.slice)) (a8.add 2) fun (x9 : Sl) =>
      L.idx x9.a y2.2.1 x9.len 1 fun a10 =>
      L.load (.one (.ptr)) a10 fun (x11 : Option Addr) =>
      L.draw <|
      L.nonnil x11 fun a12 =>
      L.load (.one (.str)) (a12.add 1) fun (x13 : ByteArray) =>
      L.ite (x13.toList == p1.toList) (
        L.nonnil x11 fun a14 =>
        L.load (.one (.ptr)) (a14.add 2) fun (x15 : Option Addr) =>
        L.call Pr n_damperref7_Pod_State [.pointer x15] (.one (.one (.int .i64))) fun (x16 : Int) =>
        L.ite (x16 == 2) (
          L.nonnil x11 fun a17 =>
          L.load (.one (.ptr)) (a17.add 2) fun (x18 : Option Addr) =>
          L.nonnil x11 fun a19 =>
          L.load (.one (.ptr)) (a19.add 2) fun (x20 : Option Addr) =>
          L.nonnil x20 fun a21 =>
          L.load (.one (.int .i64)) (a21.add 0) fun (x22 : Int) =>
          L.call Pr n_damperref7_Pod_Load [.pointer x18] (.one (.one (.int .i64))) fun (x23 : Int) =>
          L.chk (a21.add 0) [.int .i64 x22] <|
          L.chk (a19.add 2) [.pointer x20] <|
          L.ite (decide (x23 < x22)) (
            L.ite ((y2.1).isNone) (
              k6 (x11, ())) <|
            L.nonnil x11 fun a24 =>
            L.load (.one (.ptr)) (a24.add 2) fun (x25 : Option Addr) =>
            L.nonnil y2.1 fun a26 =>
            L.load (.one (.ptr)) (a26.add 2) fun (x27 : Option Addr) =>
            L.call Pr n_damperref7_Pod_Load [.pointer x25] (.one (.one (.int .i64))) fun (x28 : Int) =>
            L.chk (a26.add 2) [.pointer x27] <|
            L.call Pr n_damperref7_Pod_Load [.pointer x27] (.one (.one (.int .i64))) fun (x29 : Int) =>
            L.ite (decide (x28 < x29)) (
              k6 (x11, ())) <|
            k6 (y2.1, ())) <|
          k6 (y2.1, ())) <|
        k6 (y2.1, ())) <|
      k6 (y2.1, ())) fun z7 =>
    again3 (z7.1, IntKind.wrap .i64 (y2.2.1 + 1), ())) <|
  L.ite ((y2.1).isNone) (
    K (.tuple #[.int .i64 0, .bool false])) <|
  L.nonnil y2.1 fun a30 =>
  L.load (.one (.ptr)) (a30.add 2) fun (x31 : Option Addr) =>
  L.call Pr n_damperref7_Pod_Take [.pointer x31, .int .i64 p2] (.one (.one (.int .i64))) fun (x32 : Int) =>
  L.nonnil y2.1 fun a33 =>
  L.load (.one (.int .i64)) (a33.add 0) fun (x34 : Int) =>
  K (.tuple #[.int .i64 x34, .bool true])
theorem D_damperref11_Fleet_Take (p0 : Option Addr) (p1 : ByteArray) (p2 : Int) (K : Value → PT) : denF Pr Dt Try.f25 A_damperref11_Fleet_Take [.v (.pointer p0), .v (.string p1), .v (.int .i64 p2)] K = F_damperref11_Fleet_Take p0 p1 p2 K := by kernel_rfl
theorem C_damperref11_Fleet_Take (p0 : Option Addr) (p1 : ByteArray) (p2 : Int) {K : Value → PT} {w : World} (h : F_damperref11_Fleet_Take p0 p1 p2 K w) : Calls Pr n_damperref11_Fleet_Take [.pointer p0, .string p1, .int .i64 p2].toArray w fun e w2 => ∃ v, e = .returned v ∧ K v w2 :=
  denF_ok Tok (f := 25) (fn := Try.f25) (an := A_damperref11_Fleet_Take) (args := [.v (.pointer p0), .v (.string p1), .v (.int .i64 p2)]) (by kernel_rfl) (by kernel_rfl) ((congrFun (D_damperref11_Fleet_Take p0 p1 p2 K) w).mpr h)
theorem E_damperref11_Fleet_Take : Enters Pr n_damperref11_Fleet_Take := enters_of_B (by kernel_rfl)

def A_damperref11_Fleet_Pods : Ann := (.seq .auto (.seq .auto (.seq (.seq .auto (.one [(5, (.one (.slice))), (6, (.one (.int .i64)))] (.seq .auto (.seq .auto .auto (some [(5, (.one (.slice)))])) none)) none) .auto none) none) none)
/-- (*damper/damperref11.Fleet).Pods -/
def F_damperref11_Fleet_Pods (p0 : Option Addr) (p1 : ByteArray) (K : Value → PT) : PT :=
  L.loop (Y := Sl × Int × Unit) (⟨none, 0, 0⟩, 0, ()) fun y1 again2 =>
  L.nonnil p0 fun a3 =>
  L.load (.one (.slice)) (a3.add 2) fun (x4 : Sl) =>
  L.ite (decide (y1.2.1 < ((x4.len : Nat) : Int))) (
    L.join (Y := Sl × Unit) (fun k5 =>
      L.nonnil p0 fun a7 =>
      L.load (.one (.slice)) (a7.add 2) fun (x8 : Sl) =>
      L.idx x8.a y1.2.1 x8.len 1 fun a9 =>
      L.load (.one (.ptr)) a9 fun (x10 : Option Addr) =>
      L.nonnil x10 fun a11 =>
      L.load (.one (.str)) (a11.add 1) fun (x12 : ByteArray) =>
      L.ite (x12.toList == p1.toList) (
        L.draw <|
        L.nonnil p0 fun a13 =>
        L.load (.one (.slice)) (a13.add 2) fun (x14 : Sl) =>
        L.idx x14.a y1.2.1 x14.len 1 fun a15 =>
        L.load (.one (.ptr)) a15 fun (x16 : Option Addr) =>
        L.nonnil x16 fun a17 =>
        L.load (.one (.int .i64)) (a17.add 0) fun (x18 : Int) =>
        L.nonnil p0 fun a19 =>
        L.load (.one (.slice)) (a19.add 2) fun (x20 : Sl) =>
        L.idx x20.a y1.2.1 x20.len 1 fun a21 =>
        L.load (.one (.ptr)) a21 fun (x22 : Option Addr) =>
        L.nonnil x22 fun a23 =>
        L.load (.one (.ptr)) (a23.add 2) fun (x24 : Option Addr) =>
        L.nonnil p0 fun a25 =>
        L.load (.one (.slice)) (a25.add 2) fun (x26 : Sl) =>
        L.idx x26.a y1.2.1 x26.len 1 fun a27 =>
        L.load (.one (.ptr)) a27 fun (x28 : Option Addr) =>
        L.nonnil x28 fun a29 =>
        L.load (.one (.ptr)) (a29.add 2) fun (x30 : Option Addr) =>
        L.call Pr n_damperref7_Pod_State [.pointer x24] (.one (.one (.int .i64))) fun (x31 : Int) =>
        L.chk (a29.add 2) [.pointer x30] <|
        L.chk a27 [.pointer x28] <|
        L.chk (a25.add 2) [.slice x26.a x26.len x26.cap] <|
        L.chk (a17.add 0) [.int .i64 x18] <|
        L.chk a15 [.pointer x16] <|
        L.chk (a13.add 2) [.slice x14.a x14.len x14.cap] <|
        L.call Pr n_damperref7_Pod_Load [.pointer x30] (.one (.one (.int .i64))) fun (x32 : Int) =>
        L.chk (a17.add 0) [.int .i64 x18] <|
        L.chk a15 [.pointer x16] <|
        L.chk (a13.add 2) [.slice x14.a x14.len x14.cap] <|
        L.new [.int .i64 x18, .int .i64 x31, .int .i64 x32] T_damperref11_Look fun b33 =>
        L.sem Pr (.one (.one .slice)) (Builtin.append_ #[T_s_damperref11_Look, T_s_damperref11_Look] T_s_damperref11_Look #[.slice y1.1.a y1.1.len y1.1.cap, .slice (some ⟨b33, 0, none⟩) 1 1]) fun (s34 : Sl) =>
        k5 (⟨s34.a, s34.len, s34.cap⟩, ())) <|
      k5 (⟨y1.1.a, y1.1.len, y1.1.cap⟩, ())) fun z6 =>
    again2 (⟨z6.1.a, z6.1.len, z6.1.cap⟩, IntKind.wrap .i64 (y1.2.1 + 1), ())) <|
  K (.slice y1.1.a y1.1.len y1.1.cap)
theorem D_damperref11_Fleet_Pods (p0 : Option Addr) (p1 : ByteArray) (K : Value → PT) : denF Pr Dt Try.f26 A_damperref11_Fleet_Pods [.v (.pointer p0), .v (.string p1)] K = F_damperref11_Fleet_Pods p0 p1 K := by kernel_rfl
theorem C_damperref11_Fleet_Pods (p0 : Option Addr) (p1 : ByteArray) {K : Value → PT} {w : World} (h : F_damperref11_Fleet_Pods p0 p1 K w) : Calls Pr n_damperref11_Fleet_Pods [.pointer p0, .string p1].toArray w fun e w2 => ∃ v, e = .returned v ∧ K v w2 :=
  denF_ok Tok (f := 26) (fn := Try.f26) (an := A_damperref11_Fleet_Pods) (args := [.v (.pointer p0), .v (.string p1)]) (by kernel_rfl) (by kernel_rfl) ((congrFun (D_damperref11_Fleet_Pods p0 p1 K) w).mpr h)
theorem E_damperref11_Fleet_Pods : Enters Pr n_damperref11_Fleet_Pods := enters_of_B (by kernel_rfl)

def A_fleet_Fleet_Kill : Ann := (.seq .auto (.seq .auto (.seq .auto (.seq .auto (.seq (.seq .auto (.one [(29, (.one (.int .i64)))] .auto) none) .auto none) none) none) none) none)
/-- (*damper/fleet.Fleet).Kill -/
def F_fleet_Fleet_Kill (p0 : Option Addr) (p1 : Int) (K : Value → PT) : PT :=
  L.nonnil p0 fun a1 =>
  L.load (.one (.map)) (a1.add 0) fun (x2 : Option Nat) =>
  L.semR Pr (.tup [(.agg [.str, .ptr]), .one .bool]) (Instr.lookup T_map_int_fleet_one (.map x2) (.int .i64 p1) true) fun (x3 : (ByteArray × Option Addr × Unit) × Bool × Unit) =>
  L.new [.string s_, .pointer none] T_fleet_one fun b4 =>
  L.store (⟨b4, 0, none⟩) [.string x3.1.1, .pointer x3.1.2.1] <|
  L.ite (!x3.2.1) (
    K (.tuple #[.slice none 0 0, .int .i64 6])) <|
  L.load (.one (.ptr)) ((⟨b4, 0, none⟩ : Addr).add 1) fun (x5 : Option Addr) =>
  L.call Pr n_pod_Pod_Kill [.pointer x5] (.tup [(.one (.slice)), (.one (.int .i64))]) fun (x6 : Sl × Int × Unit) =>
  L.loop (Y := Int × Unit) (0, ()) fun y7 again8 =>
  L.ite (decide (y7.1 < ((x6.1.len : Nat) : Int))) (
    L.idx x6.1.a y7.1 x6.1.len 1 fun a9 =>
    L.load (.one (.int .i64)) a9 fun (x10 : Int) =>
    L.nonnil p0 fun a11 =>
    L.load (.one (.map)) (a11.add 1) fun (x12 : Option Nat) =>
    L.sem Pr (.tup []) (Builtin.delete_ #[T_map_int_int, T_int] T_ #[.map x12, .int .i64 x10]) fun _ =>
    again8 (IntKind.wrap .i64 (y7.1 + 1), ())) <|
  L.call Pr n_fleet_Fleet_end [.pointer p0, .int .i64 p1] (.tup []) fun (x13 : Unit) =>
  K (.tuple #[.slice x6.1.a x6.1.len x6.1.cap, .int .i64 x6.2.1])
theorem D_fleet_Fleet_Kill (p0 : Option Addr) (p1 : Int) (K : Value → PT) : denF Pr Dt Try.f27 A_fleet_Fleet_Kill [.v (.pointer p0), .v (.int .i64 p1)] K = F_fleet_Fleet_Kill p0 p1 K := by kernel_rfl
theorem C_fleet_Fleet_Kill (p0 : Option Addr) (p1 : Int) {K : Value → PT} {w : World} (h : F_fleet_Fleet_Kill p0 p1 K w) : Calls Pr n_fleet_Fleet_Kill [.pointer p0, .int .i64 p1].toArray w fun e w2 => ∃ v, e = .returned v ∧ K v w2 :=
  denF_ok Tok (f := 27) (fn := Try.f27) (an := A_fleet_Fleet_Kill) (args := [.v (.pointer p0), .v (.int .i64 p1)]) (by kernel_rfl) (by kernel_rfl) ((congrFun (D_fleet_Fleet_Kill p0 p1 K) w).mpr h)
theorem E_fleet_Fleet_Kill : Enters Pr n_fleet_Fleet_Kill := enters_of_B (by kernel_rfl)

def A_fleet_Fleet_up : Ann := (.seq .auto (.seq .auto (.seq (.seq .auto (.seq .auto .auto (some [(11, (.one (.int .i64))), (12, (.one (.ptr)))])) none) .auto none) none) none)
/-- (*damper/fleet.Fleet).up -/
def F_fleet_Fleet_up (p0 : Option Addr) (p1 : ByteArray) (K : Value → PT) : PT :=
  L.new [.int .i64 0] T_int fun b1 =>
  L.store (⟨b1, 0, none⟩) [.int .i64 0] <|
  L.call Pr n_fleet_Fleet_of [.pointer p0, .string p1] (.one (.one (.func))) fun (x2 : FV) =>
  L.range Pr none (.func x2.fn x2.fs x2.cs) [(.one (.int .i64)), (.one (.ptr))] (fun l3 (y4 : Int × Option Addr × Unit) R5 =>
    L.begin Pr l3 <|
    L.call Pr n_pod_Pod_State [.pointer y4.2.1] (.one (.one (.int .i64))) fun (x8 : Int) =>
    L.ite (x8 != 3) (
      L.load (.one (.int .i64)) (⟨b1, 0, none⟩) fun (x9 : Int) =>
      L.store (⟨b1, 0, none⟩) [.int .i64 (IntKind.wrap .i64 (x9 + 1))] <|
      L.endRound Pr l3 none R5) <|
    L.endRound Pr l3 none R5) fun d6 j7 =>
  L.jump j7 (
    L.load (.one (.int .i64)) (⟨b1, 0, none⟩) fun (x10 : Int) =>
    L.unmark Pr (d6 ++ []) <|
    K (.int .i64 x10)) (
    L.unmark Pr (d6 ++ []) <|
    K (.int .i64 0)) []
theorem D_fleet_Fleet_up (p0 : Option Addr) (p1 : ByteArray) (K : Value → PT) : denF Pr Dt Try.f28 A_fleet_Fleet_up [.v (.pointer p0), .v (.string p1)] K = F_fleet_Fleet_up p0 p1 K := by kernel_rfl
theorem C_fleet_Fleet_up (p0 : Option Addr) (p1 : ByteArray) {K : Value → PT} {w : World} (h : F_fleet_Fleet_up p0 p1 K w) : Calls Pr n_fleet_Fleet_up [.pointer p0, .string p1].toArray w fun e w2 => ∃ v, e = .returned v ∧ K v w2 :=
  denF_ok Tok (f := 28) (fn := Try.f28) (an := A_fleet_Fleet_up) (args := [.v (.pointer p0), .v (.string p1)]) (by kernel_rfl) (by kernel_rfl) ((congrFun (D_fleet_Fleet_up p0 p1 K) w).mpr h)
theorem E_fleet_Fleet_up : Enters Pr n_fleet_Fleet_up := enters_of_B (by kernel_rfl)

def A_pod_New : Ann := .auto
/-- damper/pod.New -/
def F_pod_New (p0 : Int) (K : Value → PT) : PT :=
  L.sem Pr (.one (.one .map)) (Instr.makeMap T_map_int_bool none) fun (m1 : Option Nat) =>
  L.new [.int .i64 1, .map m1, .int .i64 p0] T_pod_Pod fun b2 =>
  K (.pointer (some (⟨b2, 0, none⟩)))
theorem D_pod_New (p0 : Int) (K : Value → PT) : denF Pr Dt Try.f29 A_pod_New [.v (.int .i64 p0)] K = F_pod_New p0 K := by kernel_rfl
theorem C_pod_New (p0 : Int) {K : Value → PT} {w : World} (h : F_pod_New p0 K w) : Calls Pr n_pod_New [.int .i64 p0].toArray w fun e w2 => ∃ v, e = .returned v ∧ K v w2 :=
  denF_ok Tok (f := 29) (fn := Try.f29) (an := A_pod_New) (args := [.v (.int .i64 p0)]) (by kernel_rfl) (by kernel_rfl) ((congrFun (D_pod_New p0 K) w).mpr h)
theorem E_pod_New : Enters Pr n_pod_New := enters_of_B (by kernel_rfl)

def A_fleet_Fleet_spare : Ann := (.seq .auto (.seq .auto (.seq (.seq .auto (.seq .auto (.seq .auto (.seq .auto (.cond .auto .auto) none) none) (some [(13, (.one (.int .i64))), (14, (.one (.ptr)))])) none) .auto none) none) none)
/-- (*damper/fleet.Fleet).spare -/
def F_fleet_Fleet_spare (p0 : Option Addr) (p1 : ByteArray) (K : Value → PT) : PT :=
  L.new [.int .i64 0] T_int fun b1 =>
  L.new [.int .i64 0] T_int fun b2 =>
  L.new [.int .i64 0] T_int fun b3 =>
  L.store (⟨b1, 0, none⟩) [.int .i64 0] <|
  L.store (⟨b2, 0, none⟩) [.int .i64 3] <|
  L.store (⟨b3, 0, none⟩) [.int .i64 0] <|
  L.call Pr n_fleet_Fleet_of [.pointer p0, .string p1] (.one (.one (.func))) fun (x4 : FV) =>
  L.range Pr none (.func x4.fn x4.fs x4.cs) [(.one (.int .i64)), (.one (.ptr))] (fun l5 (y6 : Int × Option Addr × Unit) R7 =>
    L.begin Pr l5 <|
    L.call Pr n_pod_Pod_State [.pointer y6.2.1] (.one (.one (.int .i64))) fun (x10 : Int) =>
    L.ite (x10 == 3) (
      L.endRound Pr l5 none R7) <|
    L.draw <|
    L.load (.one (.int .i64)) (⟨b2, 0, none⟩) fun (x11 : Int) =>
    L.call Pr n_pod_Pod_State [.pointer y6.2.1] (.one (.one (.int .i64))) fun (x12 : Int) =>
    L.chk (⟨b2, 0, none⟩) [.int .i64 x11] <|
    L.ite (decide (x12 < x11)) (
      L.call Pr n_pod_Pod_State [.pointer y6.2.1] (.one (.one (.int .i64))) fun (x13 : Int) =>
      L.call Pr n_pod_Pod_Load [.pointer y6.2.1] (.one (.one (.int .i64))) fun (x14 : Int) =>
      L.store (⟨b1, 0, none⟩) [.int .i64 y6.1] <|
      L.store (⟨b2, 0, none⟩) [.int .i64 x13] <|
      L.store (⟨b3, 0, none⟩) [.int .i64 x14] <|
      L.endRound Pr l5 none R7) <|
    L.load (.one (.int .i64)) (⟨b2, 0, none⟩) fun (x15 : Int) =>
    L.call Pr n_pod_Pod_State [.pointer y6.2.1] (.one (.one (.int .i64))) fun (x16 : Int) =>
    L.chk (⟨b2, 0, none⟩) [.int .i64 x15] <|
    L.ite (x16 == x15) (
      L.load (.one (.int .i64)) (⟨b3, 0, none⟩) fun (x17 : Int) =>
      L.call Pr n_pod_Pod_Load [.pointer y6.2.1] (.one (.one (.int .i64))) fun (x18 : Int) =>
      L.chk (⟨b3, 0, none⟩) [.int .i64 x17] <|
      L.ite (decide (x18 ≤ x17)) (
        L.call Pr n_pod_Pod_State [.pointer y6.2.1] (.one (.one (.int .i64))) fun (x19 : Int) =>
        L.call Pr n_pod_Pod_Load [.pointer y6.2.1] (.one (.one (.int .i64))) fun (x20 : Int) =>
        L.store (⟨b1, 0, none⟩) [.int .i64 y6.1] <|
        L.store (⟨b2, 0, none⟩) [.int .i64 x19] <|
        L.store (⟨b3, 0, none⟩) [.int .i64 x20] <|
        L.endRound Pr l5 none R7) <|
      L.endRound Pr l5 none R7) <|
    L.endRound Pr l5 none R7) fun d8 j9 =>
  L.jump j9 (
    L.load (.one (.int .i64)) (⟨b1, 0, none⟩) fun (x21 : Int) =>
    L.unmark Pr (d8 ++ []) <|
    K (.int .i64 x21)) (
    L.unmark Pr (d8 ++ []) <|
    K (.int .i64 0)) []
theorem D_fleet_Fleet_spare (p0 : Option Addr) (p1 : ByteArray) (K : Value → PT) : denF Pr Dt Try.f30 A_fleet_Fleet_spare [.v (.pointer p0), .v (.string p1)] K = F_fleet_Fleet_spare p0 p1 K := by kernel_rfl
theorem C_fleet_Fleet_spare (p0 : Option Addr) (p1 : ByteArray) {K : Value → PT} {w : World} (h : F_fleet_Fleet_spare p0 p1 K w) : Calls Pr n_fleet_Fleet_spare [.pointer p0, .string p1].toArray w fun e w2 => ∃ v, e = .returned v ∧ K v w2 :=
  denF_ok Tok (f := 30) (fn := Try.f30) (an := A_fleet_Fleet_spare) (args := [.v (.pointer p0), .v (.string p1)]) (by kernel_rfl) (by kernel_rfl) ((congrFun (D_fleet_Fleet_spare p0 p1 K) w).mpr h)
theorem E_fleet_Fleet_spare : Enters Pr n_fleet_Fleet_spare := enters_of_B (by kernel_rfl)

def A_pod_Pod_Drain : Ann := (.seq .auto (.seq (.seq .auto (.cond .auto .auto) none) .auto (some [])) none)
/-- (*damper/pod.Pod).Drain -/
def F_pod_Pod_Drain (p0 : Option Addr) (K : Value → PT) : PT :=
  L.join (Y := Unit) (fun k1 =>
    L.nonnil p0 fun a3 =>
    L.load (.one (.int .i64)) (a3.add 0) fun (x4 : Int) =>
    L.ite (x4 != 1) (
      L.nonnil p0 fun a5 =>
      L.load (.one (.int .i64)) (a5.add 0) fun (x6 : Int) =>
      L.ite (x6 != 2) (
        K (.int .i64 9)) <|
      k1 (())) <|
    k1 (())) fun z2 =>
  L.nonnil p0 fun a7 =>
  L.store (a7.add 0) [.int .i64 3] <|
  L.call Pr n_pod_Pod_end [.pointer p0] (.tup []) fun (x8 : Unit) =>
  K (.int .i64 0)
theorem D_pod_Pod_Drain (p0 : Option Addr) (K : Value → PT) : denF Pr Dt Try.f31 A_pod_Pod_Drain [.v (.pointer p0)] K = F_pod_Pod_Drain p0 K := by kernel_rfl
theorem C_pod_Pod_Drain (p0 : Option Addr) {K : Value → PT} {w : World} (h : F_pod_Pod_Drain p0 K w) : Calls Pr n_pod_Pod_Drain [.pointer p0].toArray w fun e w2 => ∃ v, e = .returned v ∧ K v w2 :=
  denF_ok Tok (f := 31) (fn := Try.f31) (an := A_pod_Pod_Drain) (args := [.v (.pointer p0)]) (by kernel_rfl) (by kernel_rfl) ((congrFun (D_pod_Pod_Drain p0 K) w).mpr h)
theorem E_pod_Pod_Drain : Enters Pr n_pod_Pod_Drain := enters_of_B (by kernel_rfl)

def A_fleet_Fleet_end : Ann := .auto
/-- (*damper/fleet.Fleet).end -/
def F_fleet_Fleet_end (p0 : Option Addr) (p1 : Int) (K : Value → PT) : PT :=
  L.nonnil p0 fun a1 =>
  L.load (.one (.map)) (a1.add 0) fun (x2 : Option Nat) =>
  L.semR Pr (.one (.agg [.str, .ptr])) (Instr.lookup T_map_int_fleet_one (.map x2) (.int .i64 p1) false) fun (x3 : ByteArray × Option Addr × Unit) =>
  L.call Pr n_pod_Pod_State [.pointer x3.2.1] (.one (.one (.int .i64))) fun (x4 : Int) =>
  L.ite (x4 == 4) (
    L.nonnil p0 fun a5 =>
    L.load (.one (.map)) (a5.add 0) fun (x6 : Option Nat) =>
    L.sem Pr (.tup []) (Builtin.delete_ #[T_map_int_fleet_one, T_int] T_ #[.map x6, .int .i64 p1]) fun _ =>
    K (.tuple #[])) <|
  K (.tuple #[])
theorem D_fleet_Fleet_end (p0 : Option Addr) (p1 : Int) (K : Value → PT) : denF Pr Dt Try.f32 A_fleet_Fleet_end [.v (.pointer p0), .v (.int .i64 p1)] K = F_fleet_Fleet_end p0 p1 K := by kernel_rfl
theorem C_fleet_Fleet_end (p0 : Option Addr) (p1 : Int) {K : Value → PT} {w : World} (h : F_fleet_Fleet_end p0 p1 K w) : Calls Pr n_fleet_Fleet_end [.pointer p0, .int .i64 p1].toArray w fun e w2 => ∃ v, e = .returned v ∧ K v w2 :=
  denF_ok Tok (f := 32) (fn := Try.f32) (an := A_fleet_Fleet_end) (args := [.v (.pointer p0), .v (.int .i64 p1)]) (by kernel_rfl) (by kernel_rfl) ((congrFun (D_fleet_Fleet_end p0 p1 K) w).mpr h)
theorem E_fleet_Fleet_end : Enters Pr n_fleet_Fleet_end := enters_of_B (by kernel_rfl)

def A_slices_Clone_int_int : Ann := .auto
/-- slices.Clone[[]int,int] -/
def F_slices_Clone_int_int (p0 : Sl) (K : Value → PT) : PT :=
  L.ite ((p0.a).isNone) (
    K (.slice none 0 0)) <|
  L.new [] T_int fun b1 =>
  L.sem Pr (.one (.one .slice)) (Builtin.append_ #[T_s_int, T_s_int] T_s_int #[.slice (some ⟨b1, 0, none⟩) 0 0, .slice p0.a p0.len p0.cap]) fun (s2 : Sl) =>
  K (.slice s2.a s2.len s2.cap)
theorem D_slices_Clone_int_int (p0 : Sl) (K : Value → PT) : denF Pr Dt Try.f33 A_slices_Clone_int_int [.v (.slice p0.a p0.len p0.cap)] K = F_slices_Clone_int_int p0 K := by kernel_rfl
theorem C_slices_Clone_int_int (p0 : Sl) {K : Value → PT} {w : World} (h : F_slices_Clone_int_int p0 K w) : Calls Pr n_slices_Clone_int_int [.slice p0.a p0.len p0.cap].toArray w fun e w2 => ∃ v, e = .returned v ∧ K v w2 :=
  denF_ok Tok (f := 33) (fn := Try.f33) (an := A_slices_Clone_int_int) (args := [.v (.slice p0.a p0.len p0.cap)]) (by kernel_rfl) (by kernel_rfl) ((congrFun (D_slices_Clone_int_int p0 K) w).mpr h)
theorem E_slices_Clone_int_int : Enters Pr n_slices_Clone_int_int := enters_of_B (by kernel_rfl)

def A_fleet_Fleet_of : Ann := .auto
/-- (*damper/fleet.Fleet).of -/
def F_fleet_Fleet_of (p0 : Option Addr) (p1 : ByteArray) (K : Value → PT) : PT :=
  L.new [.pointer p0] T_p_fleet_Fleet fun b1 =>
  L.new [.string p1] T_string fun b2 =>
  K (.func (.func n_fleet_Fleet_of_1) #[] #[.pointer (some (⟨b1, 0, none⟩)), .pointer (some (⟨b2, 0, none⟩))])
theorem D_fleet_Fleet_of (p0 : Option Addr) (p1 : ByteArray) (K : Value → PT) : denF Pr Dt Try.f34 A_fleet_Fleet_of [.v (.pointer p0), .v (.string p1)] K = F_fleet_Fleet_of p0 p1 K := by kernel_rfl
theorem C_fleet_Fleet_of (p0 : Option Addr) (p1 : ByteArray) {K : Value → PT} {w : World} (h : F_fleet_Fleet_of p0 p1 K w) : Calls Pr n_fleet_Fleet_of [.pointer p0, .string p1].toArray w fun e w2 => ∃ v, e = .returned v ∧ K v w2 :=
  denF_ok Tok (f := 34) (fn := Try.f34) (an := A_fleet_Fleet_of) (args := [.v (.pointer p0), .v (.string p1)]) (by kernel_rfl) (by kernel_rfl) ((congrFun (D_fleet_Fleet_of p0 p1 K) w).mpr h)
theorem E_fleet_Fleet_of : Enters Pr n_fleet_Fleet_of := enters_of_B (by kernel_rfl)

def A_pod_Pod_State : Ann := .auto
/-- (*damper/pod.Pod).State -/
def F_pod_Pod_State (p0 : Option Addr) (K : Value → PT) : PT :=
  L.nonnil p0 fun a1 =>
  L.load (.one (.int .i64)) (a1.add 0) fun (x2 : Int) =>
  K (.int .i64 x2)
theorem D_pod_Pod_State (p0 : Option Addr) (K : Value → PT) : denF Pr Dt Try.f35 A_pod_Pod_State [.v (.pointer p0)] K = F_pod_Pod_State p0 K := by kernel_rfl
theorem C_pod_Pod_State (p0 : Option Addr) {K : Value → PT} {w : World} (h : F_pod_Pod_State p0 K w) : Calls Pr n_pod_Pod_State [.pointer p0].toArray w fun e w2 => ∃ v, e = .returned v ∧ K v w2 :=
  denF_ok Tok (f := 35) (fn := Try.f35) (an := A_pod_Pod_State) (args := [.v (.pointer p0)]) (by kernel_rfl) (by kernel_rfl) ((congrFun (D_pod_Pod_State p0 K) w).mpr h)
theorem E_pod_Pod_State : Enters Pr n_pod_Pod_State := enters_of_B (by kernel_rfl)

def A_pod_Pod_Load : Ann := .auto
/-- (*damper/pod.Pod).Load -/
def F_pod_Pod_Load (p0 : Option Addr) (K : Value → PT) : PT :=
  L.nonnil p0 fun a1 =>
  L.load (.one (.map)) ((a1.add 1).add 0) fun (x2 : Option Nat) =>
  L.semR Pr (.one (.one (.int .i64))) (Builtin.len_ #[T_map_int_bool] T_int #[.map x2]) fun (x3 : Int) =>
  K (.int .i64 x3)
theorem D_pod_Pod_Load (p0 : Option Addr) (K : Value → PT) : denF Pr Dt Try.f36 A_pod_Pod_Load [.v (.pointer p0)] K = F_pod_Pod_Load p0 K := by kernel_rfl
theorem C_pod_Pod_Load (p0 : Option Addr) {K : Value → PT} {w : World} (h : F_pod_Pod_Load p0 K w) : Calls Pr n_pod_Pod_Load [.pointer p0].toArray w fun e w2 => ∃ v, e = .returned v ∧ K v w2 :=
  denF_ok Tok (f := 36) (fn := Try.f36) (an := A_pod_Pod_Load) (args := [.v (.pointer p0)]) (by kernel_rfl) (by kernel_rfl) ((congrFun (D_pod_Pod_Load p0 K) w).mpr h)
theorem E_pod_Pod_Load : Enters Pr n_pod_Pod_Load := enters_of_B (by kernel_rfl)

def A_slices_Clone_fleet_Look_fleet_Look : Ann := .auto
/-- slices.Clone[[]damper/fleet.Look,damper/fleet.Look] -/
def F_slices_Clone_fleet_Look_fleet_Look (p0 : Sl) (K : Value → PT) : PT :=
  L.ite ((p0.a).isNone) (
    K (.slice none 0 0)) <|
  L.new [] T_fleet_Look fun b1 =>
  L.sem Pr (.one (.one .slice)) (Builtin.append_ #[T_s_fleet_Look, T_s_fleet_Look] T_s_fleet_Look #[.slice (some ⟨b1, 0, none⟩) 0 0, .slice p0.a p0.len p0.cap]) fun (s2 : Sl) =>
  K (.slice s2.a s2.len s2.cap)
theorem D_slices_Clone_fleet_Look_fleet_Look (p0 : Sl) (K : Value → PT) : denF Pr Dt Try.f37 A_slices_Clone_fleet_Look_fleet_Look [.v (.slice p0.a p0.len p0.cap)] K = F_slices_Clone_fleet_Look_fleet_Look p0 K := by kernel_rfl
theorem C_slices_Clone_fleet_Look_fleet_Look (p0 : Sl) {K : Value → PT} {w : World} (h : F_slices_Clone_fleet_Look_fleet_Look p0 K w) : Calls Pr n_slices_Clone_fleet_Look_fleet_Look [.slice p0.a p0.len p0.cap].toArray w fun e w2 => ∃ v, e = .returned v ∧ K v w2 :=
  denF_ok Tok (f := 37) (fn := Try.f37) (an := A_slices_Clone_fleet_Look_fleet_Look) (args := [.v (.slice p0.a p0.len p0.cap)]) (by kernel_rfl) (by kernel_rfl) ((congrFun (D_slices_Clone_fleet_Look_fleet_Look p0 K) w).mpr h)
theorem E_slices_Clone_fleet_Look_fleet_Look : Enters Pr n_slices_Clone_fleet_Look_fleet_Look := enters_of_B (by kernel_rfl)

def A_pod_Pod_Up : Ann := .auto
/-- (*damper/pod.Pod).Up -/
def F_pod_Pod_Up (p0 : Option Addr) (K : Value → PT) : PT :=
  L.nonnil p0 fun a1 =>
  L.load (.one (.int .i64)) (a1.add 0) fun (x2 : Int) =>
  L.ite (x2 != 1) (
    K (.int .i64 9)) <|
  L.nonnil p0 fun a3 =>
  L.store (a3.add 0) [.int .i64 2] <|
  K (.int .i64 0)
theorem D_pod_Pod_Up (p0 : Option Addr) (K : Value → PT) : denF Pr Dt Try.f38 A_pod_Pod_Up [.v (.pointer p0)] K = F_pod_Pod_Up p0 K := by kernel_rfl
theorem C_pod_Pod_Up (p0 : Option Addr) {K : Value → PT} {w : World} (h : F_pod_Pod_Up p0 K w) : Calls Pr n_pod_Pod_Up [.pointer p0].toArray w fun e w2 => ∃ v, e = .returned v ∧ K v w2 :=
  denF_ok Tok (f := 38) (fn := Try.f38) (an := A_pod_Pod_Up) (args := [.v (.pointer p0)]) (by kernel_rfl) (by kernel_rfl) ((congrFun (D_pod_Pod_Up p0 K) w).mpr h)
theorem E_pod_Pod_Up : Enters Pr n_pod_Pod_Up := enters_of_B (by kernel_rfl)

def A_slices_SortStableFunc_fleet_choice_fleet_choice : Ann := .auto
/-- slices.SortStableFunc[[]damper/fleet.choice,damper/fleet.choice] -/
def F_slices_SortStableFunc_fleet_choice_fleet_choice (p0 : Sl) (p1 : FV) (K : Value → PT) : PT :=
  L.call Pr n_slices_stableCmpFunc_fleet_choice [.slice p0.a p0.len p0.cap, .int .i64 ((p0.len : Nat) : Int), .func p1.fn p1.fs p1.cs] (.tup []) fun (x1 : Unit) =>
  K (.tuple #[])
theorem D_slices_SortStableFunc_fleet_choice_fleet_choice (p0 : Sl) (p1 : FV) (K : Value → PT) : denF Pr Dt Try.f39 A_slices_SortStableFunc_fleet_choice_fleet_choice [.v (.slice p0.a p0.len p0.cap), .v (.func p1.fn p1.fs p1.cs)] K = F_slices_SortStableFunc_fleet_choice_fleet_choice p0 p1 K := by kernel_rfl
theorem C_slices_SortStableFunc_fleet_choice_fleet_choice (p0 : Sl) (p1 : FV) {K : Value → PT} {w : World} (h : F_slices_SortStableFunc_fleet_choice_fleet_choice p0 p1 K w) : Calls Pr n_slices_SortStableFunc_fleet_choice_fleet_choice [.slice p0.a p0.len p0.cap, .func p1.fn p1.fs p1.cs].toArray w fun e w2 => ∃ v, e = .returned v ∧ K v w2 :=
  denF_ok Tok (f := 39) (fn := Try.f39) (an := A_slices_SortStableFunc_fleet_choice_fleet_choice) (args := [.v (.slice p0.a p0.len p0.cap), .v (.func p1.fn p1.fs p1.cs)]) (by kernel_rfl) (by kernel_rfl) ((congrFun (D_slices_SortStableFunc_fleet_choice_fleet_choice p0 p1 K) w).mpr h)
theorem E_slices_SortStableFunc_fleet_choice_fleet_choice : Enters Pr n_slices_SortStableFunc_fleet_choice_fleet_choice := enters_of_B (by kernel_rfl)

def A_fleet_Fleet_Take_1 : Ann := .auto
/-- (*damper/fleet.Fleet).Take$1 -/
def F_fleet_Fleet_Take_1 (p0 : HT [.int .i64, .int .i64]) (p1 : HT [.int .i64, .int .i64]) (K : Value → PT) : PT :=
  L.new [.int .i64 p0.1, .int .i64 p0.2.1] T_fleet_choice fun b1 =>
  L.new [.int .i64 p1.1, .int .i64 p1.2.1] T_fleet_choice fun b2 =>
  L.load (.one (.int .i64)) ((⟨b1, 0, none⟩ : Addr).add 0) fun (x3 : Int) =>
  L.load (.one (.int .i64)) ((⟨b2, 0, none⟩ : Addr).add 0) fun (x4 : Int) =>
  K (.int .i64 (IntKind.wrap .i64 (x3 - x4)))
theorem D_fleet_Fleet_Take_1 (p0 : HT [.int .i64, .int .i64]) (p1 : HT [.int .i64, .int .i64]) (K : Value → PT) : denF Pr Dt Try.f40 A_fleet_Fleet_Take_1 [.ag [.int .i64 p0.1, .int .i64 p0.2.1], .ag [.int .i64 p1.1, .int .i64 p1.2.1]] K = F_fleet_Fleet_Take_1 p0 p1 K := by kernel_rfl
theorem C_fleet_Fleet_Take_1 (p0 : HT [.int .i64, .int .i64]) (p1 : HT [.int .i64, .int .i64]) {K : Value → PT} {w : World} (h : F_fleet_Fleet_Take_1 p0 p1 K w) : Calls Pr n_fleet_Fleet_Take_1 [(.ag [.int .i64 p0.1, .int .i64 p0.2.1] : SV).toV, (.ag [.int .i64 p1.1, .int .i64 p1.2.1] : SV).toV].toArray w fun e w2 => ∃ v, e = .returned v ∧ K v w2 :=
  denF_ok Tok (f := 40) (fn := Try.f40) (an := A_fleet_Fleet_Take_1) (args := [.ag [.int .i64 p0.1, .int .i64 p0.2.1], .ag [.int .i64 p1.1, .int .i64 p1.2.1]]) (by kernel_rfl) (by kernel_rfl) ((congrFun (D_fleet_Fleet_Take_1 p0 p1 K) w).mpr h)
theorem E_fleet_Fleet_Take_1 : Enters Pr n_fleet_Fleet_Take_1 := enters_of_B (by kernel_rfl)

def A_pod_Pod_Take : Ann := .auto
/-- (*damper/pod.Pod).Take -/
def F_pod_Pod_Take (p0 : Option Addr) (p1 : Int) (K : Value → PT) : PT :=
  L.nonnil p0 fun a1 =>
  L.load (.one (.int .i64)) (a1.add 0) fun (x2 : Int) =>
  L.ite (x2 != 2) (
    K (.int .i64 9)) <|
  L.nonnil p0 fun a3 =>
  L.call Pr n_pod_bag_int_put [.pointer (some (a3.add 1)), .int .i64 p1] (.one (.one (.int .i64))) fun (x4 : Int) =>
  K (.int .i64 x4)
theorem D_pod_Pod_Take (p0 : Option Addr) (p1 : Int) (K : Value → PT) : denF Pr Dt Try.f41 A_pod_Pod_Take [.v (.pointer p0), .v (.int .i64 p1)] K = F_pod_Pod_Take p0 p1 K := by kernel_rfl
theorem C_pod_Pod_Take (p0 : Option Addr) (p1 : Int) {K : Value → PT} {w : World} (h : F_pod_Pod_Take p0 p1 K w) : Calls Pr n_pod_Pod_Take [.pointer p0, .int .i64 p1].toArray w fun e w2 => ∃ v, e = .returned v ∧ K v w2 :=
  denF_ok Tok (f := 41) (fn := Try.f41) (an := A_pod_Pod_Take) (args := [.v (.pointer p0), .v (.int .i64 p1)]) (by kernel_rfl) (by kernel_rfl) ((congrFun (D_pod_Pod_Take p0 p1 K) w).mpr h)
theorem E_pod_Pod_Take : Enters Pr n_pod_Pod_Take := enters_of_B (by kernel_rfl)

def A_pod_Pod_Give : Ann := .auto
/-- (*damper/pod.Pod).Give -/
def F_pod_Pod_Give (p0 : Option Addr) (p1 : Int) (K : Value → PT) : PT :=
  L.nonnil p0 fun a1 =>
  L.call Pr n_pod_bag_int_take [.pointer (some (a1.add 1)), .int .i64 p1] (.one (.one (.int .i64))) fun (x2 : Int) =>
  L.call Pr n_pod_Pod_end [.pointer p0] (.tup []) fun (x3 : Unit) =>
  K (.int .i64 x2)
theorem D_pod_Pod_Give (p0 : Option Addr) (p1 : Int) (K : Value → PT) : denF Pr Dt Try.f42 A_pod_Pod_Give [.v (.pointer p0), .v (.int .i64 p1)] K = F_pod_Pod_Give p0 p1 K := by kernel_rfl
theorem C_pod_Pod_Give (p0 : Option Addr) (p1 : Int) {K : Value → PT} {w : World} (h : F_pod_Pod_Give p0 p1 K w) : Calls Pr n_pod_Pod_Give [.pointer p0, .int .i64 p1].toArray w fun e w2 => ∃ v, e = .returned v ∧ K v w2 :=
  denF_ok Tok (f := 42) (fn := Try.f42) (an := A_pod_Pod_Give) (args := [.v (.pointer p0), .v (.int .i64 p1)]) (by kernel_rfl) (by kernel_rfl) ((congrFun (D_pod_Pod_Give p0 p1 K) w).mpr h)
theorem E_pod_Pod_Give : Enters Pr n_pod_Pod_Give := enters_of_B (by kernel_rfl)

def A_damperref11_Fleet_Count : Ann := (.seq .auto (.seq .auto (.seq .auto (.seq (.seq .auto (.one [(9, (.one (.int .i64))), (11, (.one (.int .i64)))] (.seq .auto (.seq .auto .auto (some [(9, (.one (.int .i64)))])) none)) none) .auto none) none) none) none)
/-- (*damper/damperref11.Fleet).Count -/
def F_damperref11_Fleet_Count (p0 : Option Addr) (p1 : ByteArray) (p2 : Int) (p3 : Int) (K : Value → PT) : PT :=
  L.call Pr n_damperref11_Fleet_Pods [.pointer p0, .string p1] (.one (.one (.slice))) fun (x1 : Sl) =>
  L.loop (Y := Int × Int × Unit) (0, 0, ()) fun y2 again3 =>
  L.ite (decide (y2.2.1 < ((x1.len : Nat) : Int))) (
    L.join (Y := Int × Unit) (fun k4 =>
      L.idx x1.a y2.2.1 x1.len 3 fun a6 =>
      L.load (.one (.int .i64)) (a6.add 1) fun (x7 : Int) =>
      L.ite (x7 == p2) (
        k4 (IntKind.wrap .i64 (y2.1 + 1), ())) <|
      L.idx x1.a y2.2.1 x1.len 3 fun a8 =>
      L.load (.one (.int .i64)) (a8.add 1) fun (x9 : Int) =>
      L.ite (x9 == p3) (
        k4 (IntKind.wrap .i64 (y2.1 + 1), ())) <|
      k4 (y2.1, ())) fun z5 =>
    again3 (z5.1, IntKind.wrap .i64 (y2.2.1 + 1), ())) <|
  K (.int .i64 y2.1)
theorem D_damperref11_Fleet_Count (p0 : Option Addr) (p1 : ByteArray) (p2 : Int) (p3 : Int) (K : Value → PT) : denF Pr Dt Try.f43 A_damperref11_Fleet_Count [.v (.pointer p0), .v (.string p1), .v (.int .i64 p2), .v (.int .i64 p3)] K = F_damperref11_Fleet_Count p0 p1 p2 p3 K := by kernel_rfl
theorem C_damperref11_Fleet_Count (p0 : Option Addr) (p1 : ByteArray) (p2 : Int) (p3 : Int) {K : Value → PT} {w : World} (h : F_damperref11_Fleet_Count p0 p1 p2 p3 K w) : Calls Pr n_damperref11_Fleet_Count [.pointer p0, .string p1, .int .i64 p2, .int .i64 p3].toArray w fun e w2 => ∃ v, e = .returned v ∧ K v w2 :=
  denF_ok Tok (f := 43) (fn := Try.f43) (an := A_damperref11_Fleet_Count) (args := [.v (.pointer p0), .v (.string p1), .v (.int .i64 p2), .v (.int .i64 p3)]) (by kernel_rfl) (by kernel_rfl) ((congrFun (D_damperref11_Fleet_Count p0 p1 p2 p3 K) w).mpr h)
theorem E_damperref11_Fleet_Count : Enters Pr n_damperref11_Fleet_Count := enters_of_B (by kernel_rfl)

def A_damperref7_New : Ann := .auto
/-- damper/damperref7.New -/
def F_damperref7_New (p0 : Int) (K : Value → PT) : PT :=
  L.new [.int .i64 p0, .int .i64 1, .slice none 0 0] T_damperref7_Pod fun b1 =>
  K (.pointer (some (⟨b1, 0, none⟩)))
theorem D_damperref7_New (p0 : Int) (K : Value → PT) : denF Pr Dt Try.f44 A_damperref7_New [.v (.int .i64 p0)] K = F_damperref7_New p0 K := by kernel_rfl
theorem C_damperref7_New (p0 : Int) {K : Value → PT} {w : World} (h : F_damperref7_New p0 K w) : Calls Pr n_damperref7_New [.int .i64 p0].toArray w fun e w2 => ∃ v, e = .returned v ∧ K v w2 :=
  denF_ok Tok (f := 44) (fn := Try.f44) (an := A_damperref7_New) (args := [.v (.int .i64 p0)]) (by kernel_rfl) (by kernel_rfl) ((congrFun (D_damperref7_New p0 K) w).mpr h)
theorem E_damperref7_New : Enters Pr n_damperref7_New := enters_of_B (by kernel_rfl)

def A_damperref11_Fleet_last : Ann := (.seq .auto (.seq .auto (.seq (.seq .auto (.one [(5, (.one (.ptr))), (6, (.one (.int .i64)))] (.seq .auto (.seq (.seq .auto (.seq .auto (.seq (.seq .auto (.cond .auto .auto) none) (.seq .auto (.cond .auto .auto) none) (some [])) none) none) .auto (some [(5, (.one (.ptr)))])) none)) none) .auto none) none) none)
/-- (*damper/damperref11.Fleet).last -/
def F_damperref11_Fleet_last (p0 : Option Addr) (p1 : ByteArray) (K : Value → PT) : PT :=
  L.loop (Y := Option Addr × Int × Unit) (none, 0, ()) fun y1 again2 =>
  L.nonnil p0 fun a3 =>
  L.load (.one (.slice)) (a3.add 2) fun (x4 : Sl) =>
  L.ite (decide (y1.2.1 < ((x4.len : Nat) : Int))) (
    L.join (Y := Option Addr × Unit) (fun k5 =>
      L.nonnil p0 fun a7 =>
      L.load (.one (.slice)) (a7.add 2) fun (x8 : Sl) =>
      L.idx x8.a y1.2.1 x8.len 1 fun a9 =>
      L.load (.one (.ptr)) a9 fun (x10 : Option Addr) =>
      L.nonnil x10 fun a11 =>
      L.load (.one (.ptr)) (a11.add 2) fun (x12 : Option Addr) =>
      L.call Pr n_damperref7_Pod_State [.pointer x12] (.one (.one (.int .i64))) fun (x13 : Int) =>
      L.join (Y := Unit) (fun k14 =>
        L.nonnil x10 fun a16 =>
        L.load (.one (.str)) (a16.add 1) fun (x17 : ByteArray) =>
        L.ite (!(x17.toList == p1.toList)) (
          k5 (y1.1, ())) <|
        L.ite (x13 != 1) (
          L.ite (x13 != 2) (
            k5 (y1.1, ())) <|
          k14 (())) <|
        k14 (())) fun z15 =>
      L.draw <|
      L.ite ((y1.1).isNone) (
        k5 (x10, ())) <|
      L.nonnil y1.1 fun a18 =>
      L.load (.one (.ptr)) (a18.add 2) fun (x19 : Option Addr) =>
      L.call Pr n_damperref7_Pod_State [.pointer x19] (.one (.one (.int .i64))) fun (x20 : Int) =>
      L.ite (decide (x13 < x20)) (
        k5 (x10, ())) <|
      L.nonnil y1.1 fun a21 =>
      L.load (.one (.ptr)) (a21.add 2) fun (x22 : Option Addr) =>
      L.call Pr n_damperref7_Pod_State [.pointer x22] (.one (.one (.int .i64))) fun (x23 : Int) =>
      L.ite (x13 == x23) (
        L.nonnil x10 fun a24 =>
        L.load (.one (.ptr)) (a24.add 2) fun (x25 : Option Addr) =>
        L.nonnil y1.1 fun a26 =>
        L.load (.one (.ptr)) (a26.add 2) fun (x27 : Option Addr) =>
        L.call Pr n_damperref7_Pod_Load [.pointer x25] (.one (.one (.int .i64))) fun (x28 : Int) =>
        L.chk (a26.add 2) [.pointer x27] <|
        L.call Pr n_damperref7_Pod_Load [.pointer x27] (.one (.one (.int .i64))) fun (x29 : Int) =>
        L.ite (decide (x28 ≤ x29)) (
          k5 (x10, ())) <|
        k5 (y1.1, ())) <|
      k5 (y1.1, ())) fun z6 =>
    again2 (z6.1, IntKind.wrap .i64 (y1.2.1 + 1), ())) <|
  K (.pointer y1.1)
theorem D_damperref11_Fleet_last (p0 : Option Addr) (p1 : ByteArray) (K : Value → PT) : denF Pr Dt Try.f45 A_damperref11_Fleet_last [.v (.pointer p0), .v (.string p1)] K = F_damperref11_Fleet_last p0 p1 K := by kernel_rfl
theorem C_damperref11_Fleet_last (p0 : Option Addr) (p1 : ByteArray) {K : Value → PT} {w : World} (h : F_damperref11_Fleet_last p0 p1 K w) : Calls Pr n_damperref11_Fleet_last [.pointer p0, .string p1].toArray w fun e w2 => ∃ v, e = .returned v ∧ K v w2 :=
  denF_ok Tok (f := 45) (fn := Try.f45) (an := A_damperref11_Fleet_last) (args := [.v (.pointer p0), .v (.string p1)]) (by kernel_rfl) (by kernel_rfl) ((congrFun (D_damperref11_Fleet_last p0 p1 K) w).mpr h)
theorem E_damperref11_Fleet_last : Enters Pr n_damperref11_Fleet_last := enters_of_B (by kernel_rfl)

def A_damperref7_Pod_Drain : Ann := (.seq .auto (.seq (.seq .auto (.cond .auto .auto) none) (.seq .auto (.seq .auto .auto (some [])) none) (some [])) none)
/-- (*damper/damperref7.Pod).Drain -/
def F_damperref7_Pod_Drain (p0 : Option Addr) (K : Value → PT) : PT :=
  L.join (Y := Unit) (fun k1 =>
    L.nonnil p0 fun a3 =>
    L.load (.one (.int .i64)) (a3.add 1) fun (x4 : Int) =>
    L.ite (x4 != 1) (
      L.nonnil p0 fun a5 =>
      L.load (.one (.int .i64)) (a5.add 1) fun (x6 : Int) =>
      L.ite (x6 != 2) (
        K (.int .i64 9)) <|
      k1 (())) <|
    k1 (())) fun z2 =>
  L.nonnil p0 fun a7 =>
  L.store (a7.add 1) [.int .i64 4] <|
  L.join (Y := Unit) (fun k8 =>
    L.nonnil p0 fun a10 =>
    L.load (.one (.slice)) (a10.add 2) fun (x11 : Sl) =>
    L.ite (decide (((x11.len : Nat) : Int) > 0)) (
      L.nonnil p0 fun a12 =>
      L.store (a12.add 1) [.int .i64 3] <|
      k8 (())) <|
    k8 (())) fun z9 =>
  K (.int .i64 0)
theorem D_damperref7_Pod_Drain (p0 : Option Addr) (K : Value → PT) : denF Pr Dt Try.f46 A_damperref7_Pod_Drain [.v (.pointer p0)] K = F_damperref7_Pod_Drain p0 K := by kernel_rfl
theorem C_damperref7_Pod_Drain (p0 : Option Addr) {K : Value → PT} {w : World} (h : F_damperref7_Pod_Drain p0 K w) : Calls Pr n_damperref7_Pod_Drain [.pointer p0].toArray w fun e w2 => ∃ v, e = .returned v ∧ K v w2 :=
  denF_ok Tok (f := 46) (fn := Try.f46) (an := A_damperref7_Pod_Drain) (args := [.v (.pointer p0)]) (by kernel_rfl) (by kernel_rfl) ((congrFun (D_damperref7_Pod_Drain p0 K) w).mpr h)
theorem E_damperref7_Pod_Drain : Enters Pr n_damperref7_Pod_Drain := enters_of_B (by kernel_rfl)

def A_damperref11_Fleet_sweep : Ann := (.seq .auto (.seq (.seq .auto (.one [(2, (.one (.slice))), (3, (.one (.int .i64)))] (.seq .auto (.seq .auto .auto (some [(2, (.one (.slice)))])) none)) none) .auto none) none)
/-- (*damper/damperref11.Fleet).sweep -/
def F_damperref11_Fleet_sweep (p0 : Option Addr) (K : Value → PT) : PT :=
  L.loop (Y := Sl × Int × Unit) (⟨none, 0, 0⟩, 0, ()) fun y1 again2 =>
  L.nonnil p0 fun a3 =>
  L.load (.one (.slice)) (a3.add 2) fun (x4 : Sl) =>
  L.ite (decide (y1.2.1 < ((x4.len : Nat) : Int))) (
    L.join (Y := Sl × Unit) (fun k5 =>
      L.nonnil p0 fun a7 =>
      L.load (.one (.slice)) (a7.add 2) fun (x8 : Sl) =>
      L.idx x8.a y1.2.1 x8.len 1 fun a9 =>
      L.load (.one (.ptr)) a9 fun (x10 : Option Addr) =>
      L.nonnil x10 fun a11 =>
      L.load (.one (.ptr)) (a11.add 2) fun (x12 : Option Addr) =>
      L.call Pr n_damperref7_Pod_State [.pointer x12] (.one (.one (.int .i64))) fun (x13 : Int) =>
      L.ite (x13 != 4) (
        L.nonnil p0 fun a14 =>
        L.load (.one (.slice)) (a14.add 2) fun (x15 : Sl) =>
        L.idx x15.a y1.2.1 x15.len 1 fun a16 =>
        L.load (.one (.ptr)) a16 fun (x17 : Option Addr) =>
        L.new [.pointer x17] T_p_damperref11_Held fun b18 =>
        L.sem Pr (.one (.one .slice)) (Builtin.append_ #[T_s_p_damperref11_Held, T_s_p_damperref11_Held] T_s_p_damperref11_Held #[.slice y1.1.a y1.1.len y1.1.cap, .slice (some ⟨b18, 0, none⟩) 1 1]) fun (s19 : Sl) =>
        k5 (⟨s19.a, s19.len, s19.cap⟩, ())) <|
      k5 (⟨y1.1.a, y1.1.len, y1.1.cap⟩, ())) fun z6 =>
    again2 (⟨z6.1.a, z6.1.len, z6.1.cap⟩, IntKind.wrap .i64 (y1.2.1 + 1), ())) <|
  L.nonnil p0 fun a20 =>
  L.store (a20.add 2) [.slice y1.1.a y1.1.len y1.1.cap] <|
  K (.tuple #[])
theorem D_damperref11_Fleet_sweep (p0 : Option Addr) (K : Value → PT) : denF Pr Dt Try.f47 A_damperref11_Fleet_sweep [.v (.pointer p0)] K = F_damperref11_Fleet_sweep p0 K := by kernel_rfl
theorem C_damperref11_Fleet_sweep (p0 : Option Addr) {K : Value → PT} {w : World} (h : F_damperref11_Fleet_sweep p0 K w) : Calls Pr n_damperref11_Fleet_sweep [.pointer p0].toArray w fun e w2 => ∃ v, e = .returned v ∧ K v w2 :=
  denF_ok Tok (f := 47) (fn := Try.f47) (an := A_damperref11_Fleet_sweep) (args := [.v (.pointer p0)]) (by kernel_rfl) (by kernel_rfl) ((congrFun (D_damperref11_Fleet_sweep p0 K) w).mpr h)
theorem E_damperref11_Fleet_sweep : Enters Pr n_damperref11_Fleet_sweep := enters_of_B (by kernel_rfl)

def A_damperref11_Fleet_find : Ann := (.seq .auto (.seq (.seq .auto (.one [(5, (.one (.int .i64)))] .auto) none) .auto none) none)
/-- (*damper/damperref11.Fleet).find -/
def F_damperref11_Fleet_find (p0 : Option Addr) (p1 : Int) (K : Value → PT) : PT :=
  L.loop (Y := Int × Unit) (0, ()) fun y1 again2 =>
  L.nonnil p0 fun a3 =>
  L.load (.one (.slice)) (a3.add 2) fun (x4 : Sl) =>
  L.ite (decide (y1.1 < ((x4.len : Nat) : Int))) (
    L.nonnil p0 fun a5 =>
    L.load (.one (.slice)) (a5.add 2) fun (x6 : Sl) =>
    L.idx x6.a y1.1 x6.len 1 fun a7 =>
    L.load (.one (.ptr)) a7 fun (x8 : Option Addr) =>
    L.nonnil x8 fun a9 =>
    L.load (.one (.int .i64)) (a9.add 0) fun (x10 : Int) =>
    L.ite (x10 == p1) (
      L.nonnil p0 fun a11 =>
      L.load (.one (.slice)) (a11.add 2) fun (x12 : Sl) =>
      L.idx x12.a y1.1 x12.len 1 fun a13 =>
      L.load (.one (.ptr)) a13 fun (x14 : Option Addr) =>
      K (.pointer x14)) <|
    again2 (IntKind.wrap .i64 (y1.1 + 1), ())) <|
  K (.pointer none)
theorem D_damperref11_Fleet_find (p0 : Option Addr) (p1 : Int) (K : Value → PT) : denF Pr Dt Try.f48 A_damperref11_Fleet_find [.v (.pointer p0), .v (.int .i64 p1)] K = F_damperref11_Fleet_find p0 p1 K := by kernel_rfl
theorem C_damperref11_Fleet_find (p0 : Option Addr) (p1 : Int) {K : Value → PT} {w : World} (h : F_damperref11_Fleet_find p0 p1 K w) : Calls Pr n_damperref11_Fleet_find [.pointer p0, .int .i64 p1].toArray w fun e w2 => ∃ v, e = .returned v ∧ K v w2 :=
  denF_ok Tok (f := 48) (fn := Try.f48) (an := A_damperref11_Fleet_find) (args := [.v (.pointer p0), .v (.int .i64 p1)]) (by kernel_rfl) (by kernel_rfl) ((congrFun (D_damperref11_Fleet_find p0 p1 K) w).mpr h)
theorem E_damperref11_Fleet_find : Enters Pr n_damperref11_Fleet_find := enters_of_B (by kernel_rfl)

def A_damperref7_Pod_Up : Ann := .auto
/-- (*damper/damperref7.Pod).Up -/
def F_damperref7_Pod_Up (p0 : Option Addr) (K : Value → PT) : PT :=
  L.nonnil p0 fun a1 =>
  L.load (.one (.int .i64)) (a1.add 1) fun (x2 : Int) =>
  L.ite (x2 != 1) (
    K (.int .i64 9)) <|
  L.nonnil p0 fun a3 =>
  L.store (a3.add 1) [.int .i64 2] <|
  K (.int .i64 0)
theorem D_damperref7_Pod_Up (p0 : Option Addr) (K : Value → PT) : denF Pr Dt Try.f49 A_damperref7_Pod_Up [.v (.pointer p0)] K = F_damperref7_Pod_Up p0 K := by kernel_rfl
theorem C_damperref7_Pod_Up (p0 : Option Addr) {K : Value → PT} {w : World} (h : F_damperref7_Pod_Up p0 K w) : Calls Pr n_damperref7_Pod_Up [.pointer p0].toArray w fun e w2 => ∃ v, e = .returned v ∧ K v w2 :=
  denF_ok Tok (f := 49) (fn := Try.f49) (an := A_damperref7_Pod_Up) (args := [.v (.pointer p0)]) (by kernel_rfl) (by kernel_rfl) ((congrFun (D_damperref7_Pod_Up p0 K) w).mpr h)
theorem E_damperref7_Pod_Up : Enters Pr n_damperref7_Pod_Up := enters_of_B (by kernel_rfl)

def A_damperref11_Fleet_where : Ann := (.seq .auto (.seq (.seq .auto (.one [(5, (.one (.int .i64)))] .auto) none) .auto none) none)
/-- (*damper/damperref11.Fleet).where -/
def F_damperref11_Fleet_where (p0 : Option Addr) (p1 : Int) (K : Value → PT) : PT :=
  L.loop (Y := Int × Unit) (0, ()) fun y1 again2 =>
  L.nonnil p0 fun a3 =>
  L.load (.one (.slice)) (a3.add 2) fun (x4 : Sl) =>
  L.ite (decide (y1.1 < ((x4.len : Nat) : Int))) (
    L.nonnil p0 fun a5 =>
    L.load (.one (.slice)) (a5.add 2) fun (x6 : Sl) =>
    L.idx x6.a y1.1 x6.len 1 fun a7 =>
    L.load (.one (.ptr)) a7 fun (x8 : Option Addr) =>
    L.nonnil x8 fun a9 =>
    L.load (.one (.ptr)) (a9.add 2) fun (x10 : Option Addr) =>
    L.call Pr n_damperref7_Pod_Has [.pointer x10, .int .i64 p1] (.one (.one (.bool))) fun (x11 : Bool) =>
    L.ite x11 (
      L.nonnil p0 fun a12 =>
      L.load (.one (.slice)) (a12.add 2) fun (x13 : Sl) =>
      L.idx x13.a y1.1 x13.len 1 fun a14 =>
      L.load (.one (.ptr)) a14 fun (x15 : Option Addr) =>
      K (.pointer x15)) <|
    again2 (IntKind.wrap .i64 (y1.1 + 1), ())) <|
  K (.pointer none)
theorem D_damperref11_Fleet_where (p0 : Option Addr) (p1 : Int) (K : Value → PT) : denF Pr Dt Try.f50 A_damperref11_Fleet_where [.v (.pointer p0), .v (.int .i64 p1)] K = F_damperref11_Fleet_where p0 p1 K := by kernel_rfl
theorem C_damperref11_Fleet_where (p0 : Option Addr) (p1 : Int) {K : Value → PT} {w : World} (h : F_damperref11_Fleet_where p0 p1 K w) : Calls Pr n_damperref11_Fleet_where [.pointer p0, .int .i64 p1].toArray w fun e w2 => ∃ v, e = .returned v ∧ K v w2 :=
  denF_ok Tok (f := 50) (fn := Try.f50) (an := A_damperref11_Fleet_where) (args := [.v (.pointer p0), .v (.int .i64 p1)]) (by kernel_rfl) (by kernel_rfl) ((congrFun (D_damperref11_Fleet_where p0 p1 K) w).mpr h)
theorem E_damperref11_Fleet_where : Enters Pr n_damperref11_Fleet_where := enters_of_B (by kernel_rfl)

def A_damperref7_Pod_State : Ann := .auto
/-- (*damper/damperref7.Pod).State -/
def F_damperref7_Pod_State (p0 : Option Addr) (K : Value → PT) : PT :=
  L.nonnil p0 fun a1 =>
  L.load (.one (.int .i64)) (a1.add 1) fun (x2 : Int) =>
  K (.int .i64 x2)
theorem D_damperref7_Pod_State (p0 : Option Addr) (K : Value → PT) : denF Pr Dt Try.f51 A_damperref7_Pod_State [.v (.pointer p0)] K = F_damperref7_Pod_State p0 K := by kernel_rfl
theorem C_damperref7_Pod_State (p0 : Option Addr) {K : Value → PT} {w : World} (h : F_damperref7_Pod_State p0 K w) : Calls Pr n_damperref7_Pod_State [.pointer p0].toArray w fun e w2 => ∃ v, e = .returned v ∧ K v w2 :=
  denF_ok Tok (f := 51) (fn := Try.f51) (an := A_damperref7_Pod_State) (args := [.v (.pointer p0)]) (by kernel_rfl) (by kernel_rfl) ((congrFun (D_damperref7_Pod_State p0 K) w).mpr h)
theorem E_damperref7_Pod_State : Enters Pr n_damperref7_Pod_State := enters_of_B (by kernel_rfl)

def A_damperref7_Pod_Load : Ann := .auto
/-- (*damper/damperref7.Pod).Load -/
def F_damperref7_Pod_Load (p0 : Option Addr) (K : Value → PT) : PT :=
  L.nonnil p0 fun a1 =>
  L.load (.one (.slice)) (a1.add 2) fun (x2 : Sl) =>
  K (.int .i64 ((x2.len : Nat) : Int))
theorem D_damperref7_Pod_Load (p0 : Option Addr) (K : Value → PT) : denF Pr Dt Try.f52 A_damperref7_Pod_Load [.v (.pointer p0)] K = F_damperref7_Pod_Load p0 K := by kernel_rfl
theorem C_damperref7_Pod_Load (p0 : Option Addr) {K : Value → PT} {w : World} (h : F_damperref7_Pod_Load p0 K w) : Calls Pr n_damperref7_Pod_Load [.pointer p0].toArray w fun e w2 => ∃ v, e = .returned v ∧ K v w2 :=
  denF_ok Tok (f := 52) (fn := Try.f52) (an := A_damperref7_Pod_Load) (args := [.v (.pointer p0)]) (by kernel_rfl) (by kernel_rfl) ((congrFun (D_damperref7_Pod_Load p0 K) w).mpr h)
theorem E_damperref7_Pod_Load : Enters Pr n_damperref7_Pod_Load := enters_of_B (by kernel_rfl)

def A_damperref7_Pod_Take : Ann := (.seq .auto (.seq .auto (.seq .auto (.seq (.one [(5, (.one (.int .i64)))] (.seq (.seq .auto (.cond .auto .auto) none) .auto none)) (.seq (.one [] .auto) .auto none) (some [(5, (.one (.int .i64)))])) none) none) none)
/-- (*damper/damperref7.Pod).Take -/
def F_damperref7_Pod_Take (p0 : Option Addr) (p1 : Int) (K : Value → PT) : PT :=
  L.nonnil p0 fun a1 =>
  L.load (.one (.int .i64)) (a1.add 1) fun (x2 : Int) =>
  L.ite (x2 != 2) (
    K (.int .i64 9)) <|
  L.call Pr n_damperref7_Pod_Has [.pointer p0, .int .i64 p1] (.one (.one (.bool))) fun (x3 : Bool) =>
  L.ite x3 (
    K (.int .i64 5)) <|
  L.draw <|
  L.nonnil p0 fun a4 =>
  L.load (.one (.slice)) (a4.add 2) fun (x5 : Sl) =>
  L.nonnil p0 fun a6 =>
  L.load (.one (.int .i64)) (a6.add 0) fun (x7 : Int) =>
  L.ite (decide (((x5.len : Nat) : Int) ≥ x7)) (
    K (.int .i64 8)) <|
  L.join (Y := Int × Unit) (fun k8 =>
    L.loop (Y := Int × Unit) (0, ()) fun y10 again11 =>
    L.nonnil p0 fun a12 =>
    L.load (.one (.slice)) (a12.add 2) fun (x13 : Sl) =>
    L.ite (decide (y10.1 < ((x13.len : Nat) : Int))) (
      L.nonnil p0 fun a14 =>
      L.load (.one (.slice)) (a14.add 2) fun (x15 : Sl) =>
      L.idx x15.a y10.1 x15.len 1 fun a16 =>
      L.load (.one (.int .i64)) a16 fun (x17 : Int) =>
      L.ite (decide (x17 < p1)) (
        again11 (IntKind.wrap .i64 (y10.1 + 1), ())) <|
      k8 (y10.1, ())) <|
    k8 (y10.1, ())) fun z9 =>
  L.join (Y := Unit) (fun k18 =>
    L.draw <|
    L.nonnil p0 fun a20 =>
    L.load (.one (.slice)) (a20.add 2) fun (x21 : Sl) =>
    L.guard (0 ≤ (0 : Int) ∧ (0 : Int) ≤ z9.1 ∧ z9.1 ≤ ((x21.cap : Nat) : Int) ∧ ((x21.cap : Nat) : Int) ≤ x21.cap) <|
    L.nonnil p0 fun a22 =>
    L.load (.one (.slice)) (a22.add 2) fun (x23 : Sl) =>
    L.guard (0 ≤ z9.1 ∧ z9.1 ≤ ((x23.len : Nat) : Int) ∧ ((x23.len : Nat) : Int) ≤ ((x23.cap : Nat) : Int) ∧ ((x23.cap : Nat) : Int) ≤ x23.cap) <|
    L.alts [(
        L.new [] T_int fun b24 =>
        L.chk (a22.add 2) [.slice x23.a x23.len x23.cap] <|
        L.chk (a20.add 2) [.slice x21.a x21.len x21.cap] <|
        L.alts [(
            L.sem Pr (.one (.one .slice)) (Builtin.append_ #[T_s_int, T_s_int] T_s_int #[.slice (some ⟨b24, 0, none⟩) 0 0, .slice (if Int.toNat ((x21.cap : Nat) : Int) = Int.toNat (0 : Int) then x21.a else Option.map (fun a : Addr => a.add (Int.toNat (0 : Int) * 1)) x21.a) (Int.toNat z9.1 - Int.toNat (0 : Int)) (Int.toNat ((x21.cap : Nat) : Int) - Int.toNat (0 : Int))]) fun (s25 : Sl) =>
            L.chk (a22.add 2) [.slice x23.a x23.len x23.cap] <|
            L.new [.int .i64 p1] T_int fun b26 =>
            L.chk (a22.add 2) [.slice x23.a x23.len x23.cap] <|
            L.chk (a20.add 2) [.slice x21.a x21.len x21.cap] <|
            L.sem Pr (.one (.one .slice)) (Builtin.append_ #[T_s_int, T_s_int] T_s_int #[.slice s25.a s25.len s25.cap, .slice (some ⟨b26, 0, none⟩) 1 1]) fun (s27 : Sl) =>
            L.chk (a22.add 2) [.slice x23.a x23.len x23.cap] <|
            L.sem Pr (.one (.one .slice)) (Builtin.append_ #[T_s_int, T_s_int] T_s_int #[.slice s27.a s27.len s27.cap, .slice (if Int.toNat ((x23.cap : Nat) : Int) = Int.toNat z9.1 then x23.a else Option.map (fun a : Addr => a.add (Int.toNat z9.1 * 1)) x23.a) (Int.toNat ((x23.len : Nat) : Int) - Int.toNat z9.1) (Int.toNat ((x23.cap : Nat) : Int) - Int.toNat z9.1)]) fun (s28 : Sl) =>
            L.nonnil p0 fun a29 =>
            L.store (a29.add 2) [.slice s28.a s28.len s28.cap] <|
            k18 (())),(
            L.new [.int .i64 p1] T_int fun b30 =>
            L.chk (a22.add 2) [.slice x23.a x23.len x23.cap] <|
            L.chk (a20.add 2) [.slice x21.a x21.len x21.cap] <|
            L.sem Pr (.one (.one .slice)) (Builtin.append_ #[T_s_int, T_s_int] T_s_int #[.slice (some ⟨b24, 0, none⟩) 0 0, .slice (if Int.toNat ((x21.cap : Nat) : Int) = Int.toNat (0 : Int) then x21.a else Option.map (fun a : Addr => a.add (Int.toNat (0 : Int) * 1)) x21.a) (Int.toNat z9.1 - Int.toNat (0 : Int)) (Int.toNat ((x21.cap : Nat) : Int) - Int.toNat (0 : Int))]) fun (s31 : Sl) =>
            L.chk (a22.add 2) [.slice x23.a x23.len x23.cap] <|
            L.sem Pr (.one (.one .slice)) (Builtin.append_ #[T_s_int, T_s_int] T_s_int #[.slice s31.a s31.len s31.cap, .slice (some ⟨b30, 0, none⟩) 1 1]) fun (s32 : Sl) =>
            L.chk (a22.add 2) [.slice x23.a x23.len x23.cap] <|
            L.sem Pr (.one (.one .slice)) (Builtin.append_ #[T_s_int, T_s_int] T_s_int #[.slice s32.a s32.len s32.cap, .slice (if Int.toNat ((x23.cap : Nat) : Int) = Int.toNat z9.1 then x23.a else Option.map (fun a : Addr => a.add (Int.toNat z9.1 * 1)) x23.a) (Int.toNat ((x23.len : Nat) : Int) - Int.toNat z9.1) (Int.toNat ((x23.cap : Nat) : Int) - Int.toNat z9.1)]) fun (s33 : Sl) =>
            L.nonnil p0 fun a34 =>
            L.store (a34.add 2) [.slice s33.a s33.len s33.cap] <|
            k18 (()))]),(
        L.new [.int .i64 p1] T_int fun b35 =>
        L.chk (a22.add 2) [.slice x23.a x23.len x23.cap] <|
        L.chk (a20.add 2) [.slice x21.a x21.len x21.cap] <|
        L.new [] T_int fun b36 =>
        L.chk (a22.add 2) [.slice x23.a x23.len x23.cap] <|
        L.chk (a20.add 2) [.slice x21.a x21.len x21.cap] <|
        L.sem Pr (.one (.one .slice)) (Builtin.append_ #[T_s_int, T_s_int] T_s_int #[.slice (some ⟨b36, 0, none⟩) 0 0, .slice (if Int.toNat ((x21.cap : Nat) : Int) = Int.toNat (0 : Int) then x21.a else Option.map (fun a : Addr => a.add (Int.toNat (0 : Int) * 1)) x21.a) (Int.toNat z9.1 - Int.toNat (0 : Int)) (Int.toNat ((x21.cap : Nat) : Int) - Int.toNat (0 : Int))]) fun (s37 : Sl) =>
        L.chk (a22.add 2) [.slice x23.a x23.len x23.cap] <|
        L.sem Pr (.one (.one .slice)) (Builtin.append_ #[T_s_int, T_s_int] T_s_int #[.slice s37.a s37.len s37.cap, .slice (some ⟨b35, 0, none⟩) 1 1]) fun (s38 : Sl) =>
        L.chk (a22.add 2) [.slice x23.a x23.len x23.cap] <|
        L.sem Pr (.one (.one .slice)) (Builtin.append_ #[T_s_int, T_s_int] T_s_int #[.slice s38.a s38.len s38.cap, .slice (if Int.toNat ((x23.cap : Nat) : Int) = Int.toNat z9.1 then x23.a else Option.map (fun a : Addr => a.add (Int.toNat z9.1 * 1)) x23.a) (Int.toNat ((x23.len : Nat) : Int) - Int.toNat z9.1) (Int.toNat ((x23.cap : Nat) : Int) - Int.toNat z9.1)]) fun (s39 : Sl) =>
        L.nonnil p0 fun a40 =>
        L.store (a40.add 2) [.slice s39.a s39.len s39.cap] <|
        k18 (()))]) fun z19 =>
  K (.int .i64 0)
theorem D_damperref7_Pod_Take (p0 : Option Addr) (p1 : Int) (K : Value → PT) : denF Pr Dt Try.f53 A_damperref7_Pod_Take [.v (.pointer p0), .v (.int .i64 p1)] K = F_damperref7_Pod_Take p0 p1 K := by kernel_rfl
theorem C_damperref7_Pod_Take (p0 : Option Addr) (p1 : Int) {K : Value → PT} {w : World} (h : F_damperref7_Pod_Take p0 p1 K w) : Calls Pr n_damperref7_Pod_Take [.pointer p0, .int .i64 p1].toArray w fun e w2 => ∃ v, e = .returned v ∧ K v w2 :=
  denF_ok Tok (f := 53) (fn := Try.f53) (an := A_damperref7_Pod_Take) (args := [.v (.pointer p0), .v (.int .i64 p1)]) (by kernel_rfl) (by kernel_rfl) ((congrFun (D_damperref7_Pod_Take p0 p1 K) w).mpr h)
theorem E_damperref7_Pod_Take : Enters Pr n_damperref7_Pod_Take := enters_of_B (by kernel_rfl)

def A_pod_Pod_Kill : Ann := (.seq .auto (.seq .auto (.seq .auto (.seq (.seq .auto (.one [(21, (.one (.int .i64)))] .auto) none) .auto none) none) none) none)
/-- (*damper/pod.Pod).Kill -/
def F_pod_Pod_Kill (p0 : Option Addr) (K : Value → PT) : PT :=
  L.nonnil p0 fun a1 =>
  L.load (.one (.int .i64)) (a1.add 0) fun (x2 : Int) =>
  L.ite (x2 == 4) (
    K (.tuple #[.slice none 0 0, .int .i64 9])) <|
  L.nonnil p0 fun a3 =>
  L.load (.one (.map)) ((a3.add 1).add 0) fun (x4 : Option Nat) =>
  L.call Pr n_maps_Keys_map_int_bool_int_bool [.map x4] (.one (.one (.func))) fun (x5 : FV) =>
  L.call Pr n_slices_Sorted_int [.func x5.fn x5.fs x5.cs] (.one (.one (.slice))) fun (x6 : Sl) =>
  L.call Pr n_slices_Clone_int_int [.slice x6.a x6.len x6.cap] (.one (.one (.slice))) fun (x7 : Sl) =>
  L.loop (Y := Int × Unit) (0, ()) fun y8 again9 =>
  L.ite (decide (y8.1 < ((x7.len : Nat) : Int))) (
    L.idx x7.a y8.1 x7.len 1 fun a10 =>
    L.load (.one (.int .i64)) a10 fun (x11 : Int) =>
    L.nonnil p0 fun a12 =>
    L.call Pr n_pod_bag_int_take [.pointer (some (a12.add 1)), .int .i64 x11] (.one (.one (.int .i64))) fun (x13 : Int) =>
    again9 (IntKind.wrap .i64 (y8.1 + 1), ())) <|
  L.nonnil p0 fun a14 =>
  L.store (a14.add 0) [.int .i64 4] <|
  K (.tuple #[.slice x7.a x7.len x7.cap, .int .i64 0])
theorem D_pod_Pod_Kill (p0 : Option Addr) (K : Value → PT) : denF Pr Dt Try.f54 A_pod_Pod_Kill [.v (.pointer p0)] K = F_pod_Pod_Kill p0 K := by kernel_rfl
theorem C_pod_Pod_Kill (p0 : Option Addr) {K : Value → PT} {w : World} (h : F_pod_Pod_Kill p0 K w) : Calls Pr n_pod_Pod_Kill [.pointer p0].toArray w fun e w2 => ∃ v, e = .returned v ∧ K v w2 :=
  denF_ok Tok (f := 54) (fn := Try.f54) (an := A_pod_Pod_Kill) (args := [.v (.pointer p0)]) (by kernel_rfl) (by kernel_rfl) ((congrFun (D_pod_Pod_Kill p0 K) w).mpr h)
theorem E_pod_Pod_Kill : Enters Pr n_pod_Pod_Kill := enters_of_B (by kernel_rfl)

def A_pod_Pod_end : Ann := (.seq .auto (.cond .auto .auto) none)
/-- (*damper/pod.Pod).end -/
def F_pod_Pod_end (p0 : Option Addr) (K : Value → PT) : PT :=
  L.nonnil p0 fun a1 =>
  L.load (.one (.int .i64)) (a1.add 0) fun (x2 : Int) =>
  L.ite (x2 == 3) (
    L.call Pr n_pod_Pod_Load [.pointer p0] (.one (.one (.int .i64))) fun (x3 : Int) =>
    L.ite (x3 == 0) (
      L.nonnil p0 fun a4 =>
      L.store (a4.add 0) [.int .i64 4] <|
      K (.tuple #[])) <|
    K (.tuple #[])) <|
  K (.tuple #[])
theorem D_pod_Pod_end (p0 : Option Addr) (K : Value → PT) : denF Pr Dt Try.f55 A_pod_Pod_end [.v (.pointer p0)] K = F_pod_Pod_end p0 K := by kernel_rfl
theorem C_pod_Pod_end (p0 : Option Addr) {K : Value → PT} {w : World} (h : F_pod_Pod_end p0 K w) : Calls Pr n_pod_Pod_end [.pointer p0].toArray w fun e w2 => ∃ v, e = .returned v ∧ K v w2 :=
  denF_ok Tok (f := 55) (fn := Try.f55) (an := A_pod_Pod_end) (args := [.v (.pointer p0)]) (by kernel_rfl) (by kernel_rfl) ((congrFun (D_pod_Pod_end p0 K) w).mpr h)
theorem E_pod_Pod_end : Enters Pr n_pod_Pod_end := enters_of_B (by kernel_rfl)

def A_fleet_Fleet_of_1 : Ann := (.seq .auto (.one [(14, (.one (.int .i64)))] (.seq .auto (.seq .auto (.seq (.seq .auto (.seq .auto (.seq .auto (.cond .auto .auto) none) none) none) .auto (some [])) none) none)) none)
/-- (*damper/fleet.Fleet).of$1 -/
def F_fleet_Fleet_of_1 (p0 : FV) (c0 : Addr) (c1 : Addr) (K : Value → PT) : PT :=
  L.load (.one (.ptr)) c0 fun (x1 : Option Addr) =>
  L.nonnil x1 fun a2 =>
  L.load (.one (.map)) (a2.add 0) fun (x3 : Option Nat) =>
  L.call Pr n_maps_Keys_map_int_fleet_one_int_fleet_one [.map x3] (.one (.one (.func))) fun (x4 : FV) =>
  L.call Pr n_slices_Sorted_int [.func x4.fn x4.fs x4.cs] (.one (.one (.slice))) fun (x5 : Sl) =>
  L.loop (Y := Int × Unit) (0, ()) fun y6 again7 =>
  L.ite (decide (y6.1 < ((x5.len : Nat) : Int))) (
    L.join (Y := Unit) (fun k8 =>
      L.idx x5.a y6.1 x5.len 1 fun a10 =>
      L.load (.one (.int .i64)) a10 fun (x11 : Int) =>
      L.load (.one (.ptr)) c0 fun (x12 : Option Addr) =>
      L.nonnil x12 fun a13 =>
      L.load (.one (.map)) (a13.add 0) fun (x14 : Option Nat) =>
      L.semR Pr (.one (.agg [.str, .ptr])) (Instr.lookup T_map_int_fleet_one (.map x14) (.int .i64 x11) false) fun (x15 : ByteArray × Option Addr × Unit) =>
      L.new [.string s_, .pointer none] T_fleet_one fun b16 =>
      L.store (⟨b16, 0, none⟩) [.string x15.1, .pointer x15.2.1] <|
      L.load (.one (.str)) ((⟨b16, 0, none⟩ : Addr).add 0) fun (x17 : ByteArray) =>
      L.load (.one (.str)) c1 fun (x18 : ByteArray) =>
      L.ite (x17.toList == x18.toList) (
        L.load (.one (.ptr)) ((⟨b16, 0, none⟩ : Addr).add 1) fun (x19 : Option Addr) =>
        L.callV Pr (.func p0.fn p0.fs p0.cs) [.int .i64 x11, .pointer x19] (.one (.one (.bool))) fun (x20 : Bool) =>
        L.ite (!x20) (
          K (.tuple #[])) <|
        k8 (())) <|
      k8 (())) fun z9 =>
    again7 (IntKind.wrap .i64 (y6.1 + 1), ())) <|
  K (.tuple #[])
theorem D_fleet_Fleet_of_1 (p0 : FV) (c0 : Addr) (c1 : Addr) (K : Value → PT) : denF Pr Dt Try.f56 A_fleet_Fleet_of_1 [.v (.func p0.fn p0.fs p0.cs), .v (.pointer (some c0)), .v (.pointer (some c1))] K = F_fleet_Fleet_of_1 p0 c0 c1 K := by kernel_rfl
theorem C_fleet_Fleet_of_1 (p0 : FV) (c0 : Addr) (c1 : Addr) {K : Value → PT} {w : World} (h : F_fleet_Fleet_of_1 p0 c0 c1 K w) : Calls Pr n_fleet_Fleet_of_1 [.func p0.fn p0.fs p0.cs, .pointer (some c0), .pointer (some c1)].toArray w fun e w2 => ∃ v, e = .returned v ∧ K v w2 :=
  denF_ok Tok (f := 56) (fn := Try.f56) (an := A_fleet_Fleet_of_1) (args := [.v (.func p0.fn p0.fs p0.cs), .v (.pointer (some c0)), .v (.pointer (some c1))]) (by kernel_rfl) (by kernel_rfl) ((congrFun (D_fleet_Fleet_of_1 p0 c0 c1 K) w).mpr h)
theorem E_fleet_Fleet_of_1 : Enters Pr n_fleet_Fleet_of_1 := enters_of_B (by kernel_rfl)

def A_slices_Sorted_int : Ann := .auto
/-- slices.Sorted[int] -/
def F_slices_Sorted_int (p0 : FV) (K : Value → PT) : PT :=
  L.call Pr n_slices_Collect_int [.func p0.fn p0.fs p0.cs] (.one (.one (.slice))) fun (x1 : Sl) =>
  L.call Pr n_slices_Sort_int_int [.slice x1.a x1.len x1.cap] (.tup []) fun (x2 : Unit) =>
  K (.slice x1.a x1.len x1.cap)
theorem D_slices_Sorted_int (p0 : FV) (K : Value → PT) : denF Pr Dt Try.f57 A_slices_Sorted_int [.v (.func p0.fn p0.fs p0.cs)] K = F_slices_Sorted_int p0 K := by kernel_rfl
theorem C_slices_Sorted_int (p0 : FV) {K : Value → PT} {w : World} (h : F_slices_Sorted_int p0 K w) : Calls Pr n_slices_Sorted_int [.func p0.fn p0.fs p0.cs].toArray w fun e w2 => ∃ v, e = .returned v ∧ K v w2 :=
  denF_ok Tok (f := 57) (fn := Try.f57) (an := A_slices_Sorted_int) (args := [.v (.func p0.fn p0.fs p0.cs)]) (by kernel_rfl) (by kernel_rfl) ((congrFun (D_slices_Sorted_int p0 K) w).mpr h)
theorem E_slices_Sorted_int : Enters Pr n_slices_Sorted_int := enters_of_B (by kernel_rfl)

def A_maps_Keys_map_int_fleet_one_int_fleet_one : Ann := .auto
/-- maps.Keys[map[int]damper/fleet.one,int,damper/fleet.one] -/
def F_maps_Keys_map_int_fleet_one_int_fleet_one (p0 : Option Nat) (K : Value → PT) : PT :=
  L.new [.map p0] T_map_int_fleet_one fun b1 =>
  K (.func (.func n_maps_Keys_map_int_fleet_one_int_fleet_one_1) #[] #[.pointer (some (⟨b1, 0, none⟩))])
theorem D_maps_Keys_map_int_fleet_one_int_fleet_one (p0 : Option Nat) (K : Value → PT) : denF Pr Dt Try.f58 A_maps_Keys_map_int_fleet_one_int_fleet_one [.v (.map p0)] K = F_maps_Keys_map_int_fleet_one_int_fleet_one p0 K := by kernel_rfl
theorem C_maps_Keys_map_int_fleet_one_int_fleet_one (p0 : Option Nat) {K : Value → PT} {w : World} (h : F_maps_Keys_map_int_fleet_one_int_fleet_one p0 K w) : Calls Pr n_maps_Keys_map_int_fleet_one_int_fleet_one [.map p0].toArray w fun e w2 => ∃ v, e = .returned v ∧ K v w2 :=
  denF_ok Tok (f := 58) (fn := Try.f58) (an := A_maps_Keys_map_int_fleet_one_int_fleet_one) (args := [.v (.map p0)]) (by kernel_rfl) (by kernel_rfl) ((congrFun (D_maps_Keys_map_int_fleet_one_int_fleet_one p0 K) w).mpr h)
theorem E_maps_Keys_map_int_fleet_one_int_fleet_one : Enters Pr n_maps_Keys_map_int_fleet_one_int_fleet_one := enters_of_B (by kernel_rfl)

def A_slices_stableCmpFunc_fleet_choice : Ann := (.seq .auto (.seq .auto (.seq (.one [(7, (.one (.int .i64))), (8, (.one (.int .i64)))] .auto) (.seq .auto (.one [(6, (.one (.int .i64)))] (.seq .auto (.seq .auto (.seq (.one [(7, (.one (.int .i64))), (8, (.one (.int .i64)))] .auto) (.seq .auto .auto (some [])) none) none) none)) none) none) none) none)
/-- slices.stableCmpFunc[damper/fleet.choice] -/
def F_slices_stableCmpFunc_fleet_choice (p0 : Sl) (p1 : Int) (p2 : FV) (K : Value → PT) : PT :=
  L.loop (Y := Int × Int × Unit) (0, 20, ()) fun y1 again2 =>
  L.ite (decide (y1.2.1 ≤ p1)) (
    L.call Pr n_slices_insertionSortCmpFunc_fleet_choice [.slice p0.a p0.len p0.cap, .int .i64 y1.1, .int .i64 y1.2.1, .func p2.fn p2.fs p2.cs] (.tup []) fun (x3 : Unit) =>
    again2 (y1.2.1, IntKind.wrap .i64 (y1.2.1 + 20), ())) <|
  L.call Pr n_slices_insertionSortCmpFunc_fleet_choice [.slice p0.a p0.len p0.cap, .int .i64 y1.1, .int .i64 p1, .func p2.fn p2.fs p2.cs] (.tup []) fun (x4 : Unit) =>
  L.loop (Y := Int × Unit) (20, ()) fun y5 again6 =>
  L.ite (decide (y5.1 < p1)) (
    L.loop (Y := Int × Int × Unit) (0, IntKind.wrap .i64 (2 * y5.1), ()) fun y7 again8 =>
    L.ite (decide (y7.2.1 ≤ p1)) (
      L.call Pr n_slices_symMergeCmpFunc_fleet_choice [.slice p0.a p0.len p0.cap, .int .i64 y7.1, .int .i64 (IntKind.wrap .i64 (y7.1 + y5.1)), .int .i64 y7.2.1, .func p2.fn p2.fs p2.cs] (.tup []) fun (x9 : Unit) =>
      again8 (y7.2.1, IntKind.wrap .i64 (y7.2.1 + (IntKind.wrap .i64 (2 * y5.1))), ())) <|
    L.join (Y := Unit) (fun k10 =>
      L.ite (decide ((IntKind.wrap .i64 (y7.1 + y5.1)) < p1)) (
        L.call Pr n_slices_symMergeCmpFunc_fleet_choice [.slice p0.a p0.len p0.cap, .int .i64 y7.1, .int .i64 (IntKind.wrap .i64 (y7.1 + y5.1)), .int .i64 p1, .func p2.fn p2.fs p2.cs] (.tup []) fun (x12 : Unit) =>
        k10 (())) <|
      k10 (())) fun z11 =>
    again6 (IntKind.wrap .i64 (y5.1 * 2), ())) <|
  K (.tuple #[])
theorem D_slices_stableCmpFunc_fleet_choice (p0 : Sl) (p1 : Int) (p2 : FV) (K : Value → PT) : denF Pr Dt Try.f59 A_slices_stableCmpFunc_fleet_choice [.v (.slice p0.a p0.len p0.cap), .v (.int .i64 p1), .v (.func p2.fn p2.fs p2.cs)] K = F_slices_stableCmpFunc_fleet_choice p0 p1 p2 K := by kernel_rfl
theorem C_slices_stableCmpFunc_fleet_choice (p0 : Sl) (p1 : Int) (p2 : FV) {K : Value → PT} {w : World} (h : F_slices_stableCmpFunc_fleet_choice p0 p1 p2 K w) : Calls Pr n_slices_stableCmpFunc_fleet_choice [.slice p0.a p0.len p0.cap, .int .i64 p1, .func p2.fn p2.fs p2.cs].toArray w fun e w2 => ∃ v, e = .returned v ∧ K v w2 :=
  denF_ok Tok (f := 59) (fn := Try.f59) (an := A_slices_stableCmpFunc_fleet_choice) (args := [.v (.slice p0.a p0.len p0.cap), .v (.int .i64 p1), .v (.func p2.fn p2.fs p2.cs)]) (by kernel_rfl) (by kernel_rfl) ((congrFun (D_slices_stableCmpFunc_fleet_choice p0 p1 p2 K) w).mpr h)
theorem E_slices_stableCmpFunc_fleet_choice : Enters Pr n_slices_stableCmpFunc_fleet_choice := enters_of_B (by kernel_rfl)

def A_pod_bag_int_put : Ann := .auto
/-- (*damper/pod.bag[int]).put -/
def F_pod_bag_int_put (p0 : Option Addr) (p1 : Int) (K : Value → PT) : PT :=
  L.nonnil p0 fun a1 =>
  L.load (.one (.map)) (a1.add 0) fun (x2 : Option Nat) =>
  L.semR Pr (.one (.one (.bool))) (Instr.lookup T_map_int_bool (.map x2) (.int .i64 p1) false) fun (x3 : Bool) =>
  L.ite x3 (
    K (.int .i64 5)) <|
  L.draw <|
  L.nonnil p0 fun a4 =>
  L.load (.one (.map)) (a4.add 0) fun (x5 : Option Nat) =>
  L.semR Pr (.one (.one (.int .i64))) (Builtin.len_ #[T_map_int_bool] T_int #[.map x5]) fun (x6 : Int) =>
  L.nonnil p0 fun a7 =>
  L.load (.one (.int .i64)) (a7.add 1) fun (x8 : Int) =>
  L.ite (decide (x6 ≥ x8)) (
    K (.int .i64 8)) <|
  L.nonnil p0 fun a9 =>
  L.load (.one (.map)) (a9.add 0) fun (x10 : Option Nat) =>
  L.semU Pr (Instr.mapUpdate T_map_int_bool (.map x10) (.int .i64 p1) (.bool true)) <|
  K (.int .i64 0)
theorem D_pod_bag_int_put (p0 : Option Addr) (p1 : Int) (K : Value → PT) : denF Pr Dt Try.f60 A_pod_bag_int_put [.v (.pointer p0), .v (.int .i64 p1)] K = F_pod_bag_int_put p0 p1 K := by kernel_rfl
theorem C_pod_bag_int_put (p0 : Option Addr) (p1 : Int) {K : Value → PT} {w : World} (h : F_pod_bag_int_put p0 p1 K w) : Calls Pr n_pod_bag_int_put [.pointer p0, .int .i64 p1].toArray w fun e w2 => ∃ v, e = .returned v ∧ K v w2 :=
  denF_ok Tok (f := 60) (fn := Try.f60) (an := A_pod_bag_int_put) (args := [.v (.pointer p0), .v (.int .i64 p1)]) (by kernel_rfl) (by kernel_rfl) ((congrFun (D_pod_bag_int_put p0 p1 K) w).mpr h)
theorem E_pod_bag_int_put : Enters Pr n_pod_bag_int_put := enters_of_B (by kernel_rfl)

def A_pod_bag_int_take : Ann := .auto
/-- (*damper/pod.bag[int]).take -/
def F_pod_bag_int_take (p0 : Option Addr) (p1 : Int) (K : Value → PT) : PT :=
  L.nonnil p0 fun a1 =>
  L.load (.one (.map)) (a1.add 0) fun (x2 : Option Nat) =>
  L.semR Pr (.one (.one (.bool))) (Instr.lookup T_map_int_bool (.map x2) (.int .i64 p1) false) fun (x3 : Bool) =>
  L.ite (!x3) (
    K (.int .i64 6)) <|
  L.nonnil p0 fun a4 =>
  L.load (.one (.map)) (a4.add 0) fun (x5 : Option Nat) =>
  L.sem Pr (.tup []) (Builtin.delete_ #[T_map_int_bool, T_int] T_ #[.map x5, .int .i64 p1]) fun _ =>
  K (.int .i64 0)
theorem D_pod_bag_int_take (p0 : Option Addr) (p1 : Int) (K : Value → PT) : denF Pr Dt Try.f61 A_pod_bag_int_take [.v (.pointer p0), .v (.int .i64 p1)] K = F_pod_bag_int_take p0 p1 K := by kernel_rfl
theorem C_pod_bag_int_take (p0 : Option Addr) (p1 : Int) {K : Value → PT} {w : World} (h : F_pod_bag_int_take p0 p1 K w) : Calls Pr n_pod_bag_int_take [.pointer p0, .int .i64 p1].toArray w fun e w2 => ∃ v, e = .returned v ∧ K v w2 :=
  denF_ok Tok (f := 61) (fn := Try.f61) (an := A_pod_bag_int_take) (args := [.v (.pointer p0), .v (.int .i64 p1)]) (by kernel_rfl) (by kernel_rfl) ((congrFun (D_pod_bag_int_take p0 p1 K) w).mpr h)
theorem E_pod_bag_int_take : Enters Pr n_pod_bag_int_take := enters_of_B (by kernel_rfl)

def A_damperref7_Pod_Has : Ann := (.seq .auto (.seq (.seq .auto (.one [(5, (.one (.int .i64)))] .auto) none) .auto none) none)
/-- (*damper/damperref7.Pod).Has -/
def F_damperref7_Pod_Has (p0 : Option Addr) (p1 : Int) (K : Value → PT) : PT :=
  L.loop (Y := Int × Unit) (0, ()) fun y1 again2 =>
  L.nonnil p0 fun a3 =>
  L.load (.one (.slice)) (a3.add 2) fun (x4 : Sl) =>
  L.ite (decide (y1.1 < ((x4.len : Nat) : Int))) (
    L.nonnil p0 fun a5 =>
    L.load (.one (.slice)) (a5.add 2) fun (x6 : Sl) =>
    L.idx x6.a y1.1 x6.len 1 fun a7 =>
    L.load (.one (.int .i64)) a7 fun (x8 : Int) =>
    L.ite (x8 == p1) (
      K (.bool true)) <|
    again2 (IntKind.wrap .i64 (y1.1 + 1), ())) <|
  K (.bool false)
theorem D_damperref7_Pod_Has (p0 : Option Addr) (p1 : Int) (K : Value → PT) : denF Pr Dt Try.f62 A_damperref7_Pod_Has [.v (.pointer p0), .v (.int .i64 p1)] K = F_damperref7_Pod_Has p0 p1 K := by kernel_rfl
theorem C_damperref7_Pod_Has (p0 : Option Addr) (p1 : Int) {K : Value → PT} {w : World} (h : F_damperref7_Pod_Has p0 p1 K w) : Calls Pr n_damperref7_Pod_Has [.pointer p0, .int .i64 p1].toArray w fun e w2 => ∃ v, e = .returned v ∧ K v w2 :=
  denF_ok Tok (f := 62) (fn := Try.f62) (an := A_damperref7_Pod_Has) (args := [.v (.pointer p0), .v (.int .i64 p1)]) (by kernel_rfl) (by kernel_rfl) ((congrFun (D_damperref7_Pod_Has p0 p1 K) w).mpr h)
theorem E_damperref7_Pod_Has : Enters Pr n_damperref7_Pod_Has := enters_of_B (by kernel_rfl)

def A_maps_Keys_map_int_bool_int_bool : Ann := .auto
/-- maps.Keys[map[int]bool,int,bool] -/
def F_maps_Keys_map_int_bool_int_bool (p0 : Option Nat) (K : Value → PT) : PT :=
  L.new [.map p0] T_map_int_bool fun b1 =>
  K (.func (.func n_maps_Keys_map_int_bool_int_bool_1) #[] #[.pointer (some (⟨b1, 0, none⟩))])
theorem D_maps_Keys_map_int_bool_int_bool (p0 : Option Nat) (K : Value → PT) : denF Pr Dt Try.f63 A_maps_Keys_map_int_bool_int_bool [.v (.map p0)] K = F_maps_Keys_map_int_bool_int_bool p0 K := by kernel_rfl
theorem C_maps_Keys_map_int_bool_int_bool (p0 : Option Nat) {K : Value → PT} {w : World} (h : F_maps_Keys_map_int_bool_int_bool p0 K w) : Calls Pr n_maps_Keys_map_int_bool_int_bool [.map p0].toArray w fun e w2 => ∃ v, e = .returned v ∧ K v w2 :=
  denF_ok Tok (f := 63) (fn := Try.f63) (an := A_maps_Keys_map_int_bool_int_bool) (args := [.v (.map p0)]) (by kernel_rfl) (by kernel_rfl) ((congrFun (D_maps_Keys_map_int_bool_int_bool p0 K) w).mpr h)
theorem E_maps_Keys_map_int_bool_int_bool : Enters Pr n_maps_Keys_map_int_bool_int_bool := enters_of_B (by kernel_rfl)

def A_slices_Collect_int : Ann := .auto
/-- slices.Collect[int] -/
def F_slices_Collect_int (p0 : FV) (K : Value → PT) : PT :=
  L.call Pr n_slices_AppendSeq_int_int [.slice none 0 0, .func p0.fn p0.fs p0.cs] (.one (.one (.slice))) fun (x1 : Sl) =>
  K (.slice x1.a x1.len x1.cap)
theorem D_slices_Collect_int (p0 : FV) (K : Value → PT) : denF Pr Dt Try.f64 A_slices_Collect_int [.v (.func p0.fn p0.fs p0.cs)] K = F_slices_Collect_int p0 K := by kernel_rfl
theorem C_slices_Collect_int (p0 : FV) {K : Value → PT} {w : World} (h : F_slices_Collect_int p0 K w) : Calls Pr n_slices_Collect_int [.func p0.fn p0.fs p0.cs].toArray w fun e w2 => ∃ v, e = .returned v ∧ K v w2 :=
  denF_ok Tok (f := 64) (fn := Try.f64) (an := A_slices_Collect_int) (args := [.v (.func p0.fn p0.fs p0.cs)]) (by kernel_rfl) (by kernel_rfl) ((congrFun (D_slices_Collect_int p0 K) w).mpr h)
theorem E_slices_Collect_int : Enters Pr n_slices_Collect_int := enters_of_B (by kernel_rfl)

def A_maps_Keys_map_int_fleet_one_int_fleet_one_1 : Ann := (.seq .auto (.one [] (.seq .auto (.seq (.cond .auto .auto) .auto none) none)) none)
/-- maps.Keys[map[int]damper/fleet.one,int,damper/fleet.one]$1 -/
def F_maps_Keys_map_int_fleet_one_int_fleet_one_1 (p0 : FV) (c0 : Addr) (K : Value → PT) : PT :=
  L.load (.one (.map)) c0 fun (x1 : Option Nat) =>
  L.sem Pr (.one (.one .ptr)) (Instr.range T_map_int_fleet_one (.map x1)) fun (it2 : Option Addr) =>
  L.loop (Y := Unit) (()) fun y3 again4 =>
  L.next Pr [(.one (.int .i64)), (.agg [.str, .ptr])] (Instr.next (.pointer it2) false T_) (
    K (.tuple #[])) fun (x5 : Int × (ByteArray × Option Addr × Unit) × Unit) =>
  L.sem Pr (.tup [(.one (.int .i64)), (.agg [.str, .ptr])]) (Instr.entry (.pointer it2)) fun (x6 : Int × (ByteArray × Option Addr × Unit) × Unit) =>
  L.callV Pr (.func p0.fn p0.fs p0.cs) [.int .i64 x6.1] (.one (.one (.bool))) fun (x7 : Bool) =>
  L.ite (!x7) (
    K (.tuple #[])) <|
  again4 (())
theorem D_maps_Keys_map_int_fleet_one_int_fleet_one_1 (p0 : FV) (c0 : Addr) (K : Value → PT) : denF Pr Dt Try.f66 A_maps_Keys_map_int_fleet_one_int_fleet_one_1 [.v (.func p0.fn p0.fs p0.cs), .v (.pointer (some c0))] K = F_maps_Keys_map_int_fleet_one_int_fleet_one_1 p0 c0 K := by kernel_rfl
theorem C_maps_Keys_map_int_fleet_one_int_fleet_one_1 (p0 : FV) (c0 : Addr) {K : Value → PT} {w : World} (h : F_maps_Keys_map_int_fleet_one_int_fleet_one_1 p0 c0 K w) : Calls Pr n_maps_Keys_map_int_fleet_one_int_fleet_one_1 [.func p0.fn p0.fs p0.cs, .pointer (some c0)].toArray w fun e w2 => ∃ v, e = .returned v ∧ K v w2 :=
  denF_ok Tok (f := 66) (fn := Try.f66) (an := A_maps_Keys_map_int_fleet_one_int_fleet_one_1) (args := [.v (.func p0.fn p0.fs p0.cs), .v (.pointer (some c0))]) (by kernel_rfl) (by kernel_rfl) ((congrFun (D_maps_Keys_map_int_fleet_one_int_fleet_one_1 p0 c0 K) w).mpr h)
theorem E_maps_Keys_map_int_fleet_one_int_fleet_one_1 : Enters Pr n_maps_Keys_map_int_fleet_one_int_fleet_one_1 := enters_of_B (by kernel_rfl)

def A_slices_insertionSortCmpFunc_fleet_choice : Ann := (.seq .auto (.one [(8, (.one (.int .i64)))] (.seq .auto (.seq (.seq .auto (.one [(9, (.one (.int .i64)))] (.seq (.seq .auto (.cond .auto .auto) none) .auto none)) none) .auto (some [])) none)) none)
/-- slices.insertionSortCmpFunc[damper/fleet.choice] -/
def F_slices_insertionSortCmpFunc_fleet_choice (p0 : Sl) (p1 : Int) (p2 : Int) (p3 : FV) (K : Value → PT) : PT :=
  L.loop (Y := Int × Unit) (IntKind.wrap .i64 (p1 + 1), ()) fun y1 again2 =>
  L.ite (decide (y1.1 < p2)) (
    L.join (Y := Unit) (fun k3 =>
      L.loop (Y := Int × Unit) (y1.1, ()) fun y5 again6 =>
      L.draw <|
      L.ite (decide (y5.1 > p1)) (
        L.idx p0.a y5.1 p0.len 2 fun a7 =>
        L.load (.agg [.int .i64, .int .i64]) a7 fun (x8 : Int × Int × Unit) =>
        L.idx p0.a (IntKind.wrap .i64 (y5.1 - 1)) p0.len 2 fun a9 =>
        L.load (.agg [.int .i64, .int .i64]) a9 fun (x10 : Int × Int × Unit) =>
        L.callV Pr (.func p3.fn p3.fs p3.cs) [.agg #[.int .i64 x8.1, .int .i64 x8.2.1], .agg #[.int .i64 x10.1, .int .i64 x10.2.1]] (.one (.one (.int .i64))) fun (x11 : Int) =>
        L.ite (decide (x11 < 0)) (
          L.draw <|
          L.idx p0.a (IntKind.wrap .i64 (y5.1 - 1)) p0.len 2 fun a12 =>
          L.load (.agg [.int .i64, .int .i64]) a12 fun (x13 : Int × Int × Unit) =>
          L.idx p0.a y5.1 p0.len 2 fun a14 =>
          L.load (.agg [.int .i64, .int .i64]) a14 fun (x15 : Int × Int × Unit) =>
          L.idx p0.a y5.1 p0.len 2 fun a16 =>
          L.store a16 [.int .i64 x13.1, .int .i64 x13.2.1] <|
          L.idx p0.a (IntKind.wrap .i64 (y5.1 - 1)) p0.len 2 fun a17 =>
          L.store a17 [.int .i64 x15.1, .int .i64 x15.2.1] <|
          again6 (IntKind.wrap .i64 (y5.1 - 1), ())) <|
        k3 (())) <|
      k3 (())) fun z4 =>
    again2 (IntKind.wrap .i64 (y1.1 + 1), ())) <|
  K (.tuple #[])
theorem D_slices_insertionSortCmpFunc_fleet_choice (p0 : Sl) (p1 : Int) (p2 : Int) (p3 : FV) (K : Value → PT) : denF Pr Dt Try.f67 A_slices_insertionSortCmpFunc_fleet_choice [.v (.slice p0.a p0.len p0.cap), .v (.int .i64 p1), .v (.int .i64 p2), .v (.func p3.fn p3.fs p3.cs)] K = F_slices_insertionSortCmpFunc_fleet_choice p0 p1 p2 p3 K := by kernel_rfl
theorem C_slices_insertionSortCmpFunc_fleet_choice (p0 : Sl) (p1 : Int) (p2 : Int) (p3 : FV) {K : Value → PT} {w : World} (h : F_slices_insertionSortCmpFunc_fleet_choice p0 p1 p2 p3 K w) : Calls Pr n_slices_insertionSortCmpFunc_fleet_choice [.slice p0.a p0.len p0.cap, .int .i64 p1, .int .i64 p2, .func p3.fn p3.fs p3.cs].toArray w fun e w2 => ∃ v, e = .returned v ∧ K v w2 :=
  denF_ok Tok (f := 67) (fn := Try.f67) (an := A_slices_insertionSortCmpFunc_fleet_choice) (args := [.v (.slice p0.a p0.len p0.cap), .v (.int .i64 p1), .v (.int .i64 p2), .v (.func p3.fn p3.fs p3.cs)]) (by kernel_rfl) (by kernel_rfl) ((congrFun (D_slices_insertionSortCmpFunc_fleet_choice p0 p1 p2 p3 K) w).mpr h)
theorem E_slices_insertionSortCmpFunc_fleet_choice : Enters Pr n_slices_insertionSortCmpFunc_fleet_choice := enters_of_B (by kernel_rfl)

def A_maps_Keys_map_int_bool_int_bool_1 : Ann := (.seq .auto (.one [] (.seq .auto (.seq (.cond .auto .auto) .auto none) none)) none)
/-- maps.Keys[map[int]bool,int,bool]$1 -/
def F_maps_Keys_map_int_bool_int_bool_1 (p0 : FV) (c0 : Addr) (K : Value → PT) : PT :=
  L.load (.one (.map)) c0 fun (x1 : Option Nat) =>
  L.sem Pr (.one (.one .ptr)) (Instr.range T_map_int_bool (.map x1)) fun (it2 : Option Addr) =>
  L.loop (Y := Unit) (()) fun y3 again4 =>
  L.next Pr [(.one (.int .i64)), (.one (.bool))] (Instr.next (.pointer it2) false T_) (
    K (.tuple #[])) fun (x5 : Int × Bool × Unit) =>
  L.sem Pr (.tup [(.one (.int .i64)), (.one (.bool))]) (Instr.entry (.pointer it2)) fun (x6 : Int × Bool × Unit) =>
  L.callV Pr (.func p0.fn p0.fs p0.cs) [.int .i64 x6.1] (.one (.one (.bool))) fun (x7 : Bool) =>
  L.ite (!x7) (
    K (.tuple #[])) <|
  again4 (())
theorem D_maps_Keys_map_int_bool_int_bool_1 (p0 : FV) (c0 : Addr) (K : Value → PT) : denF Pr Dt Try.f69 A_maps_Keys_map_int_bool_int_bool_1 [.v (.func p0.fn p0.fs p0.cs), .v (.pointer (some c0))] K = F_maps_Keys_map_int_bool_int_bool_1 p0 c0 K := by kernel_rfl
theorem C_maps_Keys_map_int_bool_int_bool_1 (p0 : FV) (c0 : Addr) {K : Value → PT} {w : World} (h : F_maps_Keys_map_int_bool_int_bool_1 p0 c0 K w) : Calls Pr n_maps_Keys_map_int_bool_int_bool_1 [.func p0.fn p0.fs p0.cs, .pointer (some c0)].toArray w fun e w2 => ∃ v, e = .returned v ∧ K v w2 :=
  denF_ok Tok (f := 69) (fn := Try.f69) (an := A_maps_Keys_map_int_bool_int_bool_1) (args := [.v (.func p0.fn p0.fs p0.cs), .v (.pointer (some c0))]) (by kernel_rfl) (by kernel_rfl) ((congrFun (D_maps_Keys_map_int_bool_int_bool_1 p0 c0 K) w).mpr h)
theorem E_maps_Keys_map_int_bool_int_bool_1 : Enters Pr n_maps_Keys_map_int_bool_int_bool_1 := enters_of_B (by kernel_rfl)

def A_slices_AppendSeq_int_int : Ann := (.seq .auto (.seq (.seq .auto (.seq .auto .auto (some [(7, (.one (.int .i64)))])) none) .auto none) none)
/-- slices.AppendSeq[[]int,int] -/
def F_slices_AppendSeq_int_int (p0 : Sl) (p1 : FV) (K : Value → PT) : PT :=
  L.new [.slice p0.a p0.len p0.cap] T_s_int fun b1 =>
  L.range Pr none (.func p1.fn p1.fs p1.cs) [(.one (.int .i64))] (fun l2 (y3 : Int × Unit) R4 =>
    L.begin Pr l2 <|
    L.load (.one (.slice)) (⟨b1, 0, none⟩) fun (x7 : Sl) =>
    L.new [.int .i64 y3.1] T_int fun b8 =>
    L.sem Pr (.one (.one .slice)) (Builtin.append_ #[T_s_int, T_s_int] T_s_int #[.slice x7.a x7.len x7.cap, .slice (some ⟨b8, 0, none⟩) 1 1]) fun (s9 : Sl) =>
    L.store (⟨b1, 0, none⟩) [.slice s9.a s9.len s9.cap] <|
    L.endRound Pr l2 none R4) fun d5 j6 =>
  L.jump j6 (
    L.load (.one (.slice)) (⟨b1, 0, none⟩) fun (x10 : Sl) =>
    L.unmark Pr (d5 ++ []) <|
    K (.slice x10.a x10.len x10.cap)) (
    L.unmark Pr (d5 ++ []) <|
    K (.slice none 0 0)) []
theorem D_slices_AppendSeq_int_int (p0 : Sl) (p1 : FV) (K : Value → PT) : denF Pr Dt Try.f70 A_slices_AppendSeq_int_int [.v (.slice p0.a p0.len p0.cap), .v (.func p1.fn p1.fs p1.cs)] K = F_slices_AppendSeq_int_int p0 p1 K := by kernel_rfl
theorem C_slices_AppendSeq_int_int (p0 : Sl) (p1 : FV) {K : Value → PT} {w : World} (h : F_slices_AppendSeq_int_int p0 p1 K w) : Calls Pr n_slices_AppendSeq_int_int [.slice p0.a p0.len p0.cap, .func p1.fn p1.fs p1.cs].toArray w fun e w2 => ∃ v, e = .returned v ∧ K v w2 :=
  denF_ok Tok (f := 70) (fn := Try.f70) (an := A_slices_AppendSeq_int_int) (args := [.v (.slice p0.a p0.len p0.cap), .v (.func p1.fn p1.fs p1.cs)]) (by kernel_rfl) (by kernel_rfl) ((congrFun (D_slices_AppendSeq_int_int p0 p1 K) w).mpr h)
theorem E_slices_AppendSeq_int_int : Enters Pr n_slices_AppendSeq_int_int := enters_of_B (by kernel_rfl)

end Go.Proofs.Ytheikjckdnhdhaa
