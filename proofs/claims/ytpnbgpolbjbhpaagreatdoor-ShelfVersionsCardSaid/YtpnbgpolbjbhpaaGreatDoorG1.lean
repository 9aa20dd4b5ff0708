/- The functions of the program, read as predicates on the world, each with its contract (text G1). No conditions beyond those its theorems state. -/
import Derived.Test.YtpnbgpolbjbhpaaGreatDoorDenC
import Derived.Test.YtpnbgpolbjbhpaaGreatDoorProg
set_option linter.all false
set_option maxRecDepth 100000
namespace Go.Proofs.YtpnbgpolbjbhpaaGreatDoor
open Go.Dm
noncomputable abbrev Pr : Program := Tryz.prog
abbrev n_main_main : Nat := 0
abbrev n_gosem_cut : Nat := 1
abbrev n_gosem_cut_init : Nat := 2
abbrev n_damperlaw4_ShelfOwn : Nat := 3
abbrev n_damperlaw4_ShelfVersions : Nat := 4
abbrev n_damperlaw4_ShelfPlays : Nat := 5
abbrev n_damperlaw4_ShelfKinds : Nat := 6
abbrev n_damperlaw4_known : Nat := 7
abbrev n_shelf_New : Nat := 8
abbrev n_damperlaw2_Route : Nat := 9
abbrev n_shelf_Shelf_PutRoute : Nat := 10
abbrev n_shelf_Shelf_Route : Nat := 11
abbrev n_damperref2_SameRoute : Nat := 12
abbrev n_shelf_Shelf_Names : Nat := 13
abbrev n_damperlaw4_within : Nat := 14
abbrev n_shelf_Shelf_Drop : Nat := 15
abbrev n_damperlaw2_Config : Nat := 16
abbrev n_shelf_Shelf_PutConfig : Nat := 17
abbrev n_damperlaw4_version : Nat := 18
abbrev n_damperref4_Shelf_PutConfig : Nat := 19
abbrev n_damperref4_Shelf_PutRoute : Nat := 20
abbrev n_damperref4_Shelf_Drop : Nat := 21
abbrev n_damperlaw4_same : Nat := 22
abbrev n_shelf_Shelf_Config : Nat := 23
abbrev n_shelf_made_api_Config : Nat := 24
abbrev n_shelf_New_1 : Nat := 25
abbrev n_shelf_made_api_Route : Nat := 26
abbrev n_spec_SameRoute : Nat := 27
abbrev n_damperlaw2_within : Nat := 28
abbrev n_spec_Route : Nat := 29
abbrev n_shelf_rack_api_Route_may : Nat := 30
abbrev n_shelf_rack_api_Route_put : Nat := 31
abbrev n_shelf_own : Nat := 32
abbrev n_shelf_rack_api_Route_get : Nat := 33
abbrev n_shelf_list : Nat := 34
abbrev n_shelf_rack_api_Config_names : Nat := 35
abbrev n_shelf_rack_api_Route_names : Nat := 36
abbrev n_shelf_taken_api_Config : Nat := 37
abbrev n_shelf_taken_api_Route : Nat := 38
abbrev n_spec_Config : Nat := 39
abbrev n_shelf_rack_api_Config_may : Nat := 40
abbrev n_shelf_rack_api_Config_put : Nat := 41
abbrev n_damperref4_Shelf_Config : Nat := 42
abbrev n_damperref4_Shelf_Route : Nat := 43
abbrev n_damperref2_Config : Nat := 44
abbrev n_damperref4_Shelf_put : Nat := 45
abbrev n_damperref2_Route : Nat := 46
abbrev n_damperref4_Shelf_find : Nat := 47
abbrev n_damperref4_Same : Nat := 48
abbrev n_damperref4_Shelf_Names : Nat := 49
abbrev n_shelf_rack_api_Config_get : Nat := 50
abbrev n_slices_EqualFunc_api_Target_api_Target_api_Target_api_Target : Nat := 51
abbrev n_spec_same : Nat := 52
abbrev n_label_Name : Nat := 53
abbrev n_spec_span_has : Nat := 54
abbrev n_spec_target : Nat := 55
abbrev n_spec_all : Nat := 56
abbrev n_slices_Clone_api_Target_api_Target : Nat := 57
abbrev n_slices_Clone_string_string : Nat := 58
abbrev n_shelf_rack_api_Config_names_1 : Nat := 59
abbrev n_slices_Sorted_string : Nat := 60
abbrev n_maps_Keys_map_string_shelf_thing_api_Config_string_bd34 : Nat := 61
abbrev n_shelf_rack_api_Route_names_1 : Nat := 62
abbrev n_maps_Keys_map_string_shelf_thing_api_Route_string__f1c6 : Nat := 63
abbrev n_shelf_rack_api_Config_drop : Nat := 64
abbrev n_shelf_rack_api_Route_drop : Nat := 65
abbrev n_damperref1_Name : Nat := 66
abbrev n_damperref4_may : Nat := 67
abbrev n_damperref2_revision : Nat := 68
abbrev n_damperref1_Tag : Nat := 69
abbrev n_damperref4_Put : Nat := 70
abbrev n_label_short : Nat := 71
abbrev n_label_Split : Nat := 72
abbrev n_label_Tag : Nat := 73
abbrev n_slices_ContainsFunc_api_Target_api_Target : Nat := 74
abbrev n_spec_all_1 : Nat := 75
abbrev n_slices_Collect_string : Nat := 76
abbrev n_slices_Sort_string_string : Nat := 77
abbrev n_maps_Keys_map_string_shelf_thing_api_Config_string_df09 : Nat := 78
abbrev n_maps_Keys_map_string_shelf_thing_api_Route_string__801b : Nat := 79
abbrev n_damperref1_sign : Nat := 80
abbrev n_damperref1_Split : Nat := 81
abbrev n_label_sign : Nat := 82
abbrev n_label_letter : Nat := 83
abbrev n_strings_LastIndex : Nat := 84
abbrev n_strconv_Atoi : Nat := 85
abbrev n_label_Rev : Nat := 86
abbrev n_slices_IndexFunc_api_Target_api_Target : Nat := 87
abbrev n_slices_AppendSeq_string_string : Nat := 88
abbrev n_slices_pdqsortOrdered_string : Nat := 89
abbrev n_math_bits_Len : Nat := 90
abbrev n_internal_bytealg_LastIndexByteString : Nat := 91
abbrev n_internal_bytealg_LastIndexRabinKarp_string : Nat := 92
abbrev n_internal_strconv_Atoi : Nat := 93
abbrev n_strconv_toError : Nat := 94
abbrev n_strconv_Itoa : Nat := 95
abbrev n_slices_insertionSortOrdered_string : Nat := 96
abbrev n_slices_heapSortOrdered_string : Nat := 97
abbrev n_slices_breakPatternsOrdered_string : Nat := 98
abbrev n_slices_choosePivotOrdered_string : Nat := 99
abbrev n_slices_reverseRangeOrdered_string : Nat := 100
abbrev n_slices_partialInsertionSortOrdered_string : Nat := 101
abbrev n_cmp_Less_string : Nat := 102
abbrev n_slices_partitionEqualOrdered_string : Nat := 103
abbrev n_slices_partitionOrdered_string : Nat := 104
abbrev n_math_bits_Len32 : Nat := 105
abbrev n_math_bits_Len64 : Nat := 106
abbrev n_internal_bytealg_hashStrRev_string : Nat := 107
abbrev n_internal_strconv_ParseInt : Nat := 108
abbrev n_strconv_syntaxError : Nat := 109
abbrev n_strconv_rangeError : Nat := 110
abbrev n_strconv_baseError : Nat := 111
abbrev n_strconv_bitSizeError : Nat := 112
abbrev n_internal_strconv_Itoa : Nat := 113
abbrev n_slices_siftDownOrdered_string : Nat := 114
abbrev n_slices_nextPowerOfTwo : Nat := 115
abbrev n_slices_xorshift_Next : Nat := 116
abbrev n_slices_medianAdjacentOrdered_string : Nat := 117
abbrev n_slices_medianOrdered_string : Nat := 118
abbrev n_cmp_isNaN_string : Nat := 119
abbrev n_internal_strconv_ParseUint : Nat := 120
abbrev n_internal_stringslite_Clone : Nat := 121
abbrev n_errors_New : Nat := 122
abbrev n_internal_strconv_FormatInt : Nat := 123
abbrev n_slices_order2Ordered_string : Nat := 124
abbrev n_internal_strconv_lower : Nat := 125
abbrev n_internal_strconv_underscoreOK : Nat := 126
abbrev n_internal_strconv_small : Nat := 127
abbrev n_internal_strconv_numDigits : Nat := 128
abbrev n_internal_strconv_formatBase10 : Nat := 129
abbrev n_internal_strconv_formatBits : Nat := 130
abbrev n_internal_strconv_log10Pow2 : Nat := 131
abbrev n_internal_strconv_bool2_int : Nat := 132
abbrev n_internal_strconv_isPowerOfTwo : Nat := 133
abbrev n_math_bits_TrailingZeros : Nat := 134
abbrev n_math_bits_TrailingZeros32 : Nat := 135
abbrev n_math_bits_TrailingZeros64 : Nat := 136
abbrev n_runtime_boundsError_Error : Nat := 137
abbrev n_runtime_boundsError_RuntimeError : Nat := 138
abbrev n_runtime_errorString_Error : Nat := 139
abbrev n_runtime_errorString_RuntimeError : Nat := 140
abbrev n_runtime_plainError_Error : Nat := 141
abbrev n_runtime_plainError_RuntimeError : Nat := 142
abbrev n_runtime_errorAddressString_Error : Nat := 143
abbrev n_runtime_errorAddressString_RuntimeError : Nat := 144
abbrev n_runtime_TypeAssertionError_Error : Nat := 145
abbrev n_runtime_TypeAssertionError_RuntimeError : Nat := 146
abbrev n_runtime_PanicNilError_Error : Nat := 147
abbrev n_runtime_PanicNilError_RuntimeError : Nat := 148
abbrev n_internal_abi_Type_Align : Nat := 149
abbrev n_internal_runtime_maps_unhashableTypeError_Error : Nat := 150
abbrev n_internal_runtime_maps_unhashableTypeError_RuntimeError : Nat := 151
abbrev n_api_Errno_Error : Nat := 152
abbrev n_internal_strconv_Error_Error : Nat := 153
abbrev n_strconv_NumError_Error : Nat := 154
abbrev n_errors_errorString_Error : Nat := 155
abbrev n_internal_abi_Kind_String : Nat := 156
abbrev n_var_s_door_gosem_cut_vars_holds_initialisers_alone_71cd : Nat := 157
abbrev n_var_s_door_internal_strconv_uint64pow10_is_laid_by_9814 : Nat := 158
abbrev n_var_s_door_math_bits_deBruijn32tab_is_laid_by_its__3792 : Nat := 159
abbrev n_var_s_door_math_bits_deBruijn64tab_is_laid_by_its__4af7 : Nat := 160
abbrev n_var_s_door_strconv_ErrRange_is_laid_by_its_own_cal_df18 : Nat := 161
abbrev n_var_s_door_strconv_ErrSyntax_is_laid_by_its_own_ca_d8f2 : Nat := 162
abbrev n_var_s_door_the_look_of_gosem_cut_vars_went_over_th_6a3c : Nat := 163
abbrev n_gosem_cut_vars : Nat := 164
abbrev T_ : Nat := 0
abbrev T_func : Nat := 1
abbrev T_int64 : Nat := 2
abbrev T_int : Nat := 3
abbrev T_bool : Nat := 4
abbrev T_uint8 : Nat := 5
abbrev T_abi_BoundsErrorCode : Nat := 6
abbrev T_struct_x_int64_y_int_signed_bo_10ef : Nat := 7
abbrev T_runtime_boundsError : Nat := 8
abbrev T_string : Nat := 9
abbrev T_runtime_errorString : Nat := 10
abbrev T_runtime_plainError : Nat := 11
abbrev T_uintptr : Nat := 12
abbrev T_struct_msg_string_addr_uintptr : Nat := 13
abbrev T_runtime_errorAddressString : Nat := 14
abbrev T_p_runtime_TypeAssertionError : Nat := 15
abbrev T_p_runtime_PanicNilError : Nat := 16
abbrev T_p_abi_Type : Nat := 17
abbrev T_struct_typ_p_abi_Type : Nat := 18
abbrev T_maps_unhashableTypeError : Nat := 19
abbrev T_interface : Nat := 20
abbrev T_int32 : Nat := 21
abbrev T_s_int : Nat := 22
abbrev T_func_bool : Nat := 23
abbrev T_p_shelf_Shelf : Nat := 24
abbrev T_func_p_shelf_Shelf : Nat := 25
abbrev T_s_api_Target : Nat := 26
abbrev T_struct_Name_string_Config_stri_ee3d : Nat := 27
abbrev T_api_Route : Nat := 28
abbrev T_func_int_s_int_int_api_Route : Nat := 29
abbrev T_api_Errno : Nat := 30
abbrev T_int_api_Errno : Nat := 31
abbrev T_func_api_Route_int_int_api_Errno : Nat := 32
abbrev T_struct_Rev_string_Tag_string_Percent_int : Nat := 33
abbrev T_api_Target : Nat := 34
abbrev T_api_Route_int_bool : Nat := 35
abbrev T_func_string_api_Route_int_bool : Nat := 36
abbrev T_func_api_Route_api_Route_bool : Nat := 37
abbrev T_s_string : Nat := 38
abbrev T_func_int_s_string : Nat := 39
abbrev T_func_int_s_int_int_bool : Nat := 40
abbrev T_s_damperlaw4_Call : Nat := 41
abbrev T_3_int : Nat := 42
abbrev T_2_3_int : Nat := 43
abbrev T_2_s_string : Nat := 44
abbrev T_func_int_int_int : Nat := 45
abbrev T_struct_Name_string_Image_int_C_bd6a : Nat := 46
abbrev T_api_Config : Nat := 47
abbrev T_struct_Kind_int_Name_int_Versi_81e1 : Nat := 48
abbrev T_damperlaw4_Call : Nat := 49
abbrev T_func_int_string_int_api_Errno : Nat := 50
abbrev T_func_api_Config_int_api_Config : Nat := 51
abbrev T_func_api_Config_int_int_api_Errno : Nat := 52
abbrev T_func_s_damperlaw4_Call_bool : Nat := 53
abbrev T_p_damperref4_Shelf : Nat := 54
abbrev T_s_p_damperref4_object : Nat := 55
abbrev T_struct_L_s_p_damperref4_object_N_int : Nat := 56
abbrev T_damperref4_Shelf : Nat := 57
abbrev T_func_p_damperref4_Shelf_int_st_73d2 : Nat := 58
abbrev T_int_int : Nat := 59
abbrev T_func_api_Config_int_int_int : Nat := 60
abbrev T_func_api_Route_int_int_int : Nat := 61
abbrev T_func_int_string_int_int : Nat := 62
abbrev T_func_p_shelf_Shelf_p_damperref_ff6a : Nat := 63
abbrev T_api_Config_int_int_bool : Nat := 64
abbrev T_func_string_api_Config_int_int_bool : Nat := 65
abbrev T_func_api_Config_s_int_bool_bool : Nat := 66
abbrev T_p_shelf_rack_api_Config : Nat := 67
abbrev T_func_func_api_Config_api_Confi_3edc : Nat := 68
abbrev T_func_api_Config_api_Config_bool : Nat := 69
abbrev T_p_shelf_rack_api_Route : Nat := 70
abbrev T_func_func_api_Route_api_Route__5687 : Nat := 71
abbrev T_struct_configs_p_shelf_rack_ap_cf88 : Nat := 72
abbrev T_shelf_Shelf : Nat := 73
abbrev T_s_uint8 : Nat := 74
abbrev T_func_api_Route_api_Errno : Nat := 75
abbrev T_func_string_int_bool_api_Errno : Nat := 76
abbrev T_func_string_api_Route_int : Nat := 77
abbrev T_func_api_Route_api_Route : Nat := 78
abbrev T_struct_what_api_Route_version__2fd8 : Nat := 79
abbrev T_shelf_thing_api_Route : Nat := 80
abbrev T_shelf_thing_api_Route_bool : Nat := 81
abbrev T_func_string_shelf_thing_api_Route_bool : Nat := 82
abbrev T_func_iter_Seq_string_s_string : Nat := 83
abbrev T_func_func_string_bool : Nat := 84
abbrev T_iter_Seq_string : Nat := 85
abbrev T_func_iter_Seq_string : Nat := 86
abbrev T_func_p_shelf_rack_api_Config_s_db33 : Nat := 87
abbrev T_func_p_shelf_rack_api_Route_st_684c : Nat := 88
abbrev T_func_api_Config_api_Errno : Nat := 89
abbrev T_func_string_api_Config_int : Nat := 90
abbrev T_func_api_Config_int : Nat := 91
abbrev T_p_damperref4_object : Nat := 92
abbrev T_p_damperref4_object_int : Nat := 93
abbrev T_func_int_string_int_p_damperre_3a68 : Nat := 94
abbrev T_struct_Kind_int_Name_string_C__47f5 : Nat := 95
abbrev T_damperref4_object : Nat := 96
abbrev T_func_api_Route_int : Nat := 97
abbrev T_func_int_string_p_damperref4_object : Nat := 98
abbrev T_func_s_string_s_string_bool : Nat := 99
abbrev T_struct_what_api_Config_version_6a9f : Nat := 100
abbrev T_shelf_thing_api_Config : Nat := 101
abbrev T_shelf_thing_api_Config_bool : Nat := 102
abbrev T_func_string_shelf_thing_api_Config_bool : Nat := 103
abbrev T_map_string_shelf_thing_api_Config : Nat := 104
abbrev T_struct_all_map_string_shelf_th_27d2 : Nat := 105
abbrev T_shelf_rack_api_Config : Nat := 106
abbrev T_map_string_shelf_thing_api_Route : Nat := 107
abbrev T_struct_all_map_string_shelf_th_979d : Nat := 108
abbrev T_shelf_rack_api_Route : Nat := 109
abbrev T_func_s_api_Target_s_api_Target_927 : Nat := 110
abbrev T_func_api_Target_api_Target_bool : Nat := 111
abbrev T_func_string_bool : Nat := 112
abbrev T_struct_least_int_most_int : Nat := 113
abbrev T_spec_span : Nat := 114
abbrev T_func_int_bool : Nat := 115
abbrev T_func_api_Target_api_Errno : Nat := 116
abbrev T_func_s_api_Target_api_Errno : Nat := 117
abbrev T_func_s_api_Target_s_api_Target : Nat := 118
abbrev T_func_s_string_s_string : Nat := 119
abbrev T_func_map_string_shelf_thing_ap_af41 : Nat := 120
abbrev T_func_map_string_shelf_thing_ap_861a : Nat := 121
abbrev T_func_string : Nat := 122
abbrev T_func_p_damperref4_object_int_int : Nat := 123
abbrev T_func_s_string_string_s_string : Nat := 124
abbrev T_func_string_int_bool : Nat := 125
abbrev T_string_int_bool : Nat := 126
abbrev T_func_string_string_int_bool : Nat := 127
abbrev T_func_s_api_Target_func_api_Tar_f39 : Nat := 128
abbrev T_func_api_Target_bool : Nat := 129
abbrev T_func_s_string : Nat := 130
abbrev T_func_uint8_bool : Nat := 131
abbrev T_func_int32_bool : Nat := 132
abbrev T_func_string_string_int : Nat := 133
abbrev T_interface_Error_string : Nat := 134
abbrev T_error : Nat := 135
abbrev T_int_error : Nat := 136
abbrev T_func_string_int_error : Nat := 137
abbrev T_func_string_int_string : Nat := 138
abbrev T_func_s_api_Target_func_api_Tar_6d8 : Nat := 139
abbrev T_func_s_string_iter_Seq_string_s_string : Nat := 140
abbrev T_func_s_string_int_int_int : Nat := 141
abbrev T_func_uint_int : Nat := 142
abbrev T_uint : Nat := 143
abbrev T_func_string_uint8_int : Nat := 144
abbrev T_func_string_string_int_int_error_error : Nat := 145
abbrev T_func_int_string : Nat := 146
abbrev T_func_s_string_int_int : Nat := 147
abbrev T_slices_sortedHint : Nat := 148
abbrev T_int_slices_sortedHint : Nat := 149
abbrev T_func_s_string_int_int_int_slic_b85c : Nat := 150
abbrev T_func_s_string_int_int_bool : Nat := 151
abbrev T_func_string_string_bool : Nat := 152
abbrev T_func_s_string_int_int_int_int : Nat := 153
abbrev T_int_bool : Nat := 154
abbrev T_func_s_string_int_int_int_int_bool : Nat := 155
abbrev T_func_uint32_int : Nat := 156
abbrev T_uint32 : Nat := 157
abbrev T_func_uint64_int : Nat := 158
abbrev T_uint64 : Nat := 159
abbrev T_uint32_uint32 : Nat := 160
abbrev T_func_string_uint32_uint32 : Nat := 161
abbrev T_strconv_Error : Nat := 162
abbrev T_int64_error : Nat := 163
abbrev T_func_string_int_int_int64_error : Nat := 164
abbrev T_p_strconv_NumError : Nat := 165
abbrev T_func_string_string_p_strconv_NumError : Nat := 166
abbrev T_func_string_string_int_p_strco_dc14 : Nat := 167
abbrev T_slices_xorshift : Nat := 168
abbrev T_func_int_uint : Nat := 169
abbrev T_func_uint64 : Nat := 170
abbrev T_func_s_string_int_p_int_int : Nat := 171
abbrev T_p_int : Nat := 172
abbrev T_func_s_string_int_int_int_p_int_int : Nat := 173
abbrev T_uint64_error : Nat := 174
abbrev T_func_string_int_int_uint64_error : Nat := 175
abbrev T_func_string_string : Nat := 176
abbrev T_struct_Func_string_Num_string_Err_error : Nat := 177
abbrev T_strconv_NumError : Nat := 178
abbrev T_func_string_error : Nat := 179
abbrev T_func_int64_int_string : Nat := 180
abbrev T_p_slices_xorshift : Nat := 181
abbrev T_func_s_string_int_int_p_int_int_int : Nat := 182
abbrev T_func_uint8_uint8 : Nat := 183
abbrev T_p_uint8 : Nat := 184
abbrev T_p_errors_errorString : Nat := 185
abbrev T_struct_s_string : Nat := 186
abbrev T_errors_errorString : Nat := 187
abbrev T_24_uint8 : Nat := 188
abbrev T_func_s_uint8_uint64 : Nat := 189
abbrev T_s_uint8_string : Nat := 190
abbrev T_func_s_uint8_uint64_int_bool_b_c233 : Nat := 191
abbrev T_func_int_int : Nat := 192
abbrev T_func_bool_int : Nat := 193
abbrev T_20_uint64 : Nat := 194
abbrev T_65_uint8 : Nat := 195
abbrev T_32_uint8 : Nat := 196
abbrev T_64_uint8 : Nat := 197
abbrev T_func_string_1 : Nat := 198
abbrev T_struct__interface_p_abi_Type_c_b8d5 : Nat := 199
abbrev T_runtime_TypeAssertionError : Nat := 200
abbrev T_0_p_runtime_PanicNilError : Nat := 201
abbrev T_struct___0_p_runtime_PanicNilError : Nat := 202
abbrev T_runtime_PanicNilError : Nat := 203
abbrev T_func_int : Nat := 204
abbrev T_abi_TFlag : Nat := 205
abbrev T_abi_Kind : Nat := 206
abbrev T_func_unsafe_Pointer_unsafe_Pointer_bool : Nat := 207
abbrev T_abi_NameOff : Nat := 208
abbrev T_abi_TypeOff : Nat := 209
abbrev T_struct_Size__uintptr_PtrBytes__b10b : Nat := 210
abbrev T_abi_Type : Nat := 211
abbrev T_unsafe_Pointer : Nat := 212
def s_ : ByteArray := ⟨#[]⟩
def s_q : ByteArray := ⟨#[113]⟩
def s_p : ByteArray := ⟨#[112]⟩
def s_web : ByteArray := ⟨#[119, 101, 98]⟩
def s_api : ByteArray := ⟨#[97, 112, 105]⟩
def s_a_b : ByteArray := ⟨#[97, 45, 98]⟩
def s_front : ByteArray := ⟨#[102, 114, 111, 110, 116]⟩
def s_back : ByteArray := ⟨#[98, 97, 99, 107]⟩
def s_r_1 : ByteArray := ⟨#[114, 45, 49]⟩
def s_both : ByteArray := ⟨#[98, 111, 116, 104]⟩
def s_a : ByteArray := ⟨#[97]⟩
def s__ : ByteArray := ⟨#[45]⟩
def s_t : ByteArray := ⟨#[116]⟩
def s_none : ByteArray := ⟨#[110, 111, 110, 101]⟩
def ti_0 : TI := ⟨.tuple [], 1, none, none⟩
def ti_1 : TI := ⟨.func, 1, some (.one (.func)), some [.nilFunc]⟩
def ti_2 : TI := ⟨.int .i64, 1, some (.one (.int .i64)), some [.int .i64 0]⟩
def ti_3 : TI := ⟨.int .i64, 1, some (.one (.int .i64)), some [.int .i64 0]⟩
def ti_4 : TI := ⟨.bool, 1, some (.one (.bool)), some [.bool false]⟩
def ti_5 : TI := ⟨.int .u8, 1, some (.one (.int .u8)), some [.int .u8 0]⟩
def ti_6 : TI := ⟨.int .u8, 1, some (.one (.int .u8)), some [.int .u8 0]⟩
def ti_7 : TI := ⟨.struct [(2, 0), (3, 1), (4, 2), (6, 3)], 4, some (.agg [.int .i64, .int .i64, .bool, .int .u8]), some [.int .i64 0, .int .i64 0, .bool false, .int .u8 0]⟩
def ti_8 : TI := ⟨.struct [(2, 0), (3, 1), (4, 2), (6, 3)], 4, some (.agg [.int .i64, .int .i64, .bool, .int .u8]), some [.int .i64 0, .int .i64 0, .bool false, .int .u8 0]⟩
def ti_9 : TI := ⟨.str, 1, some (.one (.str)), some [.string s_]⟩
def ti_10 : TI := ⟨.str, 1, some (.one (.str)), some [.string s_]⟩
def ti_11 : TI := ⟨.str, 1, some (.one (.str)), some [.string s_]⟩
def ti_12 : TI := ⟨.int .u64, 1, some (.one (.int .u64)), some [.int .u64 0]⟩
def ti_13 : TI := ⟨.struct [(9, 0), (12, 1)], 2, some (.agg [.str, .int .u64]), some [.string s_, .int .u64 0]⟩
def ti_14 : TI := ⟨.struct [(9, 0), (12, 1)], 2, some (.agg [.str, .int .u64]), some [.string s_, .int .u64 0]⟩
def ti_15 : TI := ⟨.ptr, 1, some (.one (.ptr)), some [.pointer none]⟩
def ti_16 : TI := ⟨.ptr, 1, some (.one (.ptr)), some [.pointer none]⟩
def ti_17 : TI := ⟨.ptr, 1, some (.one (.ptr)), some [.pointer none]⟩
def ti_18 : TI := ⟨.struct [(17, 0)], 1, some (.agg [.ptr]), some [.pointer none]⟩
def ti_19 : TI := ⟨.struct [(17, 0)], 1, some (.agg [.ptr]), some [.pointer none]⟩
def ti_20 : TI := ⟨.iface, 1, some (.one (.iface)), some [.nilIface]⟩
def ti_21 : TI := ⟨.int .i32, 1, some (.one (.int .i32)), some [.int .i32 0]⟩
def ti_22 : TI := ⟨.slice 3, 1, some (.one (.slice)), some [.slice none 0 0]⟩
def ti_23 : TI := ⟨.func, 1, some (.one (.func)), some [.nilFunc]⟩
def ti_24 : TI := ⟨.ptr, 1, some (.one (.ptr)), some [.pointer none]⟩
def ti_25 : TI := ⟨.func, 1, some (.one (.func)), some [.nilFunc]⟩
def ti_26 : TI := ⟨.slice 34, 1, some (.one (.slice)), some [.slice none 0 0]⟩
def ti_27 : TI := ⟨.struct [(9, 0), (9, 1), (26, 2), (3, 3)], 4, some (.agg [.str, .str, .slice, .int .i64]), some [.string s_, .string s_, .slice none 0 0, .int .i64 0]⟩
def ti_28 : TI := ⟨.struct [(9, 0), (9, 1), (26, 2), (3, 3)], 4, some (.agg [.str, .str, .slice, .int .i64]), some [.string s_, .string s_, .slice none 0 0, .int .i64 0]⟩
def ti_29 : TI := ⟨.func, 1, some (.one (.func)), some [.nilFunc]⟩
def ti_30 : TI := ⟨.int .i64, 1, some (.one (.int .i64)), some [.int .i64 0]⟩
def ti_31 : TI := ⟨.tuple [3, 30], 1, none, none⟩
def ti_32 : TI := ⟨.func, 1, some (.one (.func)), some [.nilFunc]⟩
def ti_33 : TI := ⟨.struct [(9, 0), (9, 1), (3, 2)], 3, some (.agg [.str, .str, .int .i64]), some [.string s_, .string s_, .int .i64 0]⟩
def ti_34 : TI := ⟨.struct [(9, 0), (9, 1), (3, 2)], 3, some (.agg [.str, .str, .int .i64]), some [.string s_, .string s_, .int .i64 0]⟩
def ti_35 : TI := ⟨.tuple [28, 3, 4], 1, none, none⟩
def ti_36 : TI := ⟨.func, 1, some (.one (.func)), some [.nilFunc]⟩
def ti_37 : TI := ⟨.func, 1, some (.one (.func)), some [.nilFunc]⟩
def ti_38 : TI := ⟨.slice 9, 1, some (.one (.slice)), some [.slice none 0 0]⟩
def ti_39 : TI := ⟨.func, 1, some (.one (.func)), some [.nilFunc]⟩
def ti_40 : TI := ⟨.func, 1, some (.one (.func)), some [.nilFunc]⟩
def ti_41 : TI := ⟨.slice 49, 1, some (.one (.slice)), some [.slice none 0 0]⟩
def ti_42 : TI := ⟨.arr 3 3, 3, some (.agg [.int .i64, .int .i64, .int .i64]), some [.int .i64 0, .int .i64 0, .int .i64 0]⟩
def ti_43 : TI := ⟨.arr 2 42, 6, some (.agg [.int .i64, .int .i64, .int .i64, .int .i64, .int .i64, .int .i64]), some [.int .i64 0, .int .i64 0, .int .i64 0, .int .i64 0, .int .i64 0, .int .i64 0]⟩
def ti_44 : TI := ⟨.arr 2 38, 2, some (.agg [.slice, .slice]), some [.slice none 0 0, .slice none 0 0]⟩
def ti_45 : TI := ⟨.func, 1, some (.one (.func)), some [.nilFunc]⟩
def ti_46 : TI := ⟨.struct [(9, 0), (3, 1), (3, 2), (3, 3), (3, 4), (3, 5)], 6, some (.agg [.str, .int .i64, .int .i64, .int .i64, .int .i64, .int .i64]), some [.string s_, .int .i64 0, .int .i64 0, .int .i64 0, .int .i64 0, .int .i64 0]⟩
def ti_47 : TI := ⟨.struct [(9, 0), (3, 1), (3, 2), (3, 3), (3, 4), (3, 5)], 6, some (.agg [.str, .int .i64, .int .i64, .int .i64, .int .i64, .int .i64]), some [.string s_, .int .i64 0, .int .i64 0, .int .i64 0, .int .i64 0, .int .i64 0]⟩
def ti_48 : TI := ⟨.struct [(3, 0), (3, 1), (3, 2), (47, 3), (22, 9)], 10, some (.agg [.int .i64, .int .i64, .int .i64, .str, .int .i64, .int .i64, .int .i64, .int .i64, .int .i64, .slice]), some [.int .i64 0, .int .i64 0, .int .i64 0, .string s_, .int .i64 0, .int .i64 0, .int .i64 0, .int .i64 0, .int .i64 0, .slice none 0 0]⟩
def ti_49 : TI := ⟨.struct [(3, 0), (3, 1), (3, 2), (47, 3), (22, 9)], 10, some (.agg [.int .i64, .int .i64, .int .i64, .str, .int .i64, .int .i64, .int .i64, .int .i64, .int .i64, .slice]), some [.int .i64 0, .int .i64 0, .int .i64 0, .string s_, .int .i64 0, .int .i64 0, .int .i64 0, .int .i64 0, .int .i64 0, .slice none 0 0]⟩
def ti_50 : TI := ⟨.func, 1, some (.one (.func)), some [.nilFunc]⟩
def ti_51 : TI := ⟨.func, 1, some (.one (.func)), some [.nilFunc]⟩
def ti_52 : TI := ⟨.func, 1, some (.one (.func)), some [.nilFunc]⟩
def ti_53 : TI := ⟨.func, 1, some (.one (.func)), some [.nilFunc]⟩
def ti_54 : TI := ⟨.ptr, 1, some (.one (.ptr)), some [.pointer none]⟩
def ti_55 : TI := ⟨.slice 92, 1, some (.one (.slice)), some [.slice none 0 0]⟩
def ti_56 : TI := ⟨.struct [(55, 0), (3, 1)], 2, some (.agg [.slice, .int .i64]), some [.slice none 0 0, .int .i64 0]⟩
def ti_57 : TI := ⟨.struct [(55, 0), (3, 1)], 2, some (.agg [.slice, .int .i64]), some [.slice none 0 0, .int .i64 0]⟩
def ti_58 : TI := ⟨.func, 1, some (.one (.func)), some [.nilFunc]⟩
def ti_59 : TI := ⟨.tuple [3, 3], 1, none, none⟩
def ti_60 : TI := ⟨.func, 1, some (.one (.func)), some [.nilFunc]⟩
def ti_61 : TI := ⟨.func, 1, some (.one (.func)), some [.nilFunc]⟩
def ti_62 : TI := ⟨.func, 1, some (.one (.func)), some [.nilFunc]⟩
def ti_63 : TI := ⟨.func, 1, some (.one (.func)), some [.nilFunc]⟩
def ti_64 : TI := ⟨.tuple [47, 3, 3, 4], 1, none, none⟩
def ti_65 : TI := ⟨.func, 1, some (.one (.func)), some [.nilFunc]⟩
def ti_66 : TI := ⟨.func, 1, some (.one (.func)), some [.nilFunc]⟩
def ti_67 : TI := ⟨.ptr, 1, some (.one (.ptr)), some [.pointer none]⟩
def ti_68 : TI := ⟨.func, 1, some (.one (.func)), some [.nilFunc]⟩
def ti_69 : TI := ⟨.func, 1, some (.one (.func)), some [.nilFunc]⟩
def ti_70 : TI := ⟨.ptr, 1, some (.one (.ptr)), some [.pointer none]⟩
def ti_71 : TI := ⟨.func, 1, some (.one (.func)), some [.nilFunc]⟩
def ti_72 : TI := ⟨.struct [(67, 0), (70, 1), (3, 2)], 3, some (.agg [.ptr, .ptr, .int .i64]), some [.pointer none, .pointer none, .int .i64 0]⟩
def ti_73 : TI := ⟨.struct [(67, 0), (70, 1), (3, 2)], 3, some (.agg [.ptr, .ptr, .int .i64]), some [.pointer none, .pointer none, .int .i64 0]⟩
def ti_74 : TI := ⟨.slice 5, 1, some (.one (.slice)), some [.slice none 0 0]⟩
def ti_75 : TI := ⟨.func, 1, some (.one (.func)), some [.nilFunc]⟩
def ti_76 : TI := ⟨.func, 1, some (.one (.func)), some [.nilFunc]⟩
def ti_77 : TI := ⟨.func, 1, some (.one (.func)), some [.nilFunc]⟩
def ti_78 : TI := ⟨.func, 1, some (.one (.func)), some [.nilFunc]⟩
def ti_79 : TI := ⟨.struct [(28, 0), (3, 4), (3, 5), (4, 6)], 7, some (.agg [.str, .str, .slice, .int .i64, .int .i64, .int .i64, .bool]), some [.string s_, .string s_, .slice none 0 0, .int .i64 0, .int .i64 0, .int .i64 0, .bool false]⟩
def ti_80 : TI := ⟨.struct [(28, 0), (3, 4), (3, 5), (4, 6)], 7, some (.agg [.str, .str, .slice, .int .i64, .int .i64, .int .i64, .bool]), some [.string s_, .string s_, .slice none 0 0, .int .i64 0, .int .i64 0, .int .i64 0, .bool false]⟩
def ti_81 : TI := ⟨.tuple [80, 4], 1, none, none⟩
def ti_82 : TI := ⟨.func, 1, some (.one (.func)), some [.nilFunc]⟩
def ti_83 : TI := ⟨.func, 1, some (.one (.func)), some [.nilFunc]⟩
def ti_84 : TI := ⟨.func, 1, some (.one (.func)), some [.nilFunc]⟩
def ti_85 : TI := ⟨.func, 1, some (.one (.func)), some [.nilFunc]⟩
def ti_86 : TI := ⟨.func, 1, some (.one (.func)), some [.nilFunc]⟩
def ti_87 : TI := ⟨.func, 1, some (.one (.func)), some [.nilFunc]⟩
def ti_88 : TI := ⟨.func, 1, some (.one (.func)), some [.nilFunc]⟩
def ti_89 : TI := ⟨.func, 1, some (.one (.func)), some [.nilFunc]⟩
def ti_90 : TI := ⟨.func, 1, some (.one (.func)), some [.nilFunc]⟩
def ti_91 : TI := ⟨.func, 1, some (.one (.func)), some [.nilFunc]⟩
def ti_92 : TI := ⟨.ptr, 1, some (.one (.ptr)), some [.pointer none]⟩
def ti_93 : TI := ⟨.tuple [92, 3], 1, none, none⟩
def ti_94 : TI := ⟨.func, 1, some (.one (.func)), some [.nilFunc]⟩
def ti_95 : TI := ⟨.struct [(3, 0), (9, 1), (47, 2), (28, 8), (3, 12), (3, 13), (4, 14)], 15, some (.agg [.int .i64, .str, .str, .int .i64, .int .i64, .int .i64, .int .i64, .int .i64, .str, .str, .slice, .int .i64, .int .i64, .int .i64, .bool]), some [.int .i64 0, .string s_, .string s_, .int .i64 0, .int .i64 0, .int .i64 0, .int .i64 0, .int .i64 0, .string s_, .string s_, .slice none 0 0, .int .i64 0, .int .i64 0, .int .i64 0, .bool false]⟩
def ti_96 : TI := ⟨.struct [(3, 0), (9, 1), (47, 2), (28, 8), (3, 12), (3, 13), (4, 14)], 15, some (.agg [.int .i64, .str, .str, .int .i64, .int .i64, .int .i64, .int .i64, .int .i64, .str, .str, .slice, .int .i64, .int .i64, .int .i64, .bool]), some [.int .i64 0, .string s_, .string s_, .int .i64 0, .int .i64 0, .int .i64 0, .int .i64 0, .int .i64 0, .string s_, .string s_, .slice none 0 0, .int .i64 0, .int .i64 0, .int .i64 0, .bool false]⟩
def ti_97 : TI := ⟨.func, 1, some (.one (.func)), some [.nilFunc]⟩
def ti_98 : TI := ⟨.func, 1, some (.one (.func)), some [.nilFunc]⟩
def ti_99 : TI := ⟨.func, 1, some (.one (.func)), some [.nilFunc]⟩
def ti_100 : TI := ⟨.struct [(47, 0), (3, 6), (3, 7), (4, 8)], 9, some (.agg [.str, .int .i64, .int .i64, .int .i64, .int .i64, .int .i64, .int .i64, .int .i64, .bool]), some [.string s_, .int .i64 0, .int .i64 0, .int .i64 0, .int .i64 0, .int .i64 0, .int .i64 0, .int .i64 0, .bool false]⟩
def ti_101 : TI := ⟨.struct [(47, 0), (3, 6), (3, 7), (4, 8)], 9, some (.agg [.str, .int .i64, .int .i64, .int .i64, .int .i64, .int .i64, .int .i64, .int .i64, .bool]), some [.string s_, .int .i64 0, .int .i64 0, .int .i64 0, .int .i64 0, .int .i64 0, .int .i64 0, .int .i64 0, .bool false]⟩
def ti_102 : TI := ⟨.tuple [101, 4], 1, none, none⟩
def ti_103 : TI := ⟨.func, 1, some (.one (.func)), some [.nilFunc]⟩
def ti_104 : TI := ⟨.map 9 101, 1, some (.one (.map)), some [.map none]⟩
def ti_105 : TI := ⟨.struct [(104, 0), (69, 1)], 2, some (.agg [.map, .func]), some [.map none, .nilFunc]⟩
def ti_106 : TI := ⟨.struct [(104, 0), (69, 1)], 2, some (.agg [.map, .func]), some [.map none, .nilFunc]⟩
def ti_107 : TI := ⟨.map 9 80, 1, some (.one (.map)), some [.map none]⟩
def ti_108 : TI := ⟨.struct [(107, 0), (37, 1)], 2, some (.agg [.map, .func]), some [.map none, .nilFunc]⟩
def ti_109 : TI := ⟨.struct [(107, 0), (37, 1)], 2, some (.agg [.map, .func]), some [.map none, .nilFunc]⟩
def ti_110 : TI := ⟨.func, 1, some (.one (.func)), some [.nilFunc]⟩
def ti_111 : TI := ⟨.func, 1, some (.one (.func)), some [.nilFunc]⟩
def ti_112 : TI := ⟨.func, 1, some (.one (.func)), some [.nilFunc]⟩
def ti_113 : TI := ⟨.struct [(3, 0), (3, 1)], 2, some (.agg [.int .i64, .int .i64]), some [.int .i64 0, .int .i64 0]⟩
def ti_114 : TI := ⟨.struct [(3, 0), (3, 1)], 2, some (.agg [.int .i64, .int .i64]), some [.int .i64 0, .int .i64 0]⟩
def ti_115 : TI := ⟨.func, 1, some (.one (.func)), some [.nilFunc]⟩
def ti_116 : TI := ⟨.func, 1, some (.one (.func)), some [.nilFunc]⟩
def ti_117 : TI := ⟨.func, 1, some (.one (.func)), some [.nilFunc]⟩
def ti_118 : TI := ⟨.func, 1, some (.one (.func)), some [.nilFunc]⟩
def ti_119 : TI := ⟨.func, 1, some (.one (.func)), some [.nilFunc]⟩
def ti_120 : TI := ⟨.func, 1, some (.one (.func)), some [.nilFunc]⟩
def ti_121 : TI := ⟨.func, 1, some (.one (.func)), some [.nilFunc]⟩
def ti_122 : TI := ⟨.func, 1, some (.one (.func)), some [.nilFunc]⟩
def ti_123 : TI := ⟨.func, 1, some (.one (.func)), some [.nilFunc]⟩
def ti_124 : TI := ⟨.func, 1, some (.one (.func)), some [.nilFunc]⟩
def ti_125 : TI := ⟨.func, 1, some (.one (.func)), some [.nilFunc]⟩
def ti_126 : TI := ⟨.tuple [9, 3, 4], 1, none, none⟩
def ti_127 : TI := ⟨.func, 1, some (.one (.func)), some [.nilFunc]⟩
def ti_128 : TI := ⟨.func, 1, some (.one (.func)), some [.nilFunc]⟩
def ti_129 : TI := ⟨.func, 1, some (.one (.func)), some [.nilFunc]⟩
def ti_130 : TI := ⟨.func, 1, some (.one (.func)), some [.nilFunc]⟩
def ti_131 : TI := ⟨.func, 1, some (.one (.func)), some [.nilFunc]⟩
def ti_132 : TI := ⟨.func, 1, some (.one (.func)), some [.nilFunc]⟩
def ti_133 : TI := ⟨.func, 1, some (.one (.func)), some [.nilFunc]⟩
def ti_134 : TI := ⟨.iface, 1, some (.one (.iface)), some [.nilIface]⟩
def ti_135 : TI := ⟨.iface, 1, some (.one (.iface)), some [.nilIface]⟩
def ti_136 : TI := ⟨.tuple [3, 135], 1, none, none⟩
def ti_137 : TI := ⟨.func, 1, some (.one (.func)), some [.nilFunc]⟩
def ti_138 : TI := ⟨.func, 1, some (.one (.func)), some [.nilFunc]⟩
def ti_139 : TI := ⟨.func, 1, some (.one (.func)), some [.nilFunc]⟩
def ti_140 : TI := ⟨.func, 1, some (.one (.func)), some [.nilFunc]⟩
def ti_141 : TI := ⟨.func, 1, some (.one (.func)), some [.nilFunc]⟩
def ti_142 : TI := ⟨.func, 1, some (.one (.func)), some [.nilFunc]⟩
def ti_143 : TI := ⟨.int .u64, 1, some (.one (.int .u64)), some [.int .u64 0]⟩
def ti_144 : TI := ⟨.func, 1, some (.one (.func)), some [.nilFunc]⟩
def ti_145 : TI := ⟨.func, 1, some (.one (.func)), some [.nilFunc]⟩
def ti_146 : TI := ⟨.func, 1, some (.one (.func)), some [.nilFunc]⟩
def ti_147 : TI := ⟨.func, 1, some (.one (.func)), some [.nilFunc]⟩
def ti_148 : TI := ⟨.int .i64, 1, some (.one (.int .i64)), some [.int .i64 0]⟩
def ti_149 : TI := ⟨.tuple [3, 148], 1, none, none⟩
def ti_150 : TI := ⟨.func, 1, some (.one (.func)), some [.nilFunc]⟩
def ti_151 : TI := ⟨.func, 1, some (.one (.func)), some [.nilFunc]⟩
def ti_152 : TI := ⟨.func, 1, some (.one (.func)), some [.nilFunc]⟩
def ti_153 : TI := ⟨.func, 1, some (.one (.func)), some [.nilFunc]⟩
def ti_154 : TI := ⟨.tuple [3, 4], 1, none, none⟩
def ti_155 : TI := ⟨.func, 1, some (.one (.func)), some [.nilFunc]⟩
def ti_156 : TI := ⟨.func, 1, some (.one (.func)), some [.nilFunc]⟩
def ti_157 : TI := ⟨.int .u32, 1, some (.one (.int .u32)), some [.int .u32 0]⟩
def ti_158 : TI := ⟨.func, 1, some (.one (.func)), some [.nilFunc]⟩
def ti_159 : TI := ⟨.int .u64, 1, some (.one (.int .u64)), some [.int .u64 0]⟩
def ti_160 : TI := ⟨.tuple [157, 157], 1, none, none⟩
def ti_161 : TI := ⟨.func, 1, some (.one (.func)), some [.nilFunc]⟩
def ti_162 : TI := ⟨.int .i64, 1, some (.one (.int .i64)), some [.int .i64 0]⟩
def ti_163 : TI := ⟨.tuple [2, 135], 1, none, none⟩
def ti_164 : TI := ⟨.func, 1, some (.one (.func)), some [.nilFunc]⟩
def ti_165 : TI := ⟨.ptr, 1, some (.one (.ptr)), some [.pointer none]⟩
def ti_166 : TI := ⟨.func, 1, some (.one (.func)), some [.nilFunc]⟩
def ti_167 : TI := ⟨.func, 1, some (.one (.func)), some [.nilFunc]⟩
def ti_168 : TI := ⟨.int .u64, 1, some (.one (.int .u64)), some [.int .u64 0]⟩
def ti_169 : TI := ⟨.func, 1, some (.one (.func)), some [.nilFunc]⟩
def ti_170 : TI := ⟨.func, 1, some (.one (.func)), some [.nilFunc]⟩
def ti_171 : TI := ⟨.func, 1, some (.one (.func)), some [.nilFunc]⟩
def ti_172 : TI := ⟨.ptr, 1, some (.one (.ptr)), some [.pointer none]⟩
def ti_173 : TI := ⟨.func, 1, some (.one (.func)), some [.nilFunc]⟩
def ti_174 : TI := ⟨.tuple [159, 135], 1, none, none⟩
def ti_175 : TI := ⟨.func, 1, some (.one (.func)), some [.nilFunc]⟩
def ti_176 : TI := ⟨.func, 1, some (.one (.func)), some [.nilFunc]⟩
def ti_177 : TI := ⟨.struct [(9, 0), (9, 1), (135, 2)], 3, some (.agg [.str, .str, .iface]), some [.string s_, .string s_, .nilIface]⟩
def ti_178 : TI := ⟨.struct [(9, 0), (9, 1), (135, 2)], 3, some (.agg [.str, .str, .iface]), some [.string s_, .string s_, .nilIface]⟩
def ti_179 : TI := ⟨.func, 1, some (.one (.func)), some [.nilFunc]⟩
def ti_180 : TI := ⟨.func, 1, some (.one (.func)), some [.nilFunc]⟩
def ti_181 : TI := ⟨.ptr, 1, some (.one (.ptr)), some [.pointer none]⟩
def ti_182 : TI := ⟨.func, 1, some (.one (.func)), some [.nilFunc]⟩
def ti_183 : TI := ⟨.func, 1, some (.one (.func)), some [.nilFunc]⟩
def ti_184 : TI := ⟨.ptr, 1, some (.one (.ptr)), some [.pointer none]⟩
def ti_185 : TI := ⟨.ptr, 1, some (.one (.ptr)), some [.pointer none]⟩
def ti_186 : TI := ⟨.struct [(9, 0)], 1, some (.agg [.str]), some [.string s_]⟩
def ti_187 : TI := ⟨.struct [(9, 0)], 1, some (.agg [.str]), some [.string s_]⟩
def ti_188 : TI := ⟨.arr 24 5, 24, some (.agg [.int .u8, .int .u8, .int .u8, .int .u8, .int .u8, .int .u8, .int .u8, .int .u8, .int .u8, .int .u8, .int .u8, .int .u8, .int .u8, .int .u8, .int .u8, .int .u8, .int .u8, .int .u8, .int .u8, .int .u8, .int .u8, .int .u8, .int .u8, .int .u8]), some [.int .u8 0, .int .u8 0, .int .u8 0, .int .u8 0, .int .u8 0, .int .u8 0, .int .u8 0, .int .u8 0, .int .u8 0, .int .u8 0, .int .u8 0, .int .u8 0, .int .u8 0, .int .u8 0, .int .u8 0, .int .u8 0, .int .u8 0, .int .u8 0, .int .u8 0, .int .u8 0, .int .u8 0, .int .u8 0, .int .u8 0, .int .u8 0]⟩
def ti_189 : TI := ⟨.func, 1, some (.one (.func)), some [.nilFunc]⟩
def ti_190 : TI := ⟨.tuple [74, 9], 1, none, none⟩
def ti_191 : TI := ⟨.func, 1, some (.one (.func)), some [.nilFunc]⟩
def ti_192 : TI := ⟨.func, 1, some (.one (.func)), some [.nilFunc]⟩
def ti_193 : TI := ⟨.func, 1, some (.one (.func)), some [.nilFunc]⟩
def ti_194 : TI := ⟨.arr 20 159, 20, some (.agg [.int .u64, .int .u64, .int .u64, .int .u64, .int .u64, .int .u64, .int .u64, .int .u64, .int .u64, .int .u64, .int .u64, .int .u64, .int .u64, .int .u64, .int .u64, .int .u64, .int .u64, .int .u64, .int .u64, .int .u64]), some [.int .u64 0, .int .u64 0, .int .u64 0, .int .u64 0, .int .u64 0, .int .u64 0, .int .u64 0, .int .u64 0, .int .u64 0, .int .u64 0, .int .u64 0, .int .u64 0, .int .u64 0, .int .u64 0, .int .u64 0, .int .u64 0, .int .u64 0, .int .u64 0, .int .u64 0, .int .u64 0]⟩
def ti_195 : TI := ⟨.arr 65 5, 65, some (.agg [.int .u8, .int .u8, .int .u8, .int .u8, .int .u8, .int .u8, .int .u8, .int .u8, .int .u8, .int .u8, .int .u8, .int .u8, .int .u8, .int .u8, .int .u8, .int .u8, .int .u8, .int .u8, .int .u8, .int .u8, .int .u8, .int .u8, .int .u8, .int .u8, .int .u8, .int .u8, .int .u8, .int .u8, .int .u8, .int .u8, .int .u8, .int .u8, .int .u8, .int .u8, .int .u8, .int .u8, .int .u8, .int .u8, .int .u8, .int .u8, .int .u8, .int .u8, .int .u8, .int .u8, .int .u8, .int .u8, .int .u8, .int .u8, .int .u8, .int .u8, .int .u8, .int .u8, .int .u8, .int .u8, .int .u8, .int .u8, .int .u8, .int .u8, .int .u8, .int .u8, .int .u8, .int .u8, .int .u8, .int .u8, .int .u8]), some [.int .u8 0, .int .u8 0, .int .u8 0, .int .u8 0, .int .u8 0, .int .u8 0, .int .u8 0, .int .u8 0, .int .u8 0, .int .u8 0, .int .u8 0, .int .u8 0, .int .u8 0, .int .u8 0, .int .u8 0, .int .u8 0, .int .u8 0, .int .u8 0, .int .u8 0, .int .u8 0, .int .u8 0, .int .u8 0, .int .u8 0, .int .u8 0, .int .u8 0, .int .u8 0, .int .u8 0, .int .u8 0, .int .u8 0, .int .u8 0, .int .u8 0, .int .u8 0, .int .u8 0, .int .u8 0, .int .u8 0, .int .u8 0, .int .u8 0, .int .u8 0, .int .u8 0, .int .u8 0, .int .u8 0, .int .u8 0, .int .u8 0, .int .u8 0, .int .u8 0, .int .u8 0, .int .u8 0, .int .u8 0, .int .u8 0, .int .u8 0, .int .u8 0, .int .u8 0, .int .u8 0, .int .u8 0, .int .u8 0, .int .u8 0, .int .u8 0, .int .u8 0, .int .u8 0, .int .u8 0, .int .u8 0, .int .u8 0, .int .u8 0, .int .u8 0, .int .u8 0]⟩
def ti_196 : TI := ⟨.arr 32 5, 32, some (.agg [.int .u8, .int .u8, .int .u8, .int .u8, .int .u8, .int .u8, .int .u8, .int .u8, .int .u8, .int .u8, .int .u8, .int .u8, .int .u8, .int .u8, .int .u8, .int .u8, .int .u8, .int .u8, .int .u8, .int .u8, .int .u8, .int .u8, .int .u8, .int .u8, .int .u8, .int .u8, .int .u8, .int .u8, .int .u8, .int .u8, .int .u8, .int .u8]), some [.int .u8 0, .int .u8 0, .int .u8 0, .int .u8 0, .int .u8 0, .int .u8 0, .int .u8 0, .int .u8 0, .int .u8 0, .int .u8 0, .int .u8 0, .int .u8 0, .int .u8 0, .int .u8 0, .int .u8 0, .int .u8 0, .int .u8 0, .int .u8 0, .int .u8 0, .int .u8 0, .int .u8 0, .int .u8 0, .int .u8 0, .int .u8 0, .int .u8 0, .int .u8 0, .int .u8 0, .int .u8 0, .int .u8 0, .int .u8 0, .int .u8 0, .int .u8 0]⟩
def ti_197 : TI := ⟨.arr 64 5, 64, some (.agg [.int .u8, .int .u8, .int .u8, .int .u8, .int .u8, .int .u8, .int .u8, .int .u8, .int .u8, .int .u8, .int .u8, .int .u8, .int .u8, .int .u8, .int .u8, .int .u8, .int .u8, .int .u8, .int .u8, .int .u8, .int .u8, .int .u8, .int .u8, .int .u8, .int .u8, .int .u8, .int .u8, .int .u8, .int .u8, .int .u8, .int .u8, .int .u8, .int .u8, .int .u8, .int .u8, .int .u8, .int .u8, .int .u8, .int .u8, .int .u8, .int .u8, .int .u8, .int .u8, .int .u8, .int .u8, .int .u8, .int .u8, .int .u8, .int .u8, .int .u8, .int .u8, .int .u8, .int .u8, .int .u8, .int .u8, .int .u8, .int .u8, .int .u8, .int .u8, .int .u8, .int .u8, .int .u8, .int .u8, .int .u8]), some [.int .u8 0, .int .u8 0, .int .u8 0, .int .u8 0, .int .u8 0, .int .u8 0, .int .u8 0, .int .u8 0, .int .u8 0, .int .u8 0, .int .u8 0, .int .u8 0, .int .u8 0, .int .u8 0, .int .u8 0, .int .u8 0, .int .u8 0, .int .u8 0, .int .u8 0, .int .u8 0, .int .u8 0, .int .u8 0, .int .u8 0, .int .u8 0, .int .u8 0, .int .u8 0, .int .u8 0, .int .u8 0, .int .u8 0, .int .u8 0, .int .u8 0, .int .u8 0, .int .u8 0, .int .u8 0, .int .u8 0, .int .u8 0, .int .u8 0, .int .u8 0, .int .u8 0, .int .u8 0, .int .u8 0, .int .u8 0, .int .u8 0, .int .u8 0, .int .u8 0, .int .u8 0, .int .u8 0, .int .u8 0, .int .u8 0, .int .u8 0, .int .u8 0, .int .u8 0, .int .u8 0, .int .u8 0, .int .u8 0, .int .u8 0, .int .u8 0, .int .u8 0, .int .u8 0, .int .u8 0, .int .u8 0, .int .u8 0, .int .u8 0, .int .u8 0]⟩
def ti_198 : TI := ⟨.func, 1, some (.one (.func)), some [.nilFunc]⟩
def ti_199 : TI := ⟨.struct [(17, 0), (17, 1), (17, 2), (9, 3)], 4, some (.agg [.ptr, .ptr, .ptr, .str]), some [.pointer none, .pointer none, .pointer none, .string s_]⟩
def ti_200 : TI := ⟨.struct [(17, 0), (17, 1), (17, 2), (9, 3)], 4, some (.agg [.ptr, .ptr, .ptr, .str]), some [.pointer none, .pointer none, .pointer none, .string s_]⟩
def ti_201 : TI := ⟨.arr 0 16, 0, some (.agg []), some []⟩
def ti_202 : TI := ⟨.struct [(201, 0)], 0, some (.agg []), some []⟩
def ti_203 : TI := ⟨.struct [(201, 0)], 0, some (.agg []), some []⟩
def ti_204 : TI := ⟨.func, 1, some (.one (.func)), some [.nilFunc]⟩
def ti_205 : TI := ⟨.int .u8, 1, some (.one (.int .u8)), some [.int .u8 0]⟩
def ti_206 : TI := ⟨.int .u8, 1, some (.one (.int .u8)), some [.int .u8 0]⟩
def ti_207 : TI := ⟨.func, 1, some (.one (.func)), some [.nilFunc]⟩
def ti_208 : TI := ⟨.int .i32, 1, some (.one (.int .i32)), some [.int .i32 0]⟩
def ti_209 : TI := ⟨.int .i32, 1, some (.one (.int .i32)), some [.int .i32 0]⟩
def ti_210 : TI := ⟨.struct [(12, 0), (12, 1), (157, 2), (205, 3), (5, 4), (5, 5), (206, 6), (207, 7), (184, 8), (208, 9), (209, 10)], 11, some (.agg [.int .u64, .int .u64, .int .u32, .int .u8, .int .u8, .int .u8, .int .u8, .func, .ptr, .int .i32, .int .i32]), some [.int .u64 0, .int .u64 0, .int .u32 0, .int .u8 0, .int .u8 0, .int .u8 0, .int .u8 0, .nilFunc, .pointer none, .int .i32 0, .int .i32 0]⟩
def ti_211 : TI := ⟨.struct [(12, 0), (12, 1), (157, 2), (205, 3), (5, 4), (5, 5), (206, 6), (207, 7), (184, 8), (208, 9), (209, 10)], 11, some (.agg [.int .u64, .int .u64, .int .u32, .int .u8, .int .u8, .int .u8, .int .u8, .func, .ptr, .int .i32, .int .i32]), some [.int .u64 0, .int .u64 0, .int .u32 0, .int .u8 0, .int .u8 0, .int .u8 0, .int .u8 0, .nilFunc, .pointer none, .int .i32 0, .int .i32 0]⟩
def ti_212 : TI := ⟨.other, 1, none, none⟩
def fi_0 : Option RT := none
def fi_1 : Option RT := none
def fi_2 : Option RT := some (.tup [])
def fi_3 : Option RT := some (.one (.one (.bool)))
def fi_4 : Option RT := some (.one (.one (.bool)))
def fi_5 : Option RT := some (.one (.one (.bool)))
def fi_6 : Option RT := some (.one (.one (.bool)))
def fi_7 : Option RT := some (.one (.one (.bool)))
def fi_8 : Option RT := some (.one (.one (.ptr)))
def fi_9 : Option RT := some (.one (.agg [.str, .str, .slice, .int .i64]))
def fi_10 : Option RT := some (.tup [(.one (.int .i64)), (.one (.int .i64))])
def fi_11 : Option RT := some (.tup [(.agg [.str, .str, .slice, .int .i64]), (.one (.int .i64)), (.one (.bool))])
def fi_12 : Option RT := some (.one (.one (.bool)))
def fi_13 : Option RT := some (.one (.one (.slice)))
def fi_14 : Option RT := some (.one (.one (.int .i64)))
def fi_15 : Option RT := some (.one (.one (.int .i64)))
def fi_16 : Option RT := some (.one (.agg [.str, .int .i64, .int .i64, .int .i64, .int .i64, .int .i64]))
def fi_17 : Option RT := some (.tup [(.one (.int .i64)), (.one (.int .i64))])
def fi_18 : Option RT := some (.one (.one (.int .i64)))
def fi_19 : Option RT := some (.tup [(.one (.int .i64)), (.one (.int .i64))])
def fi_20 : Option RT := some (.tup [(.one (.int .i64)), (.one (.int .i64))])
def fi_21 : Option RT := some (.one (.one (.int .i64)))
def fi_22 : Option RT := some (.one (.one (.bool)))
def fi_23 : Option RT := some (.tup [(.agg [.str, .int .i64, .int .i64, .int .i64, .int .i64, .int .i64]), (.one (.int .i64)), (.one (.int .i64)), (.one (.bool))])
def fi_24 : Option RT := some (.one (.one (.ptr)))
def fi_25 : Option RT := some (.one (.one (.bool)))
def fi_26 : Option RT := some (.one (.one (.ptr)))
def fi_27 : Option RT := some (.one (.one (.bool)))
def fi_28 : Option RT := some (.one (.one (.int .i64)))
def fi_29 : Option RT := some (.one (.one (.int .i64)))
def fi_30 : Option RT := some (.one (.one (.int .i64)))
def fi_31 : Option RT := some (.tup [])
def fi_32 : Option RT := some (.one (.agg [.str, .str, .slice, .int .i64]))
def fi_33 : Option RT := some (.tup [(.agg [.str, .str, .slice, .int .i64, .int .i64, .int .i64, .bool]), (.one (.bool))])
def fi_34 : Option RT := some (.one (.one (.slice)))
def fi_35 : Option RT := some (.one (.one (.func)))
def fi_36 : Option RT := some (.one (.one (.func)))
def fi_37 : Option RT := some (.one (.one (.int .i64)))
def fi_38 : Option RT := some (.one (.one (.int .i64)))
def fi_39 : Option RT := some (.one (.one (.int .i64)))
def fi_40 : Option RT := some (.one (.one (.int .i64)))
def fi_41 : Option RT := some (.tup [])
def fi_42 : Option RT := some (.tup [(.agg [.str, .int .i64, .int .i64, .int .i64, .int .i64, .int .i64]), (.one (.int .i64)), (.one (.int .i64)), (.one (.bool))])
def fi_43 : Option RT := some (.tup [(.agg [.str, .str, .slice, .int .i64]), (.one (.int .i64)), (.one (.bool))])
def fi_44 : Option RT := some (.one (.one (.int .i64)))
def fi_45 : Option RT := some (.tup [(.one (.ptr)), (.one (.int .i64))])
def fi_46 : Option RT := some (.one (.one (.int .i64)))
def fi_47 : Option RT := some (.one (.one (.ptr)))
def fi_48 : Option RT := some (.one (.one (.bool)))
def fi_49 : Option RT := some (.one (.one (.slice)))
def fi_50 : Option RT := some (.tup [(.agg [.str, .int .i64, .int .i64, .int .i64, .int .i64, .int .i64, .int .i64, .int .i64, .bool]), (.one (.bool))])
def fi_51 : Option RT := some (.one (.one (.bool)))
def fi_52 : Option RT := some (.one (.one (.bool)))
def fi_53 : Option RT := some (.one (.one (.bool)))
def fi_54 : Option RT := some (.one (.one (.bool)))
def fi_55 : Option RT := some (.one (.one (.int .i64)))
def fi_56 : Option RT := some (.one (.one (.int .i64)))
def fi_57 : Option RT := some (.one (.one (.slice)))
def fi_58 : Option RT := some (.one (.one (.slice)))
def fi_59 : Option RT := some (.tup [])
def fi_60 : Option RT := some (.one (.one (.slice)))
def fi_61 : Option RT := some (.one (.one (.func)))
def fi_62 : Option RT := some (.tup [])
def fi_63 : Option RT := some (.one (.one (.func)))
def fi_64 : Option RT := some (.tup [])
def fi_65 : Option RT := some (.tup [])
def fi_66 : Option RT := some (.one (.one (.bool)))
def fi_67 : Option RT := some (.one (.one (.int .i64)))
def fi_68 : Option RT := some (.one (.one (.bool)))
def fi_69 : Option RT := some (.one (.one (.bool)))
def fi_70 : Option RT := some (.one (.one (.slice)))
def fi_71 : Option RT := some (.one (.one (.bool)))
def fi_72 : Option RT := some (.tup [(.one (.str)), (.one (.int .i64)), (.one (.bool))])
def fi_73 : Option RT := some (.one (.one (.bool)))
def fi_74 : Option RT := some (.one (.one (.bool)))
def fi_75 : Option RT := some (.one (.one (.bool)))
def fi_76 : Option RT := some (.one (.one (.slice)))
def fi_77 : Option RT := some (.tup [])
def fi_78 : Option RT := some (.tup [])
def fi_79 : Option RT := some (.tup [])
def fi_80 : Option RT := some (.one (.one (.bool)))
def fi_81 : Option RT := some (.tup [(.one (.str)), (.one (.int .i64)), (.one (.bool))])
def fi_82 : Option RT := some (.one (.one (.bool)))
def fi_83 : Option RT := some (.one (.one (.bool)))
def fi_84 : Option RT := some (.one (.one (.int .i64)))
def fi_85 : Option RT := some (.tup [(.one (.int .i64)), (.one (.iface))])
def fi_86 : Option RT := some (.one (.one (.str)))
def fi_87 : Option RT := some (.one (.one (.int .i64)))
def fi_88 : Option RT := some (.one (.one (.slice)))
def fi_89 : Option RT := some (.tup [])
def fi_90 : Option RT := some (.one (.one (.int .i64)))
def fi_91 : Option RT := some (.one (.one (.int .i64)))
def fi_92 : Option RT := some (.one (.one (.int .i64)))
def fi_93 : Option RT := some (.tup [(.one (.int .i64)), (.one (.iface))])
def fi_94 : Option RT := some (.one (.one (.iface)))
def fi_95 : Option RT := some (.one (.one (.str)))
def fi_96 : Option RT := some (.tup [])
def fi_97 : Option RT := some (.tup [])
def fi_98 : Option RT := some (.tup [])
def fi_99 : Option RT := some (.tup [(.one (.int .i64)), (.one (.int .i64))])
def fi_100 : Option RT := some (.tup [])
def fi_101 : Option RT := some (.one (.one (.bool)))
def fi_102 : Option RT := some (.one (.one (.bool)))
def fi_103 : Option RT := some (.one (.one (.int .i64)))
def fi_104 : Option RT := some (.tup [(.one (.int .i64)), (.one (.bool))])
def fi_105 : Option RT := some (.one (.one (.int .i64)))
def fi_106 : Option RT := some (.one (.one (.int .i64)))
def fi_107 : Option RT := some (.tup [(.one (.int .u32)), (.one (.int .u32))])
def fi_108 : Option RT := some (.tup [(.one (.int .i64)), (.one (.iface))])
def fi_109 : Option RT := some (.one (.one (.ptr)))
def fi_110 : Option RT := some (.one (.one (.ptr)))
def fi_111 : Option RT := some (.one (.one (.ptr)))
def fi_112 : Option RT := some (.one (.one (.ptr)))
def fi_113 : Option RT := some (.one (.one (.str)))
def fi_114 : Option RT := some (.tup [])
def fi_115 : Option RT := some (.one (.one (.int .u64)))
def fi_116 : Option RT := some (.one (.one (.int .u64)))
def fi_117 : Option RT := some (.one (.one (.int .i64)))
def fi_118 : Option RT := some (.one (.one (.int .i64)))
def fi_119 : Option RT := some (.one (.one (.bool)))
def fi_120 : Option RT := some (.tup [(.one (.int .u64)), (.one (.iface))])
def fi_121 : Option RT := some (.one (.one (.str)))
def fi_122 : Option RT := some (.one (.one (.iface)))
def fi_123 : Option RT := some (.one (.one (.str)))
def fi_124 : Option RT := some (.tup [(.one (.int .i64)), (.one (.int .i64))])
def fi_125 : Option RT := some (.one (.one (.int .u8)))
def fi_126 : Option RT := some (.one (.one (.bool)))
def fi_127 : Option RT := some (.one (.one (.str)))
def fi_128 : Option RT := some (.one (.one (.int .i64)))
def fi_129 : Option RT := some (.tup [])
def fi_130 : Option RT := some (.tup [(.one (.slice)), (.one (.str))])
def fi_131 : Option RT := some (.one (.one (.int .i64)))
def fi_132 : Option RT := some (.one (.one (.int .i64)))
def fi_133 : Option RT := some (.one (.one (.bool)))
def fi_134 : Option RT := some (.one (.one (.int .i64)))
def fi_135 : Option RT := some (.one (.one (.int .i64)))
def fi_136 : Option RT := some (.one (.one (.int .i64)))
def fi_137 : Option RT := none
def fi_138 : Option RT := none
def fi_139 : Option RT := none
def fi_140 : Option RT := none
def fi_141 : Option RT := none
def fi_142 : Option RT := none
def fi_143 : Option RT := none
def fi_144 : Option RT := none
def fi_145 : Option RT := none
def fi_146 : Option RT := none
def fi_147 : Option RT := none
def fi_148 : Option RT := none
def fi_149 : Option RT := none
def fi_150 : Option RT := none
def fi_151 : Option RT := none
def fi_152 : Option RT := none
def fi_153 : Option RT := none
def fi_154 : Option RT := none
def fi_155 : Option RT := none
def fi_156 : Option RT := none
def fi_157 : Option RT := none
def fi_158 : Option RT := none
def fi_159 : Option RT := none
def fi_160 : Option RT := none
def fi_161 : Option RT := none
def fi_162 : Option RT := none
def fi_163 : Option RT := none
def fi_164 : Option RT := some (.tup [])
def Dt : Tb := ⟨213, 165, (.node ti_0 (.node ti_1 (.node ti_3 (.node ti_7 (.node ti_15 (.node ti_31 (.node ti_63 (.node ti_127 .nil .nil) (.node ti_191 .nil .nil)) (.node ti_95 (.node ti_159 .nil .nil) .nil)) (.node ti_47 (.node ti_79 (.node ti_143 .nil .nil) (.node ti_207 .nil .nil)) (.node ti_111 (.node ti_175 .nil .nil) .nil))) (.node ti_23 (.node ti_39 (.node ti_71 (.node ti_135 .nil .nil) (.node ti_199 .nil .nil)) (.node ti_103 (.node ti_167 .nil .nil) .nil)) (.node ti_55 (.node ti_87 (.node ti_151 .nil .nil) .nil) (.node ti_119 (.node ti_183 .nil .nil) .nil)))) (.node ti_11 (.node ti_19 (.node ti_35 (.node ti_67 (.node ti_131 .nil .nil) (.node ti_195 .nil .nil)) (.node ti_99 (.node ti_163 .nil .nil) .nil)) (.node ti_51 (.node ti_83 (.node ti_147 .nil .nil) (.node ti_211 .nil .nil)) (.node ti_115 (.node ti_179 .nil .nil) .nil))) (.node ti_27 (.node ti_43 (.node ti_75 (.node ti_139 .nil .nil) (.node ti_203 .nil .nil)) (.node ti_107 (.node ti_171 .nil .nil) .nil)) (.node ti_59 (.node ti_91 (.node ti_155 .nil .nil) .nil) (.node ti_123 (.node ti_187 .nil .nil) .nil))))) (.node ti_5 (.node ti_9 (.node ti_17 (.node ti_33 (.node ti_65 (.node ti_129 .nil .nil) (.node ti_193 .nil .nil)) (.node ti_97 (.node ti_161 .nil .nil) .nil)) (.node ti_49 (.node ti_81 (.node ti_145 .nil .nil) (.node ti_209 .nil .nil)) (.node ti_113 (.node ti_177 .nil .nil) .nil))) (.node ti_25 (.node ti_41 (.node ti_73 (.node ti_137 .nil .nil) (.node ti_201 .nil .nil)) (.node ti_105 (.node ti_169 .nil .nil) .nil)) (.node ti_57 (.node ti_89 (.node ti_153 .nil .nil) .nil) (.node ti_121 (.node ti_185 .nil .nil) .nil)))) (.node ti_13 (.node ti_21 (.node ti_37 (.node ti_69 (.node ti_133 .nil .nil) (.node ti_197 .nil .nil)) (.node ti_101 (.node ti_165 .nil .nil) .nil)) (.node ti_53 (.node ti_85 (.node ti_149 .nil .nil) .nil) (.node ti_117 (.node ti_181 .nil .nil) .nil))) (.node ti_29 (.node ti_45 (.node ti_77 (.node ti_141 .nil .nil) (.node ti_205 .nil .nil)) (.node ti_109 (.node ti_173 .nil .nil) .nil)) (.node ti_61 (.node ti_93 (.node ti_157 .nil .nil) .nil) (.node ti_125 (.node ti_189 .nil .nil) .nil)))))) (.node ti_2 (.node ti_4 (.node ti_8 (.node ti_16 (.node ti_32 (.node ti_64 (.node ti_128 .nil .nil) (.node ti_192 .nil .nil)) (.node ti_96 (.node ti_160 .nil .nil) .nil)) (.node ti_48 (.node ti_80 (.node ti_144 .nil .nil) (.node ti_208 .nil .nil)) (.node ti_112 (.node ti_176 .nil .nil) .nil))) (.node ti_24 (.node ti_40 (.node ti_72 (.node ti_136 .nil .nil) (.node ti_200 .nil .nil)) (.node ti_104 (.node ti_168 .nil .nil) .nil)) (.node ti_56 (.node ti_88 (.node ti_152 .nil .nil) .nil) (.node ti_120 (.node ti_184 .nil .nil) .nil)))) (.node ti_12 (.node ti_20 (.node ti_36 (.node ti_68 (.node ti_132 .nil .nil) (.node ti_196 .nil .nil)) (.node ti_100 (.node ti_164 .nil .nil) .nil)) (.node ti_52 (.node ti_84 (.node ti_148 .nil .nil) (.node ti_212 .nil .nil)) (.node ti_116 (.node ti_180 .nil .nil) .nil))) (.node ti_28 (.node ti_44 (.node ti_76 (.node ti_140 .nil .nil) (.node ti_204 .nil .nil)) (.node ti_108 (.node ti_172 .nil .nil) .nil)) (.node ti_60 (.node ti_92 (.node ti_156 .nil .nil) .nil) (.node ti_124 (.node ti_188 .nil .nil) .nil))))) (.node ti_6 (.node ti_10 (.node ti_18 (.node ti_34 (.node ti_66 (.node ti_130 .nil .nil) (.node ti_194 .nil .nil)) (.node ti_98 (.node ti_162 .nil .nil) .nil)) (.node ti_50 (.node ti_82 (.node ti_146 .nil .nil) (.node ti_210 .nil .nil)) (.node ti_114 (.node ti_178 .nil .nil) .nil))) (.node ti_26 (.node ti_42 (.node ti_74 (.node ti_138 .nil .nil) (.node ti_202 .nil .nil)) (.node ti_106 (.node ti_170 .nil .nil) .nil)) (.node ti_58 (.node ti_90 (.node ti_154 .nil .nil) .nil) (.node ti_122 (.node ti_186 .nil .nil) .nil)))) (.node ti_14 (.node ti_22 (.node ti_38 (.node ti_70 (.node ti_134 .nil .nil) (.node ti_198 .nil .nil)) (.node ti_102 (.node ti_166 .nil .nil) .nil)) (.node ti_54 (.node ti_86 (.node ti_150 .nil .nil) .nil) (.node ti_118 (.node ti_182 .nil .nil) .nil))) (.node ti_30 (.node ti_46 (.node ti_78 (.node ti_142 .nil .nil) (.node ti_206 .nil .nil)) (.node ti_110 (.node ti_174 .nil .nil) .nil)) (.node ti_62 (.node ti_94 (.node ti_158 .nil .nil) .nil) (.node ti_126 (.node ti_190 .nil .nil) .nil))))))), (.node fi_0 (.node fi_1 (.node fi_3 (.node fi_7 (.node fi_15 (.node fi_31 (.node fi_63 (.node fi_127 .nil .nil) .nil) (.node fi_95 (.node fi_159 .nil .nil) .nil)) (.node fi_47 (.node fi_79 (.node fi_143 .nil .nil) .nil) (.node fi_111 .nil .nil))) (.node fi_23 (.node fi_39 (.node fi_71 (.node fi_135 .nil .nil) .nil) (.node fi_103 .nil .nil)) (.node fi_55 (.node fi_87 (.node fi_151 .nil .nil) .nil) (.node fi_119 .nil .nil)))) (.node fi_11 (.node fi_19 (.node fi_35 (.node fi_67 (.node fi_131 .nil .nil) .nil) (.node fi_99 (.node fi_163 .nil .nil) .nil)) (.node fi_51 (.node fi_83 (.node fi_147 .nil .nil) .nil) (.node fi_115 .nil .nil))) (.node fi_27 (.node fi_43 (.node fi_75 (.node fi_139 .nil .nil) .nil) (.node fi_107 .nil .nil)) (.node fi_59 (.node fi_91 (.node fi_155 .nil .nil) .nil) (.node fi_123 .nil .nil))))) (.node fi_5 (.node fi_9 (.node fi_17 (.node fi_33 (.node fi_65 (.node fi_129 .nil .nil) .nil) (.node fi_97 (.node fi_161 .nil .nil) .nil)) (.node fi_49 (.node fi_81 (.node fi_145 .nil .nil) .nil) (.node fi_113 .nil .nil))) (.node fi_25 (.node fi_41 (.node fi_73 (.node fi_137 .nil .nil) .nil) (.node fi_105 .nil .nil)) (.node fi_57 (.node fi_89 (.node fi_153 .nil .nil) .nil) (.node fi_121 .nil .nil)))) (.node fi_13 (.node fi_21 (.node fi_37 (.node fi_69 (.node fi_133 .nil .nil) .nil) (.node fi_101 .nil .nil)) (.node fi_53 (.node fi_85 (.node fi_149 .nil .nil) .nil) (.node fi_117 .nil .nil))) (.node fi_29 (.node fi_45 (.node fi_77 (.node fi_141 .nil .nil) .nil) (.node fi_109 .nil .nil)) (.node fi_61 (.node fi_93 (.node fi_157 .nil .nil) .nil) (.node fi_125 .nil .nil)))))) (.node fi_2 (.node fi_4 (.node fi_8 (.node fi_16 (.node fi_32 (.node fi_64 (.node fi_128 .nil .nil) .nil) (.node fi_96 (.node fi_160 .nil .nil) .nil)) (.node fi_48 (.node fi_80 (.node fi_144 .nil .nil) .nil) (.node fi_112 .nil .nil))) (.node fi_24 (.node fi_40 (.node fi_72 (.node fi_136 .nil .nil) .nil) (.node fi_104 .nil .nil)) (.node fi_56 (.node fi_88 (.node fi_152 .nil .nil) .nil) (.node fi_120 .nil .nil)))) (.node fi_12 (.node fi_20 (.node fi_36 (.node fi_68 (.node fi_132 .nil .nil) .nil) (.node fi_100 (.node fi_164 .nil .nil) .nil)) (.node fi_52 (.node fi_84 (.node fi_148 .nil .nil) .nil) (.node fi_116 .nil .nil))) (.node fi_28 (.node fi_44 (.node fi_76 (.node fi_140 .nil .nil) .nil) (.node fi_108 .nil .nil)) (.node fi_60 (.node fi_92 (.node fi_156 .nil .nil) .nil) (.node fi_124 .nil .nil))))) (.node fi_6 (.node fi_10 (.node fi_18 (.node fi_34 (.node fi_66 (.node fi_130 .nil .nil) .nil) (.node fi_98 (.node fi_162 .nil .nil) .nil)) (.node fi_50 (.node fi_82 (.node fi_146 .nil .nil) .nil) (.node fi_114 .nil .nil))) (.node fi_26 (.node fi_42 (.node fi_74 (.node fi_138 .nil .nil) .nil) (.node fi_106 .nil .nil)) (.node fi_58 (.node fi_90 (.node fi_154 .nil .nil) .nil) (.node fi_122 .nil .nil)))) (.node fi_14 (.node fi_22 (.node fi_38 (.node fi_70 (.node fi_134 .nil .nil) .nil) (.node fi_102 .nil .nil)) (.node fi_54 (.node fi_86 (.node fi_150 .nil .nil) .nil) (.node fi_118 .nil .nil))) (.node fi_30 (.node fi_46 (.node fi_78 (.node fi_142 .nil .nil) .nil) (.node fi_110 .nil .nil)) (.node fi_62 (.node fi_94 (.node fi_158 .nil .nil) .nil) (.node fi_126 .nil .nil)))))))⟩
theorem Tok : TbOk Pr Dt := tbOk_of (by kernel_rfl) (by kernel_rfl) (by kernel_rfl)

def A_damperlaw4_ShelfOwn : Ann := (.seq .auto (.seq .auto (.seq .auto (.seq .auto (.seq .auto (.seq .auto (.seq (.seq .auto (.one [(13, (.one (.int .i64)))] .auto) none) (.seq .auto (.seq .auto (.seq (.seq .auto (.one [(17, (.one (.int .i64)))] .auto) none) .auto none) none) none) none) none) none) none) none) none) none)
/-- damper/damperlaw4.ShelfOwn -/
def F_damperlaw4_ShelfOwn (p0 : Int) (p1 : Sl) (p2 : Int) (K : Value → PT) : PT :=
  L.call Pr n_damperlaw4_known [] (.one (.one (.bool))) fun (x1 : Bool) =>
  L.ite (!x1) (
    K (.bool false)) <|
  L.call Pr n_shelf_New [] (.one (.one (.ptr))) fun (x2 : Option Addr) =>
  L.call Pr n_shelf_New [] (.one (.one (.ptr))) fun (x3 : Option Addr) =>
  L.ite ((x2).isNone) (
    K (.bool false)) <|
  L.ite ((x3).isNone) (
    K (.bool false)) <|
  L.call Pr n_damperlaw2_Route [.int .i64 p0, .slice p1.a p1.len p1.cap, .int .i64 p2] (.one (.agg [.str, .str, .slice, .int .i64])) fun (x4 : ByteArray × ByteArray × Sl × Int × Unit) =>
  L.call Pr n_damperlaw2_Route [.int .i64 p0, .slice p1.a p1.len p1.cap, .int .i64 p2] (.one (.agg [.str, .str, .slice, .int .i64])) fun (x5 : ByteArray × ByteArray × Sl × Int × Unit) =>
  L.new [.string s_, .string s_, .slice none 0 0, .int .i64 0] T_api_Route fun b6 =>
  L.new [.string s_, .string s_, .slice none 0 0, .int .i64 0] T_api_Route fun b7 =>
  L.store (⟨b6, 0, none⟩) [.string x4.1, .string x4.2.1, .slice x4.2.2.1.a x4.2.2.1.len x4.2.2.1.cap, .int .i64 x4.2.2.2.1] <|
  L.store (⟨b7, 0, none⟩) [.string x5.1, .string x5.2.1, .slice x5.2.2.1.a x5.2.2.1.len x5.2.2.1.cap, .int .i64 x5.2.2.2.1] <|
  L.load (.agg [.str, .str, .slice, .int .i64]) (⟨b6, 0, none⟩) fun (x8 : ByteArray × ByteArray × Sl × Int × Unit) =>
  L.call Pr n_shelf_Shelf_PutRoute [.pointer x2, .agg #[.string x8.1, .string x8.2.1, .slice x8.2.2.1.a x8.2.2.1.len x8.2.2.1.cap, .int .i64 x8.2.2.2.1], .int .i64 0] (.tup [(.one (.int .i64)), (.one (.int .i64))]) fun (x9 : Int × Int × Unit) =>
  L.ite (x9.2.1 != 0) (
    K (.bool false)) <|
  L.loop (Y := Int × Unit) (0, ()) fun y10 again11 =>
  L.load (.one (.slice)) ((⟨b6, 0, none⟩ : Addr).add 2) fun (x12 : Sl) =>
  L.ite (decide (y10.1 < ((x12.len : Nat) : Int))) (
    L.load (.one (.slice)) ((⟨b6, 0, none⟩ : Addr).add 2) fun (x13 : Sl) =>
    L.idx x13.a y10.1 x13.len 3 fun a14 =>
    L.store a14 [.string s_, .string s_q, .int .i64 0] <|
    again11 (IntKind.wrap .i64 (y10.1 + 1), ())) <|
  L.load (.one (.str)) ((⟨b7, 0, none⟩ : Addr).add 0) fun (x15 : ByteArray) =>
  L.call Pr n_shelf_Shelf_Route [.pointer x2, .string x15] (.tup [(.agg [.str, .str, .slice, .int .i64]), (.one (.int .i64)), (.one (.bool))]) fun (x16 : (ByteArray × ByteArray × Sl × Int × Unit) × Int × Bool × Unit) =>
  L.new [.string s_, .string s_, .slice none 0 0, .int .i64 0] T_api_Route fun b17 =>
  L.store (⟨b17, 0, none⟩) [.string x16.1.1, .string x16.1.2.1, .slice x16.1.2.2.1.a x16.1.2.2.1.len x16.1.2.2.1.cap, .int .i64 x16.1.2.2.2.1] <|
  L.ite (!x16.2.2.1) (
    K (.bool false)) <|
  L.load (.agg [.str, .str, .slice, .int .i64]) (⟨b17, 0, none⟩) fun (x18 : ByteArray × ByteArray × Sl × Int × Unit) =>
  L.load (.agg [.str, .str, .slice, .int .i64]) (⟨b7, 0, none⟩) fun (x19 : ByteArray × ByteArray × Sl × Int × Unit) =>
  L.call Pr n_damperref2_SameRoute [.agg #[.string x18.1, .string x18.2.1, .slice x18.2.2.1.a x18.2.2.1.len x18.2.2.1.cap, .int .i64 x18.2.2.2.1], .agg #[.string x19.1, .string x19.2.1, .slice x19.2.2.1.a x19.2.2.1.len x19.2.2.1.cap, .int .i64 x19.2.2.2.1]] (.one (.one (.bool))) fun (x20 : Bool) =>
  L.ite (!x20) (
    K (.bool false)) <|
  L.loop (Y := Int × Unit) (0, ()) fun y21 again22 =>
  L.load (.one (.slice)) ((⟨b17, 0, none⟩ : Addr).add 2) fun (x23 : Sl) =>
  L.ite (decide (y21.1 < ((x23.len : Nat) : Int))) (
    L.load (.one (.slice)) ((⟨b17, 0, none⟩ : Addr).add 2) fun (x24 : Sl) =>
    L.idx x24.a y21.1 x24.len 3 fun a25 =>
    L.store a25 [.string s_, .string s_p, .int .i64 0] <|
    again22 (IntKind.wrap .i64 (y21.1 + 1), ())) <|
  L.load (.one (.str)) ((⟨b7, 0, none⟩ : Addr).add 0) fun (x26 : ByteArray) =>
  L.call Pr n_shelf_Shelf_Route [.pointer x2, .string x26] (.tup [(.agg [.str, .str, .slice, .int .i64]), (.one (.int .i64)), (.one (.bool))]) fun (x27 : (ByteArray × ByteArray × Sl × Int × Unit) × Int × Bool × Unit) =>
  L.new [.string s_, .string s_, .slice none 0 0, .int .i64 0] T_api_Route fun b28 =>
  L.store (⟨b28, 0, none⟩) [.string x27.1.1, .string x27.1.2.1, .slice x27.1.2.2.1.a x27.1.2.2.1.len x27.1.2.2.1.cap, .int .i64 x27.1.2.2.2.1] <|
  L.load (.one (.str)) ((⟨b7, 0, none⟩ : Addr).add 0) fun (x29 : ByteArray) =>
  L.call Pr n_shelf_Shelf_Route [.pointer x3, .string x29] (.tup [(.agg [.str, .str, .slice, .int .i64]), (.one (.int .i64)), (.one (.bool))]) fun (x30 : (ByteArray × ByteArray × Sl × Int × Unit) × Int × Bool × Unit) =>
  L.new [.string s_, .string s_, .slice none 0 0, .int .i64 0] T_api_Route fun b31 =>
  L.store (⟨b31, 0, none⟩) [.string x30.1.1, .string x30.1.2.1, .slice x30.1.2.2.1.a x30.1.2.2.1.len x30.1.2.2.1.cap, .int .i64 x30.1.2.2.2.1] <|
  L.load (.agg [.str, .str, .slice, .int .i64]) (⟨b28, 0, none⟩) fun (x32 : ByteArray × ByteArray × Sl × Int × Unit) =>
  L.load (.agg [.str, .str, .slice, .int .i64]) (⟨b7, 0, none⟩) fun (x33 : ByteArray × ByteArray × Sl × Int × Unit) =>
  L.call Pr n_damperref2_SameRoute [.agg #[.string x32.1, .string x32.2.1, .slice x32.2.2.1.a x32.2.2.1.len x32.2.2.1.cap, .int .i64 x32.2.2.2.1], .agg #[.string x33.1, .string x33.2.1, .slice x33.2.2.1.a x33.2.2.1.len x33.2.2.1.cap, .int .i64 x33.2.2.2.1]] (.one (.one (.bool))) fun (x34 : Bool) =>
  L.ite x34 (
    L.ite (!x30.2.2.1) (
      L.call Pr n_shelf_Shelf_Names [.pointer x3, .int .i64 2] (.one (.one (.slice))) fun (x35 : Sl) =>
      K (.bool (((x35.len : Nat) : Int) == 0))) <|
    K (.bool false)) <|
  K (.bool false)
theorem D_damperlaw4_ShelfOwn (p0 : Int) (p1 : Sl) (p2 : Int) (K : Value → PT) : denF Pr Dt Tryz.f3 A_damperlaw4_ShelfOwn [.v (.int .i64 p0), .v (.slice p1.a p1.len p1.cap), .v (.int .i64 p2)] K = F_damperlaw4_ShelfOwn p0 p1 p2 K := by kernel_rfl
theorem C_damperlaw4_ShelfOwn (p0 : Int) (p1 : Sl) (p2 : Int) {K : Value → PT} {w : World} (h : F_damperlaw4_ShelfOwn p0 p1 p2 K w) : Calls Pr n_damperlaw4_ShelfOwn [.int .i64 p0, .slice p1.a p1.len p1.cap, .int .i64 p2].toArray w fun e w2 => ∃ v, e = .returned v ∧ K v w2 :=
  denF_ok Tok (f := 3) (fn := Tryz.f3) (an := A_damperlaw4_ShelfOwn) (args := [.v (.int .i64 p0), .v (.slice p1.a p1.len p1.cap), .v (.int .i64 p2)]) (by kernel_rfl) (by kernel_rfl) ((congrFun (D_damperlaw4_ShelfOwn p0 p1 p2 K) w).mpr h)
theorem E_damperlaw4_ShelfOwn : Enters Pr n_damperlaw4_ShelfOwn := enters_of_B (by kernel_rfl)

def A_damperlaw4_ShelfVersions : Ann := (.seq .auto (.seq .auto (.seq .auto (.seq .auto (.seq .auto (.seq .auto (.seq .auto (.seq (.seq .auto (.one [(4, (.one (.int .i64))), (7, (.one (.int .i64)))] (.seq (.seq .auto (.cond .auto .auto) none) (.seq (.seq .auto (.seq (.seq .auto (.cond (.seq (.seq .auto (.cond .auto .auto) none) .auto (some [])) .auto) none) (.seq .auto (.seq .auto .auto (some [(10, (.one (.int .i64))), (11, (.one (.int .i64)))])) none) none) none) .auto (some [(4, (.one (.int .i64)))])) none)) none) .auto (some [])) none) none) none) none) none) none) none)
/-- damper/damperlaw4.ShelfVersions -/
def F_damperlaw4_ShelfVersions (p0 : Sl) (K : Value → PT) : PT :=
  L.call Pr n_damperlaw4_known [] (.one (.one (.bool))) fun (x1 : Bool) =>
  L.ite (!x1) (
    K (.bool false)) <|
  L.call Pr n_shelf_New [] (.one (.one (.ptr))) fun (x2 : Option Addr) =>
  L.ite ((x2).isNone) (
    K (.bool false)) <|
  L.new [.int .i64 0, .int .i64 0, .int .i64 0, .int .i64 0, .int .i64 0, .int .i64 0] T_2_3_int fun b3 =>
  L.store (⟨b3, 0, none⟩) [.int .i64 0, .int .i64 0, .int .i64 0, .int .i64 0, .int .i64 0, .int .i64 0] <|
  L.new [.string s_web, .string s_api, .string s_a_b] T_string fun b4 =>
  L.new [.string s_front, .string s_back, .string s_r_1] T_string fun b5 =>
  L.new [.slice none 0 0, .slice none 0 0] T_2_s_string fun b6 =>
  L.store (⟨b6, 0, none⟩) [.slice (some ⟨b4, 0, none⟩) 3 3, .slice (some ⟨b5, 0, none⟩) 3 3] <|
  L.join (Y := Unit) (fun k7 =>
    L.loop (Y := Int × Int × Unit) (0, 0, ()) fun y9 again10 =>
    L.ite (decide (y9.2.1 < ((p0.len : Nat) : Int))) (
      L.ite (decide (y9.2.1 < 60)) (
        L.join (Y := Int × Unit) (fun k11 =>
          L.draw <|
          L.idx p0.a y9.2.1 p0.len 10 fun a13 =>
          L.load (.one (.int .i64)) (a13.add 0) fun (x14 : Int) =>
          L.idx p0.a y9.2.1 p0.len 10 fun a15 =>
          L.load (.one (.int .i64)) (a15.add 1) fun (x16 : Int) =>
          L.call Pr n_damperlaw4_within [.int .i64 x14, .int .i64 2] (.one (.one (.int .i64))) fun (x17 : Int) =>
          L.chk (a15.add 1) [.int .i64 x16] <|
          L.call Pr n_damperlaw4_within [.int .i64 x16, .int .i64 3] (.one (.one (.int .i64))) fun (x18 : Int) =>
          L.idx p0.a y9.2.1 p0.len 10 fun a19 =>
          L.load (.one (.int .i64)) (a19.add 2) fun (x20 : Int) =>
          L.call Pr n_damperlaw4_within [.int .i64 x20, .int .i64 5] (.one (.one (.int .i64))) fun (x21 : Int) =>
          L.ite (x21 == 0) (
            L.join (Y := Unit) (fun k22 =>
              L.idx (some (⟨b6, 0, none⟩)) x17 2 1 fun a24 =>
              L.load (.one (.slice)) a24 fun (x25 : Sl) =>
              L.idx x25.a x18 x25.len 1 fun a26 =>
              L.load (.one (.str)) a26 fun (x27 : ByteArray) =>
              L.call Pr n_shelf_Shelf_Drop [.pointer x2, .int .i64 (IntKind.wrap .i64 (x17 + 1)), .string x27, .int .i64 (IntKind.wrap .i64 (y9.1 + 5))] (.one (.one (.int .i64))) fun (x28 : Int) =>
              L.ite (x28 != 7) (
                L.idx (some (⟨b6, 0, none⟩)) x17 2 1 fun a29 =>
                L.load (.one (.slice)) a29 fun (x30 : Sl) =>
                L.idx x30.a x18 x30.len 1 fun a31 =>
                L.load (.one (.str)) a31 fun (x32 : ByteArray) =>
                L.call Pr n_shelf_Shelf_Drop [.pointer x2, .int .i64 (IntKind.wrap .i64 (x17 + 1)), .string x32, .int .i64 (IntKind.wrap .i64 (y9.1 + 5))] (.one (.one (.int .i64))) fun (x33 : Int) =>
                L.ite (x33 != 6) (
                  K (.bool false)) <|
                k22 (())) <|
              k22 (())) fun z23 =>
            L.idx (some (⟨b3, 0, none⟩)) x17 2 3 fun a34 =>
            L.idx (some a34) x18 3 1 fun a35 =>
            L.load (.one (.int .i64)) a35 fun (x36 : Int) =>
            L.ite (decide (x36 > 0)) (
              L.draw <|
              L.idx (some (⟨b6, 0, none⟩)) x17 2 1 fun a37 =>
              L.load (.one (.slice)) a37 fun (x38 : Sl) =>
              L.idx x38.a x18 x38.len 1 fun a39 =>
              L.load (.one (.str)) a39 fun (x40 : ByteArray) =>
              L.idx (some (⟨b3, 0, none⟩)) x17 2 3 fun a41 =>
              L.idx (some a41) x18 3 1 fun a42 =>
              L.load (.one (.int .i64)) a42 fun (x43 : Int) =>
              L.call Pr n_shelf_Shelf_Drop [.pointer x2, .int .i64 (IntKind.wrap .i64 (x17 + 1)), .string x40, .int .i64 x43] (.one (.one (.int .i64))) fun (x44 : Int) =>
              L.ite (x44 != 0) (
                K (.bool false)) <|
              L.idx (some (⟨b3, 0, none⟩)) x17 2 3 fun a45 =>
              L.idx (some a45) x18 3 1 fun a46 =>
              L.store a46 [.int .i64 0] <|
              k11 (IntKind.wrap .i64 (y9.1 + 1), ())) <|
            k11 (y9.1, ())) <|
          L.join (Y := Int × Int × Unit) (fun k47 =>
            L.ite (x17 == 0) (
              L.idx p0.a y9.2.1 p0.len 10 fun a49 =>
              L.load (.agg [.str, .int .i64, .int .i64, .int .i64, .int .i64, .int .i64]) (a49.add 3) fun (x50 : ByteArray × Int × Int × Int × Int × Int × Unit) =>
              L.call Pr n_damperlaw2_Config [.agg #[.string x50.1, .int .i64 x50.2.1, .int .i64 x50.2.2.1, .int .i64 x50.2.2.2.1, .int .i64 x50.2.2.2.2.1, .int .i64 x50.2.2.2.2.2.1], .int .i64 0] (.one (.agg [.str, .int .i64, .int .i64, .int .i64, .int .i64, .int .i64])) fun (x51 : ByteArray × Int × Int × Int × Int × Int × Unit) =>
              L.new [.string s_, .int .i64 0, .int .i64 0, .int .i64 0, .int .i64 0, .int .i64 0] T_api_Config fun b52 =>
              L.store (⟨b52, 0, none⟩) [.string x51.1, .int .i64 x51.2.1, .int .i64 x51.2.2.1, .int .i64 x51.2.2.2.1, .int .i64 x51.2.2.2.2.1, .int .i64 x51.2.2.2.2.2.1] <|
              L.idx (some (⟨b6, 0, none⟩)) 0 2 1 fun a53 =>
              L.load (.one (.slice)) a53 fun (x54 : Sl) =>
              L.idx x54.a x18 x54.len 1 fun a55 =>
              L.load (.one (.str)) a55 fun (x56 : ByteArray) =>
              L.store ((⟨b52, 0, none⟩ : Addr).add 0) [.string x56] <|
              L.draw <|
              L.load (.agg [.str, .int .i64, .int .i64, .int .i64, .int .i64, .int .i64]) (⟨b52, 0, none⟩) fun (x57 : ByteArray × Int × Int × Int × Int × Int × Unit) =>
              L.idx (some (⟨b3, 0, none⟩)) x17 2 3 fun a58 =>
              L.idx (some a58) x18 3 1 fun a59 =>
              L.load (.one (.int .i64)) a59 fun (x60 : Int) =>
              L.call Pr n_shelf_Shelf_PutConfig [.pointer x2, .agg #[.string x57.1, .int .i64 x57.2.1, .int .i64 x57.2.2.1, .int .i64 x57.2.2.2.1, .int .i64 x57.2.2.2.2.1, .int .i64 x57.2.2.2.2.2.1], .int .i64 x60] (.tup [(.one (.int .i64)), (.one (.int .i64))]) fun (x61 : Int × Int × Unit) =>
              k47 (x61.1, x61.2.1, ())) <|
            L.idx p0.a y9.2.1 p0.len 10 fun a62 =>
            L.load (.one (.slice)) (a62.add 9) fun (x63 : Sl) =>
            L.call Pr n_damperlaw2_Route [.int .i64 0, .slice x63.a x63.len x63.cap, .int .i64 0] (.one (.agg [.str, .str, .slice, .int .i64])) fun (x64 : ByteArray × ByteArray × Sl × Int × Unit) =>
            L.new [.string s_, .string s_, .slice none 0 0, .int .i64 0] T_api_Route fun b65 =>
            L.store (⟨b65, 0, none⟩) [.string x64.1, .string x64.2.1, .slice x64.2.2.1.a x64.2.2.1.len x64.2.2.1.cap, .int .i64 x64.2.2.2.1] <|
            L.idx (some (⟨b6, 0, none⟩)) 1 2 1 fun a66 =>
            L.load (.one (.slice)) a66 fun (x67 : Sl) =>
            L.idx x67.a x18 x67.len 1 fun a68 =>
            L.load (.one (.str)) a68 fun (x69 : ByteArray) =>
            L.store ((⟨b65, 0, none⟩ : Addr).add 0) [.string x69] <|
            L.draw <|
            L.load (.agg [.str, .str, .slice, .int .i64]) (⟨b65, 0, none⟩) fun (x70 : ByteArray × ByteArray × Sl × Int × Unit) =>
            L.idx (some (⟨b3, 0, none⟩)) x17 2 3 fun a71 =>
            L.idx (some a71) x18 3 1 fun a72 =>
            L.load (.one (.int .i64)) a72 fun (x73 : Int) =>
            L.call Pr n_shelf_Shelf_PutRoute [.pointer x2, .agg #[.string x70.1, .string x70.2.1, .slice x70.2.2.1.a x70.2.2.1.len x70.2.2.1.cap, .int .i64 x70.2.2.2.1], .int .i64 x73] (.tup [(.one (.int .i64)), (.one (.int .i64))]) fun (x74 : Int × Int × Unit) =>
            k47 (x74.1, x74.2.1, ())) fun z48 =>
          L.ite (z48.2.1 != 0) (
            K (.bool false)) <|
          L.ite (z48.1 != (IntKind.wrap .i64 (y9.1 + 1))) (
            K (.bool false)) <|
          L.idx (some (⟨b3, 0, none⟩)) x17 2 3 fun a75 =>
          L.idx (some a75) x18 3 1 fun a76 =>
          L.store a76 [.int .i64 z48.1] <|
          k11 (IntKind.wrap .i64 (y9.1 + 1), ())) fun z12 =>
        again10 (z12.1, IntKind.wrap .i64 (y9.2.1 + 1), ())) <|
      k7 (())) <|
    k7 (())) fun z8 =>
  K (.bool true)
theorem D_damperlaw4_ShelfVersions (p0 : Sl) (K : Value → PT) : denF Pr Dt Tryz.f4 A_damperlaw4_ShelfVersions [.v (.slice p0.a p0.len p0.cap)] K = F_damperlaw4_ShelfVersions p0 K := by kernel_rfl
theorem C_damperlaw4_ShelfVersions (p0 : Sl) {K : Value → PT} {w : World} (h : F_damperlaw4_ShelfVersions p0 K w) : Calls Pr n_damperlaw4_ShelfVersions [.slice p0.a p0.len p0.cap].toArray w fun e w2 => ∃ v, e = .returned v ∧ K v w2 :=
  denF_ok Tok (f := 4) (fn := Tryz.f4) (an := A_damperlaw4_ShelfVersions) (args := [.v (.slice p0.a p0.len p0.cap)]) (by kernel_rfl) (by kernel_rfl) ((congrFun (D_damperlaw4_ShelfVersions p0 K) w).mpr h)
theorem E_damperlaw4_ShelfVersions : Enters Pr n_damperlaw4_ShelfVersions := enters_of_B (by kernel_rfl)

def A_damperlaw4_ShelfPlays : Ann := (.seq .auto (.seq .auto (.seq .auto (.seq .auto (.seq (.seq .auto (.one [(5, (.one (.int .i64)))] (.seq (.seq .auto (.cond .auto .auto) none) (.seq (.seq .auto (.seq (.seq .auto (.seq .auto (.cond (.seq .auto (.seq .auto .auto (some [])) none) (.seq .auto (.cond (.seq .auto (.seq .auto .auto (some [])) none) .auto) (some [(116, (.one (.bool)))]))) (some [(73, (.one (.bool)))])) none) .auto (some [])) none) .auto none) none)) none) .auto (some [])) none) none) none) none)
/-- damper/damperlaw4.ShelfPlays -/
def F_damperlaw4_ShelfPlays (p0 : Sl) (K : Value → PT) : PT :=
  L.call Pr n_damperlaw4_known [] (.one (.one (.bool))) fun (x1 : Bool) =>
  L.ite (!x1) (
    K (.bool false)) <|
  L.call Pr n_shelf_New [] (.one (.one (.ptr))) fun (x2 : Option Addr) =>
  L.new [.slice none 0 0, .int .i64 0] T_damperref4_Shelf fun b3 =>
  L.ite ((x2).isNone) (
    K (.bool false)) <|
  L.join (Y := Unit) (fun k4 =>
    L.loop (Y := Int × Unit) (0, ()) fun y6 again7 =>
    L.ite (decide (y6.1 < ((p0.len : Nat) : Int))) (
      L.ite (decide (y6.1 < 50)) (
        L.idx p0.a y6.1 p0.len 10 fun a8 =>
        L.load (.agg [.int .i64, .int .i64, .int .i64, .str, .int .i64, .int .i64, .int .i64, .int .i64, .int .i64, .slice]) a8 fun (x9 : Int × Int × Int × ByteArray × Int × Int × Int × Int × Int × Sl × Unit) =>
        L.new [.int .i64 0, .int .i64 0, .int .i64 0, .string s_, .int .i64 0, .int .i64 0, .int .i64 0, .int .i64 0, .int .i64 0, .slice none 0 0] T_damperlaw4_Call fun b10 =>
        L.store (⟨b10, 0, none⟩) [.int .i64 x9.1, .int .i64 x9.2.1, .int .i64 x9.2.2.1, .string x9.2.2.2.1, .int .i64 x9.2.2.2.2.1, .int .i64 x9.2.2.2.2.2.1, .int .i64 x9.2.2.2.2.2.2.1, .int .i64 x9.2.2.2.2.2.2.2.1, .int .i64 x9.2.2.2.2.2.2.2.2.1, .slice x9.2.2.2.2.2.2.2.2.2.1.a x9.2.2.2.2.2.2.2.2.2.1.len x9.2.2.2.2.2.2.2.2.2.1.cap] <|
        L.join (Y := Unit) (fun k11 =>
          L.load (.one (.int .i64)) ((⟨b10, 0, none⟩ : Addr).add 0) fun (x13 : Int) =>
          L.call Pr n_damperlaw4_within [.int .i64 x13, .int .i64 8] (.one (.one (.int .i64))) fun (x14 : Int) =>
          L.join (Y := Bool × Unit) (fun k15 =>
            L.ite (x14 == 0) (
              k15 (x14 == 0, ())) <|
            L.ite (x14 == 1) (
              k15 (x14 == 1, ())) <|
            k15 (x14 == 2, ())) fun z16 =>
          L.ite z16.1 (
            L.load (.agg [.str, .int .i64, .int .i64, .int .i64, .int .i64, .int .i64]) ((⟨b10, 0, none⟩ : Addr).add 3) fun (x17 : ByteArray × Int × Int × Int × Int × Int × Unit) =>
            L.load (.one (.int .i64)) ((⟨b10, 0, none⟩ : Addr).add 1) fun (x18 : Int) =>
            L.call Pr n_damperlaw2_Config [.agg #[.string x17.1, .int .i64 x17.2.1, .int .i64 x17.2.2.1, .int .i64 x17.2.2.2.1, .int .i64 x17.2.2.2.2.1, .int .i64 x17.2.2.2.2.2.1], .int .i64 x18] (.one (.agg [.str, .int .i64, .int .i64, .int .i64, .int .i64, .int .i64])) fun (x19 : ByteArray × Int × Int × Int × Int × Int × Unit) =>
            L.new [.string s_, .int .i64 0, .int .i64 0, .int .i64 0, .int .i64 0, .int .i64 0] T_api_Config fun b20 =>
            L.store (⟨b20, 0, none⟩) [.string x19.1, .int .i64 x19.2.1, .int .i64 x19.2.2.1, .int .i64 x19.2.2.2.1, .int .i64 x19.2.2.2.2.1, .int .i64 x19.2.2.2.2.2.1] <|
            L.join (Y := Unit) (fun k21 =>
              L.load (.one (.int .i64)) ((⟨b10, 0, none⟩ : Addr).add 2) fun (x23 : Int) =>
              L.call Pr n_damperlaw4_within [.int .i64 x23, .int .i64 17] (.one (.one (.int .i64))) fun (x24 : Int) =>
              L.ite (x24 == 0) (
                L.load (.agg [.str, .int .i64, .int .i64, .int .i64, .int .i64, .int .i64]) ((⟨b10, 0, none⟩ : Addr).add 3) fun (x25 : ByteArray × Int × Int × Int × Int × Int × Unit) =>
                L.store (⟨b20, 0, none⟩) [.string x25.1, .int .i64 x25.2.1, .int .i64 x25.2.2.1, .int .i64 x25.2.2.2.1, .int .i64 x25.2.2.2.2.1, .int .i64 x25.2.2.2.2.2.1] <|
                k21 (())) <|
              k21 (())) fun z22 =>
            L.load (.one (.str)) ((⟨b20, 0, none⟩ : Addr).add 0) fun (x26 : ByteArray) =>
            L.load (.one (.int .i64)) ((⟨b10, 0, none⟩ : Addr).add 2) fun (x27 : Int) =>
            L.call Pr n_damperlaw4_version [.pointer (some (⟨b3, 0, none⟩)), .int .i64 1, .string x26, .int .i64 x27] (.one (.one (.int .i64))) fun (x28 : Int) =>
            L.load (.agg [.str, .int .i64, .int .i64, .int .i64, .int .i64, .int .i64]) (⟨b20, 0, none⟩) fun (x29 : ByteArray × Int × Int × Int × Int × Int × Unit) =>
            L.call Pr n_shelf_Shelf_PutConfig [.pointer x2, .agg #[.string x29.1, .int .i64 x29.2.1, .int .i64 x29.2.2.1, .int .i64 x29.2.2.2.1, .int .i64 x29.2.2.2.2.1, .int .i64 x29.2.2.2.2.2.1], .int .i64 x28] (.tup [(.one (.int .i64)), (.one (.int .i64))]) fun (x30 : Int × Int × Unit) =>
            L.load (.agg [.str, .int .i64, .int .i64, .int .i64, .int .i64, .int .i64]) (⟨b20, 0, none⟩) fun (x31 : ByteArray × Int × Int × Int × Int × Int × Unit) =>
            L.call Pr n_damperref4_Shelf_PutConfig [.pointer (some (⟨b3, 0, none⟩)), .agg #[.string x31.1, .int .i64 x31.2.1, .int .i64 x31.2.2.1, .int .i64 x31.2.2.2.1, .int .i64 x31.2.2.2.2.1, .int .i64 x31.2.2.2.2.2.1], .int .i64 x28] (.tup [(.one (.int .i64)), (.one (.int .i64))]) fun (x32 : Int × Int × Unit) =>
            L.ite (x30.1 != x32.1) (
              K (.bool false)) <|
            L.ite (x30.2.1 != x32.2.1) (
              K (.bool false)) <|
            k11 (())) <|
          L.join (Y := Bool × Unit) (fun k33 =>
            L.ite (x14 == 3) (
              k33 (x14 == 3, ())) <|
            L.ite (x14 == 4) (
              k33 (x14 == 4, ())) <|
            k33 (x14 == 5, ())) fun z34 =>
          L.ite z34.1 (
            L.load (.one (.int .i64)) ((⟨b10, 0, none⟩ : Addr).add 1) fun (x35 : Int) =>
            L.load (.one (.slice)) ((⟨b10, 0, none⟩ : Addr).add 9) fun (x36 : Sl) =>
            L.load (.one (.int .i64)) ((⟨b10, 0, none⟩ : Addr).add 2) fun (x37 : Int) =>
            L.call Pr n_damperlaw2_Route [.int .i64 x35, .slice x36.a x36.len x36.cap, .int .i64 x37] (.one (.agg [.str, .str, .slice, .int .i64])) fun (x38 : ByteArray × ByteArray × Sl × Int × Unit) =>
            L.new [.string s_, .string s_, .slice none 0 0, .int .i64 0] T_api_Route fun b39 =>
            L.store (⟨b39, 0, none⟩) [.string x38.1, .string x38.2.1, .slice x38.2.2.1.a x38.2.2.1.len x38.2.2.1.cap, .int .i64 x38.2.2.2.1] <|
            L.join (Y := Unit) (fun k40 =>
              L.load (.one (.int .i64)) ((⟨b10, 0, none⟩ : Addr).add 2) fun (x42 : Int) =>
              L.call Pr n_damperlaw4_within [.int .i64 x42, .int .i64 17] (.one (.one (.int .i64))) fun (x43 : Int) =>
              L.ite (x43 == 0) (
                L.load (.one (.int .i64)) ((⟨b10, 0, none⟩ : Addr).add 2) fun (x44 : Int) =>
                L.store ((⟨b39, 0, none⟩ : Addr).add 3) [.int .i64 x44] <|
                k40 (())) <|
              k40 (())) fun z41 =>
            L.load (.one (.str)) ((⟨b39, 0, none⟩ : Addr).add 0) fun (x45 : ByteArray) =>
            L.load (.one (.int .i64)) ((⟨b10, 0, none⟩ : Addr).add 2) fun (x46 : Int) =>
            L.call Pr n_damperlaw4_version [.pointer (some (⟨b3, 0, none⟩)), .int .i64 2, .string x45, .int .i64 x46] (.one (.one (.int .i64))) fun (x47 : Int) =>
            L.load (.agg [.str, .str, .slice, .int .i64]) (⟨b39, 0, none⟩) fun (x48 : ByteArray × ByteArray × Sl × Int × Unit) =>
            L.call Pr n_shelf_Shelf_PutRoute [.pointer x2, .agg #[.string x48.1, .string x48.2.1, .slice x48.2.2.1.a x48.2.2.1.len x48.2.2.1.cap, .int .i64 x48.2.2.2.1], .int .i64 x47] (.tup [(.one (.int .i64)), (.one (.int .i64))]) fun (x49 : Int × Int × Unit) =>
            L.load (.agg [.str, .str, .slice, .int .i64]) (⟨b39, 0, none⟩) fun (x50 : ByteArray × ByteArray × Sl × Int × Unit) =>
            L.call Pr n_damperref4_Shelf_PutRoute [.pointer (some (⟨b3, 0, none⟩)), .agg #[.string x50.1, .string x50.2.1, .slice x50.2.2.1.a x50.2.2.1.len x50.2.2.1.cap, .int .i64 x50.2.2.2.1], .int .i64 x47] (.tup [(.one (.int .i64)), (.one (.int .i64))]) fun (x51 : Int × Int × Unit) =>
            L.ite (x49.1 != x51.1) (
              K (.bool false)) <|
            L.ite (x49.2.1 != x51.2.1) (
              K (.bool false)) <|
            k11 (())) <|
          L.load (.one (.int .i64)) ((⟨b10, 0, none⟩ : Addr).add 0) fun (x52 : Int) =>
          L.guard (8 ≠ (0 : Int)) <|
          L.call Pr n_damperlaw4_within [.int .i64 (IntKind.wrap .i64 (Int.tdiv x52 8)), .int .i64 3] (.one (.one (.int .i64))) fun (x53 : Int) =>
          L.new [.string s_web, .string s_api, .string s_a_b, .string s_front, .string s_back, .string s_r_1] T_string fun b54 =>
          L.load (.one (.int .i64)) ((⟨b10, 0, none⟩ : Addr).add 1) fun (x55 : Int) =>
          L.call Pr n_damperlaw4_within [.int .i64 x55, .int .i64 6] (.one (.one (.int .i64))) fun (x56 : Int) =>
          L.idx (some ⟨b54, 0, none⟩) x56 6 1 fun a57 =>
          L.load (.one (.str)) a57 fun (x58 : ByteArray) =>
          L.load (.one (.int .i64)) ((⟨b10, 0, none⟩ : Addr).add 2) fun (x59 : Int) =>
          L.call Pr n_damperlaw4_version [.pointer (some (⟨b3, 0, none⟩)), .int .i64 x53, .string x58, .int .i64 x59] (.one (.one (.int .i64))) fun (x60 : Int) =>
          L.call Pr n_shelf_Shelf_Drop [.pointer x2, .int .i64 x53, .string x58, .int .i64 x60] (.one (.one (.int .i64))) fun (x61 : Int) =>
          L.call Pr n_damperref4_Shelf_Drop [.pointer (some (⟨b3, 0, none⟩)), .int .i64 x53, .string x58, .int .i64 x60] (.one (.one (.int .i64))) fun (x62 : Int) =>
          L.ite (x61 != x62) (
            K (.bool false)) <|
          k11 (())) fun z12 =>
        L.call Pr n_damperlaw4_same [.pointer x2, .pointer (some (⟨b3, 0, none⟩))] (.one (.one (.bool))) fun (x63 : Bool) =>
        L.ite (!x63) (
          K (.bool false)) <|
        again7 (IntKind.wrap .i64 (y6.1 + 1), ())) <|
      k4 (())) <|
    k4 (())) fun z5 =>
  K (.bool true)
theorem D_damperlaw4_ShelfPlays (p0 : Sl) (K : Value → PT) : denF Pr Dt Tryz.f5 A_damperlaw4_ShelfPlays [.v (.slice p0.a p0.len p0.cap)] K = F_damperlaw4_ShelfPlays p0 K := by kernel_rfl
theorem C_damperlaw4_ShelfPlays (p0 : Sl) {K : Value → PT} {w : World} (h : F_damperlaw4_ShelfPlays p0 K w) : Calls Pr n_damperlaw4_ShelfPlays [.slice p0.a p0.len p0.cap].toArray w fun e w2 => ∃ v, e = .returned v ∧ K v w2 :=
  denF_ok Tok (f := 5) (fn := Tryz.f5) (an := A_damperlaw4_ShelfPlays) (args := [.v (.slice p0.a p0.len p0.cap)]) (by kernel_rfl) (by kernel_rfl) ((congrFun (D_damperlaw4_ShelfPlays p0 K) w).mpr h)
theorem E_damperlaw4_ShelfPlays : Enters Pr n_damperlaw4_ShelfPlays := enters_of_B (by kernel_rfl)

def A_damperlaw4_ShelfKinds : Ann := (.seq .auto (.seq .auto (.seq .auto (.seq .auto (.seq .auto (.seq .auto (.seq .auto (.seq .auto (.seq .auto (.seq .auto (.seq .auto (.seq .auto .auto (some [(14, (.one (.int .i64))), (15, (.one (.int .i64)))])) none) none) none) none) none) none) none) none) none) none) none)
/-- damper/damperlaw4.ShelfKinds -/
def F_damperlaw4_ShelfKinds (p0 : HT [.str, .int .i64, .int .i64, .int .i64, .int .i64, .int .i64]) (p1 : Sl) (p2 : Bool) (K : Value → PT) : PT :=
  L.new [.string p0.1, .int .i64 p0.2.1, .int .i64 p0.2.2.1, .int .i64 p0.2.2.2.1, .int .i64 p0.2.2.2.2.1, .int .i64 p0.2.2.2.2.2.1] T_api_Config fun b1 =>
  L.call Pr n_damperlaw4_known [] (.one (.one (.bool))) fun (x2 : Bool) =>
  L.ite (!x2) (
    K (.bool false)) <|
  L.call Pr n_shelf_New [] (.one (.one (.ptr))) fun (x3 : Option Addr) =>
  L.ite ((x3).isNone) (
    K (.bool false)) <|
  L.load (.agg [.str, .int .i64, .int .i64, .int .i64, .int .i64, .int .i64]) (⟨b1, 0, none⟩) fun (x4 : ByteArray × Int × Int × Int × Int × Int × Unit) =>
  L.call Pr n_damperlaw2_Config [.agg #[.string x4.1, .int .i64 x4.2.1, .int .i64 x4.2.2.1, .int .i64 x4.2.2.2.1, .int .i64 x4.2.2.2.2.1, .int .i64 x4.2.2.2.2.2.1], .int .i64 0] (.one (.agg [.str, .int .i64, .int .i64, .int .i64, .int .i64, .int .i64])) fun (x5 : ByteArray × Int × Int × Int × Int × Int × Unit) =>
  L.call Pr n_damperlaw2_Route [.int .i64 0, .slice p1.a p1.len p1.cap, .int .i64 0] (.one (.agg [.str, .str, .slice, .int .i64])) fun (x6 : ByteArray × ByteArray × Sl × Int × Unit) =>
  L.new [.string s_, .int .i64 0, .int .i64 0, .int .i64 0, .int .i64 0, .int .i64 0] T_api_Config fun b7 =>
  L.new [.string s_, .string s_, .slice none 0 0, .int .i64 0] T_api_Route fun b8 =>
  L.store (⟨b7, 0, none⟩) [.string x5.1, .int .i64 x5.2.1, .int .i64 x5.2.2.1, .int .i64 x5.2.2.2.1, .int .i64 x5.2.2.2.2.1, .int .i64 x5.2.2.2.2.2.1] <|
  L.store (⟨b8, 0, none⟩) [.string x6.1, .string x6.2.1, .slice x6.2.2.1.a x6.2.2.1.len x6.2.2.1.cap, .int .i64 x6.2.2.2.1] <|
  L.store ((⟨b7, 0, none⟩ : Addr).add 0) [.string s_both] <|
  L.store ((⟨b8, 0, none⟩ : Addr).add 0) [.string s_both] <|
  L.load (.agg [.str, .int .i64, .int .i64, .int .i64, .int .i64, .int .i64]) (⟨b7, 0, none⟩) fun (x9 : ByteArray × Int × Int × Int × Int × Int × Unit) =>
  L.call Pr n_shelf_Shelf_PutConfig [.pointer x3, .agg #[.string x9.1, .int .i64 x9.2.1, .int .i64 x9.2.2.1, .int .i64 x9.2.2.2.1, .int .i64 x9.2.2.2.2.1, .int .i64 x9.2.2.2.2.2.1], .int .i64 0] (.tup [(.one (.int .i64)), (.one (.int .i64))]) fun (x10 : Int × Int × Unit) =>
  L.load (.agg [.str, .str, .slice, .int .i64]) (⟨b8, 0, none⟩) fun (x11 : ByteArray × ByteArray × Sl × Int × Unit) =>
  L.call Pr n_shelf_Shelf_PutRoute [.pointer x3, .agg #[.string x11.1, .string x11.2.1, .slice x11.2.2.1.a x11.2.2.1.len x11.2.2.1.cap, .int .i64 x11.2.2.2.1], .int .i64 0] (.tup [(.one (.int .i64)), (.one (.int .i64))]) fun (x12 : Int × Int × Unit) =>
  L.ite (x10.2.1 != 0) (
    K (.bool false)) <|
  L.ite (x12.2.1 != 0) (
    K (.bool false)) <|
  L.ite (x10.1 == x12.1) (
    K (.bool false)) <|
  L.join (Y := Int × Int × Unit) (fun k13 =>
    L.ite p2 (
      k13 (2, x12.1, ())) <|
    k13 (1, x10.1, ())) fun z14 =>
  L.call Pr n_shelf_Shelf_Drop [.pointer x3, .int .i64 (IntKind.wrap .i64 (3 - z14.1)), .string s_both, .int .i64 z14.2.1] (.one (.one (.int .i64))) fun (x15 : Int) =>
  L.ite (x15 != 7) (
    K (.bool false)) <|
  L.call Pr n_shelf_Shelf_Drop [.pointer x3, .int .i64 z14.1, .string s_both, .int .i64 z14.2.1] (.one (.one (.int .i64))) fun (x16 : Int) =>
  L.ite (x16 != 0) (
    K (.bool false)) <|
  L.call Pr n_shelf_Shelf_Drop [.pointer x3, .int .i64 0, .string s_both, .int .i64 z14.2.1] (.one (.one (.int .i64))) fun (x17 : Int) =>
  L.ite (x17 != 12) (
    K (.bool false)) <|
  L.call Pr n_shelf_Shelf_Drop [.pointer x3, .int .i64 3, .string s_both, .int .i64 z14.2.1] (.one (.one (.int .i64))) fun (x18 : Int) =>
  L.ite (x18 != 12) (
    K (.bool false)) <|
  L.call Pr n_shelf_Shelf_Config [.pointer x3, .string s_both] (.tup [(.agg [.str, .int .i64, .int .i64, .int .i64, .int .i64, .int .i64]), (.one (.int .i64)), (.one (.int .i64)), (.one (.bool))]) fun (x19 : (ByteArray × Int × Int × Int × Int × Int × Unit) × Int × Int × Bool × Unit) =>
  L.new [.string s_, .int .i64 0, .int .i64 0, .int .i64 0, .int .i64 0, .int .i64 0] T_api_Config fun b20 =>
  L.store (⟨b20, 0, none⟩) [.string x19.1.1, .int .i64 x19.1.2.1, .int .i64 x19.1.2.2.1, .int .i64 x19.1.2.2.2.1, .int .i64 x19.1.2.2.2.2.1, .int .i64 x19.1.2.2.2.2.2.1] <|
  L.call Pr n_shelf_Shelf_Route [.pointer x3, .string s_both] (.tup [(.agg [.str, .str, .slice, .int .i64]), (.one (.int .i64)), (.one (.bool))]) fun (x21 : (ByteArray × ByteArray × Sl × Int × Unit) × Int × Bool × Unit) =>
  L.new [.string s_, .string s_, .slice none 0 0, .int .i64 0] T_api_Route fun b22 =>
  L.store (⟨b22, 0, none⟩) [.string x21.1.1, .string x21.1.2.1, .slice x21.1.2.2.1.a x21.1.2.2.1.len x21.1.2.2.1.cap, .int .i64 x21.1.2.2.2.1] <|
  L.ite (x19.2.2.2.1 == p2) (
    K (.bool (!(x21.2.2.1 == p2)))) <|
  K (.bool false)
theorem D_damperlaw4_ShelfKinds (p0 : HT [.str, .int .i64, .int .i64, .int .i64, .int .i64, .int .i64]) (p1 : Sl) (p2 : Bool) (K : Value → PT) : denF Pr Dt Tryz.f6 A_damperlaw4_ShelfKinds [.ag [.string p0.1, .int .i64 p0.2.1, .int .i64 p0.2.2.1, .int .i64 p0.2.2.2.1, .int .i64 p0.2.2.2.2.1, .int .i64 p0.2.2.2.2.2.1], .v (.slice p1.a p1.len p1.cap), .v (.bool p2)] K = F_damperlaw4_ShelfKinds p0 p1 p2 K := by kernel_rfl
theorem C_damperlaw4_ShelfKinds (p0 : HT [.str, .int .i64, .int .i64, .int .i64, .int .i64, .int .i64]) (p1 : Sl) (p2 : Bool) {K : Value → PT} {w : World} (h : F_damperlaw4_ShelfKinds p0 p1 p2 K w) : Calls Pr n_damperlaw4_ShelfKinds [(.ag [.string p0.1, .int .i64 p0.2.1, .int .i64 p0.2.2.1, .int .i64 p0.2.2.2.1, .int .i64 p0.2.2.2.2.1, .int .i64 p0.2.2.2.2.2.1] : SV).toV, .slice p1.a p1.len p1.cap, .bool p2].toArray w fun e w2 => ∃ v, e = .returned v ∧ K v w2 :=
  denF_ok Tok (f := 6) (fn := Tryz.f6) (an := A_damperlaw4_ShelfKinds) (args := [.ag [.string p0.1, .int .i64 p0.2.1, .int .i64 p0.2.2.1, .int .i64 p0.2.2.2.1, .int .i64 p0.2.2.2.2.1, .int .i64 p0.2.2.2.2.2.1], .v (.slice p1.a p1.len p1.cap), .v (.bool p2)]) (by kernel_rfl) (by kernel_rfl) ((congrFun (D_damperlaw4_ShelfKinds p0 p1 p2 K) w).mpr h)
theorem E_damperlaw4_ShelfKinds : Enters Pr n_damperlaw4_ShelfKinds := enters_of_B (by kernel_rfl)

def A_damperlaw4_known : Ann := .auto
/-- damper/damperlaw4.known -/
def F_damperlaw4_known  (K : Value → PT) : PT :=
  L.call Pr n_shelf_New [] (.one (.one (.ptr))) fun (x1 : Option Addr) =>
  L.ite ((x1).isNone) (
    K (.bool false)) <|
  L.call Pr n_shelf_Shelf_Names [.pointer x1, .int .i64 1] (.one (.one (.slice))) fun (x2 : Sl) =>
  L.ite (((x2.len : Nat) : Int) != 0) (
    K (.bool false)) <|
  L.call Pr n_shelf_Shelf_PutConfig [.pointer x1, .agg #[.string s_a, .int .i64 0, .int .i64 1, .int .i64 0, .int .i64 1, .int .i64 0], .int .i64 0] (.tup [(.one (.int .i64)), (.one (.int .i64))]) fun (x3 : Int × Int × Unit) =>
  L.call Pr n_shelf_Shelf_Config [.pointer x1, .string s_a] (.tup [(.agg [.str, .int .i64, .int .i64, .int .i64, .int .i64, .int .i64]), (.one (.int .i64)), (.one (.int .i64)), (.one (.bool))]) fun (x4 : (ByteArray × Int × Int × Int × Int × Int × Unit) × Int × Int × Bool × Unit) =>
  L.new [.string s_, .int .i64 0, .int .i64 0, .int .i64 0, .int .i64 0, .int .i64 0] T_api_Config fun b5 =>
  L.store (⟨b5, 0, none⟩) [.string x4.1.1, .int .i64 x4.1.2.1, .int .i64 x4.1.2.2.1, .int .i64 x4.1.2.2.2.1, .int .i64 x4.1.2.2.2.2.1, .int .i64 x4.1.2.2.2.2.2.1] <|
  L.ite (x3.1 == 1) (
    L.ite (x3.2.1 == 0) (
      L.ite x4.2.2.2.1 (
        L.ite (x4.2.1 == 1) (
          L.ite (x4.2.2.1 == 1) (
            L.load (.one (.str)) ((⟨b5, 0, none⟩ : Addr).add 0) fun (x6 : ByteArray) =>
            L.ite (x6.toList == s_a.toList) (
              L.call Pr n_shelf_Shelf_Names [.pointer x1, .int .i64 1] (.one (.one (.slice))) fun (x7 : Sl) =>
              K (.bool (((x7.len : Nat) : Int) == 1))) <|
            K (.bool false)) <|
          K (.bool false)) <|
        K (.bool false)) <|
      K (.bool false)) <|
    K (.bool false)) <|
  K (.bool false)
theorem D_damperlaw4_known  (K : Value → PT) : denF Pr Dt Tryz.f7 A_damperlaw4_known [] K = F_damperlaw4_known  K := by kernel_rfl
theorem C_damperlaw4_known  {K : Value → PT} {w : World} (h : F_damperlaw4_known  K w) : Calls Pr n_damperlaw4_known [].toArray w fun e w2 => ∃ v, e = .returned v ∧ K v w2 :=
  denF_ok Tok (f := 7) (fn := Tryz.f7) (an := A_damperlaw4_known) (args := []) (by kernel_rfl) (by kernel_rfl) ((congrFun (D_damperlaw4_known  K) w).mpr h)
theorem E_damperlaw4_known : Enters Pr n_damperlaw4_known := enters_of_B (by kernel_rfl)

def A_shelf_New : Ann := .auto
/-- damper/shelf.New -/
def F_shelf_New  (K : Value → PT) : PT :=
  L.call Pr n_shelf_made_api_Config [.func (.func n_shelf_New_1) #[] #[]] (.one (.one (.ptr))) fun (x1 : Option Addr) =>
  L.call Pr n_shelf_made_api_Route [.func (.func n_spec_SameRoute) #[] #[]] (.one (.one (.ptr))) fun (x2 : Option Addr) =>
  L.new [.pointer x1, .pointer x2, .int .i64 0] T_shelf_Shelf fun b3 =>
  K (.pointer (some (⟨b3, 0, none⟩)))
theorem D_shelf_New  (K : Value → PT) : denF Pr Dt Tryz.f8 A_shelf_New [] K = F_shelf_New  K := by kernel_rfl
theorem C_shelf_New  {K : Value → PT} {w : World} (h : F_shelf_New  K w) : Calls Pr n_shelf_New [].toArray w fun e w2 => ∃ v, e = .returned v ∧ K v w2 :=
  denF_ok Tok (f := 8) (fn := Tryz.f8) (an := A_shelf_New) (args := []) (by kernel_rfl) (by kernel_rfl) ((congrFun (D_shelf_New  K) w).mpr h)
theorem E_shelf_New : Enters Pr n_shelf_New := enters_of_B (by kernel_rfl)

def A_damperlaw2_Route : Ann := (.seq .auto (.seq (.one [(7, (.one (.adr)))] .auto) (.seq .auto (.seq .auto (.seq .auto (.seq (.seq .auto (.one [(8, (.one (.int .i64))), (10, (.one (.int .i64)))] (.seq .auto (.seq (.seq .auto (.seq .auto (.seq .auto (.seq .auto (.seq .auto (.seq .auto .auto (some [])) (some [])) (some [])) none) (some [(11, (.one (.int .i64)))])) none) .auto none) none)) none) .auto none) (some [(9, (.one (.int .i64)))])) none) none) none) none)
/-- damper/damperlaw2.Route -/
def F_damperlaw2_Route (p0 : Int) (p1 : Sl) (p2 : Int) (K : Value → PT) : PT :=
  L.new [.string s_, .string s_, .slice none 0 0, .int .i64 0] T_api_Route fun b1 =>
  L.join (Y := Addr × Unit) (fun k2 =>
    L.draw <|
    L.guard (3 ≠ (0 : Int)) <|
    L.alts [(
        L.new [.string s_front, .string s_back, .string s_r_1] T_string fun b4 =>
        L.alts [(
            L.call Pr n_damperlaw2_within [.int .i64 p0, .int .i64 3] (.one (.one (.int .i64))) fun (x5 : Int) =>
            L.idx (some ⟨b4, 0, none⟩) x5 3 1 fun a6 =>
            L.load (.one (.str)) a6 fun (x7 : ByteArray) =>
            L.alts [(
                L.new [.string s_web, .string s_api, .string s_a_b] T_string fun b8 =>
                L.chk a6 [.string x7] <|
                L.alts [(
                    L.call Pr n_damperlaw2_within [.int .i64 (IntKind.wrap .i64 (Int.tdiv p0 3)), .int .i64 3] (.one (.one (.int .i64))) fun (x9 : Int) =>
                    L.chk a6 [.string x7] <|
                    L.idx (some ⟨b8, 0, none⟩) x9 3 1 fun a10 =>
                    L.load (.one (.str)) a10 fun (x11 : ByteArray) =>
                    L.alts [(
                        L.call Pr n_damperlaw2_within [.int .i64 p2, .int .i64 61] (.one (.one (.int .i64))) fun (x12 : Int) =>
                        L.chk a10 [.string x11] <|
                        L.chk a6 [.string x7] <|
                        L.new [.string s_, .string s_, .slice none 0 0, .int .i64 0] T_api_Route fun b13 =>
                        L.chk a10 [.string x11] <|
                        L.chk a6 [.string x7] <|
                        L.store (⟨b13, 0, none⟩) [.string x7, .string x11, .slice none 0 0, .int .i64 x12] <|
                        k2 (⟨b13, 0, none⟩, ())),(
                        L.new [.string s_, .string s_, .slice none 0 0, .int .i64 0] T_api_Route fun b14 =>
                        L.chk a10 [.string x11] <|
                        L.chk a6 [.string x7] <|
                        L.call Pr n_damperlaw2_within [.int .i64 p2, .int .i64 61] (.one (.one (.int .i64))) fun (x15 : Int) =>
                        L.chk a10 [.string x11] <|
                        L.chk a6 [.string x7] <|
                        L.store (⟨b14, 0, none⟩) [.string x7, .string x11, .slice none 0 0, .int .i64 x15] <|
                        k2 (⟨b14, 0, none⟩, ()))]),(
                    L.new [.string s_, .string s_, .slice none 0 0, .int .i64 0] T_api_Route fun b16 =>
                    L.chk a6 [.string x7] <|
                    L.call Pr n_damperlaw2_within [.int .i64 (IntKind.wrap .i64 (Int.tdiv p0 3)), .int .i64 3] (.one (.one (.int .i64))) fun (x17 : Int) =>
                    L.chk a6 [.string x7] <|
                    L.idx (some ⟨b8, 0, none⟩) x17 3 1 fun a18 =>
                    L.load (.one (.str)) a18 fun (x19 : ByteArray) =>
                    L.call Pr n_damperlaw2_within [.int .i64 p2, .int .i64 61] (.one (.one (.int .i64))) fun (x20 : Int) =>
                    L.chk a18 [.string x19] <|
                    L.chk a6 [.string x7] <|
                    L.store (⟨b16, 0, none⟩) [.string x7, .string x19, .slice none 0 0, .int .i64 x20] <|
                    k2 (⟨b16, 0, none⟩, ()))]),(
                L.call Pr n_damperlaw2_within [.int .i64 (IntKind.wrap .i64 (Int.tdiv p0 3)), .int .i64 3] (.one (.one (.int .i64))) fun (x21 : Int) =>
                L.chk a6 [.string x7] <|
                L.alts [(
                    L.new [.string s_web, .string s_api, .string s_a_b] T_string fun b22 =>
                    L.chk a6 [.string x7] <|
                    L.idx (some ⟨b22, 0, none⟩) x21 3 1 fun a23 =>
                    L.load (.one (.str)) a23 fun (x24 : ByteArray) =>
                    L.alts [(
                        L.call Pr n_damperlaw2_within [.int .i64 p2, .int .i64 61] (.one (.one (.int .i64))) fun (x25 : Int) =>
                        L.chk a23 [.string x24] <|
                        L.chk a6 [.string x7] <|
                        L.new [.string s_, .string s_, .slice none 0 0, .int .i64 0] T_api_Route fun b26 =>
                        L.chk a23 [.string x24] <|
                        L.chk a6 [.string x7] <|
                        L.store (⟨b26, 0, none⟩) [.string x7, .string x24, .slice none 0 0, .int .i64 x25] <|
                        k2 (⟨b26, 0, none⟩, ())),(
                        L.new [.string s_, .string s_, .slice none 0 0, .int .i64 0] T_api_Route fun b27 =>
                        L.chk a23 [.string x24] <|
                        L.chk a6 [.string x7] <|
                        L.call Pr n_damperlaw2_within [.int .i64 p2, .int .i64 61] (.one (.one (.int .i64))) fun (x28 : Int) =>
                        L.chk a23 [.string x24] <|
                        L.chk a6 [.string x7] <|
                        L.store (⟨b27, 0, none⟩) [.string x7, .string x24, .slice none 0 0, .int .i64 x28] <|
                        k2 (⟨b27, 0, none⟩, ()))]),(
                    L.call Pr n_damperlaw2_within [.int .i64 p2, .int .i64 61] (.one (.one (.int .i64))) fun (x29 : Int) =>
                    L.chk a6 [.string x7] <|
                    L.alts [(
                        L.new [.string s_web, .string s_api, .string s_a_b] T_string fun b30 =>
                        L.chk a6 [.string x7] <|
                        L.idx (some ⟨b30, 0, none⟩) x21 3 1 fun a31 =>
                        L.load (.one (.str)) a31 fun (x32 : ByteArray) =>
                        L.new [.string s_, .string s_, .slice none 0 0, .int .i64 0] T_api_Route fun b33 =>
                        L.chk a31 [.string x32] <|
                        L.chk a6 [.string x7] <|
                        L.store (⟨b33, 0, none⟩) [.string x7, .string x32, .slice none 0 0, .int .i64 x29] <|
                        k2 (⟨b33, 0, none⟩, ())),(
                        L.new [.string s_, .string s_, .slice none 0 0, .int .i64 0] T_api_Route fun b34 =>
                        L.chk a6 [.string x7] <|
                        L.new [.string s_web, .string s_api, .string s_a_b] T_string fun b35 =>
                        L.chk a6 [.string x7] <|
                        L.idx (some ⟨b35, 0, none⟩) x21 3 1 fun a36 =>
                        L.load (.one (.str)) a36 fun (x37 : ByteArray) =>
                        L.store (⟨b34, 0, none⟩) [.string x7, .string x37, .slice none 0 0, .int .i64 x29] <|
                        k2 (⟨b34, 0, none⟩, ()))]),(
                    L.new [.string s_, .string s_, .slice none 0 0, .int .i64 0] T_api_Route fun b38 =>
                    L.chk a6 [.string x7] <|
                    L.alts [(
                        L.new [.string s_web, .string s_api, .string s_a_b] T_string fun b39 =>
                        L.chk a6 [.string x7] <|
                        L.idx (some ⟨b39, 0, none⟩) x21 3 1 fun a40 =>
                        L.load (.one (.str)) a40 fun (x41 : ByteArray) =>
                        L.call Pr n_damperlaw2_within [.int .i64 p2, .int .i64 61] (.one (.one (.int .i64))) fun (x42 : Int) =>
                        L.chk a40 [.string x41] <|
                        L.chk a6 [.string x7] <|
                        L.store (⟨b38, 0, none⟩) [.string x7, .string x41, .slice none 0 0, .int .i64 x42] <|
                        k2 (⟨b38, 0, none⟩, ())),(
                        L.call Pr n_damperlaw2_within [.int .i64 p2, .int .i64 61] (.one (.one (.int .i64))) fun (x43 : Int) =>
                        L.chk a6 [.string x7] <|
                        L.new [.string s_web, .string s_api, .string s_a_b] T_string fun b44 =>
                        L.chk a6 [.string x7] <|
                        L.idx (some ⟨b44, 0, none⟩) x21 3 1 fun a45 =>
                        L.load (.one (.str)) a45 fun (x46 : ByteArray) =>
                        L.store (⟨b38, 0, none⟩) [.string x7, .string x46, .slice none 0 0, .int .i64 x43] <|
                        k2 (⟨b38, 0, none⟩, ()))])]),(
                L.new [.string s_, .string s_, .slice none 0 0, .int .i64 0] T_api_Route fun b47 =>
                L.chk a6 [.string x7] <|
                L.alts [(
                    L.new [.string s_web, .string s_api, .string s_a_b] T_string fun b48 =>
                    L.chk a6 [.string x7] <|
                    L.call Pr n_damperlaw2_within [.int .i64 (IntKind.wrap .i64 (Int.tdiv p0 3)), .int .i64 3] (.one (.one (.int .i64))) fun (x49 : Int) =>
                    L.chk a6 [.string x7] <|
                    L.idx (some ⟨b48, 0, none⟩) x49 3 1 fun a50 =>
                    L.load (.one (.str)) a50 fun (x51 : ByteArray) =>
                    L.call Pr n_damperlaw2_within [.int .i64 p2, .int .i64 61] (.one (.one (.int .i64))) fun (x52 : Int) =>
                    L.chk a50 [.string x51] <|
                    L.chk a6 [.string x7] <|
                    L.store (⟨b47, 0, none⟩) [.string x7, .string x51, .slice none 0 0, .int .i64 x52] <|
                    k2 (⟨b47, 0, none⟩, ())),(
                    L.call Pr n_damperlaw2_within [.int .i64 (IntKind.wrap .i64 (Int.tdiv p0 3)), .int .i64 3] (.one (.one (.int .i64))) fun (x53 : Int) =>
                    L.chk a6 [.string x7] <|
                    L.alts [(
                        L.new [.string s_web, .string s_api, .string s_a_b] T_string fun b54 =>
                        L.chk a6 [.string x7] <|
                        L.idx (some ⟨b54, 0, none⟩) x53 3 1 fun a55 =>
                        L.load (.one (.str)) a55 fun (x56 : ByteArray) =>
                        L.call Pr n_damperlaw2_within [.int .i64 p2, .int .i64 61] (.one (.one (.int .i64))) fun (x57 : Int) =>
                        L.chk a55 [.string x56] <|
                        L.chk a6 [.string x7] <|
                        L.store (⟨b47, 0, none⟩) [.string x7, .string x56, .slice none 0 0, .int .i64 x57] <|
                        k2 (⟨b47, 0, none⟩, ())),(
                        L.call Pr n_damperlaw2_within [.int .i64 p2, .int .i64 61] (.one (.one (.int .i64))) fun (x58 : Int) =>
                        L.chk a6 [.string x7] <|
                        L.new [.string s_web, .string s_api, .string s_a_b] T_string fun b59 =>
                        L.chk a6 [.string x7] <|
                        L.idx (some ⟨b59, 0, none⟩) x53 3 1 fun a60 =>
                        L.load (.one (.str)) a60 fun (x61 : ByteArray) =>
                        L.store (⟨b47, 0, none⟩) [.string x7, .string x61, .slice none 0 0, .int .i64 x58] <|
                        k2 (⟨b47, 0, none⟩, ()))])])]),(
            L.new [.string s_web, .string s_api, .string s_a_b] T_string fun b62 =>
            L.alts [(
                L.call Pr n_damperlaw2_within [.int .i64 p0, .int .i64 3] (.one (.one (.int .i64))) fun (x63 : Int) =>
                L.idx (some ⟨b4, 0, none⟩) x63 3 1 fun a64 =>
                L.load (.one (.str)) a64 fun (x65 : ByteArray) =>
                L.alts [(
                    L.call Pr n_damperlaw2_within [.int .i64 (IntKind.wrap .i64 (Int.tdiv p0 3)), .int .i64 3] (.one (.one (.int .i64))) fun (x66 : Int) =>
                    L.chk a64 [.string x65] <|
                    L.idx (some ⟨b62, 0, none⟩) x66 3 1 fun a67 =>
                    L.load (.one (.str)) a67 fun (x68 : ByteArray) =>
                    L.alts [(
                        L.call Pr n_damperlaw2_within [.int .i64 p2, .int .i64 61] (.one (.one (.int .i64))) fun (x69 : Int) =>
                        L.chk a67 [.string x68] <|
                        L.chk a64 [.string x65] <|
                        L.new [.string s_, .string s_, .slice none 0 0, .int .i64 0] T_api_Route fun b70 =>
                        L.chk a67 [.string x68] <|
                        L.chk a64 [.string x65] <|
                        L.store (⟨b70, 0, none⟩) [.string x65, .string x68, .slice none 0 0, .int .i64 x69] <|
                        k2 (⟨b70, 0, none⟩, ())),(
                        L.new [.string s_, .string s_, .slice none 0 0, .int .i64 0] T_api_Route fun b71 =>
                        L.chk a67 [.string x68] <|
                        L.chk a64 [.string x65] <|
                        L.call Pr n_damperlaw2_within [.int .i64 p2, .int .i64 61] (.one (.one (.int .i64))) fun (x72 : Int) =>
                        L.chk a67 [.string x68] <|
                        L.chk a64 [.string x65] <|
                        L.store (⟨b71, 0, none⟩) [.string x65, .string x68, .slice none 0 0, .int .i64 x72] <|
                        k2 (⟨b71, 0, none⟩, ()))]),(
                    L.new [.string s_, .string s_, .slice none 0 0, .int .i64 0] T_api_Route fun b73 =>
                    L.chk a64 [.string x65] <|
                    L.call Pr n_damperlaw2_within [.int .i64 (IntKind.wrap .i64 (Int.tdiv p0 3)), .int .i64 3] (.one (.one (.int .i64))) fun (x74 : Int) =>
                    L.chk a64 [.string x65] <|
                    L.idx (some ⟨b62, 0, none⟩) x74 3 1 fun a75 =>
                    L.load (.one (.str)) a75 fun (x76 : ByteArray) =>
                    L.call Pr n_damperlaw2_within [.int .i64 p2, .int .i64 61] (.one (.one (.int .i64))) fun (x77 : Int) =>
                    L.chk a75 [.string x76] <|
                    L.chk a64 [.string x65] <|
                    L.store (⟨b73, 0, none⟩) [.string x65, .string x76, .slice none 0 0, .int .i64 x77] <|
                    k2 (⟨b73, 0, none⟩, ()))]),(
                L.new [.string s_, .string s_, .slice none 0 0, .int .i64 0] T_api_Route fun b78 =>
                L.call Pr n_damperlaw2_within [.int .i64 p0, .int .i64 3] (.one (.one (.int .i64))) fun (x79 : Int) =>
                L.idx (some ⟨b4, 0, none⟩) x79 3 1 fun a80 =>
                L.load (.one (.str)) a80 fun (x81 : ByteArray) =>
                L.call Pr n_damperlaw2_within [.int .i64 (IntKind.wrap .i64 (Int.tdiv p0 3)), .int .i64 3] (.one (.one (.int .i64))) fun (x82 : Int) =>
                L.chk a80 [.string x81] <|
                L.idx (some ⟨b62, 0, none⟩) x82 3 1 fun a83 =>
                L.load (.one (.str)) a83 fun (x84 : ByteArray) =>
                L.call Pr n_damperlaw2_within [.int .i64 p2, .int .i64 61] (.one (.one (.int .i64))) fun (x85 : Int) =>
                L.chk a83 [.string x84] <|
                L.chk a80 [.string x81] <|
                L.store (⟨b78, 0, none⟩) [.string x81, .string x84, .slice none 0 0, .int .i64 x85] <|
                k2 (⟨b78, 0, none⟩, ()))]),(
            L.new [.string s_, .string s_, .slice none 0 0, .int .i64 0] T_api_Route fun b86 =>
            L.alts [(
                L.call Pr n_damperlaw2_within [.int .i64 p0, .int .i64 3] (.one (.one (.int .i64))) fun (x87 : Int) =>
                L.idx (some ⟨b4, 0, none⟩) x87 3 1 fun a88 =>
                L.load (.one (.str)) a88 fun (x89 : ByteArray) =>
                L.alts [(
                    L.new [.string s_web, .string s_api, .string s_a_b] T_string fun b90 =>
                    L.chk a88 [.string x89] <|
                    L.call Pr n_damperlaw2_within [.int .i64 (IntKind.wrap .i64 (Int.tdiv p0 3)), .int .i64 3] (.one (.one (.int .i64))) fun (x91 : Int) =>
                    L.chk a88 [.string x89] <|
                    L.idx (some ⟨b90, 0, none⟩) x91 3 1 fun a92 =>
                    L.load (.one (.str)) a92 fun (x93 : ByteArray) =>
                    L.call Pr n_damperlaw2_within [.int .i64 p2, .int .i64 61] (.one (.one (.int .i64))) fun (x94 : Int) =>
                    L.chk a92 [.string x93] <|
                    L.chk a88 [.string x89] <|
                    L.store (⟨b86, 0, none⟩) [.string x89, .string x93, .slice none 0 0, .int .i64 x94] <|
                    k2 (⟨b86, 0, none⟩, ())),(
                    L.call Pr n_damperlaw2_within [.int .i64 (IntKind.wrap .i64 (Int.tdiv p0 3)), .int .i64 3] (.one (.one (.int .i64))) fun (x95 : Int) =>
                    L.chk a88 [.string x89] <|
                    L.alts [(
                        L.new [.string s_web, .string s_api, .string s_a_b] T_string fun b96 =>
                        L.chk a88 [.string x89] <|
                        L.idx (some ⟨b96, 0, none⟩) x95 3 1 fun a97 =>
                        L.load (.one (.str)) a97 fun (x98 : ByteArray) =>
                        L.call Pr n_damperlaw2_within [.int .i64 p2, .int .i64 61] (.one (.one (.int .i64))) fun (x99 : Int) =>
                        L.chk a97 [.string x98] <|
                        L.chk a88 [.string x89] <|
                        L.store (⟨b86, 0, none⟩) [.string x89, .string x98, .slice none 0 0, .int .i64 x99] <|
                        k2 (⟨b86, 0, none⟩, ())),(
                        L.call Pr n_damperlaw2_within [.int .i64 p2, .int .i64 61] (.one (.one (.int .i64))) fun (x100 : Int) =>
                        L.chk a88 [.string x89] <|
                        L.new [.string s_web, .string s_api, .string s_a_b] T_string fun b101 =>
                        L.chk a88 [.string x89] <|
                        L.idx (some ⟨b101, 0, none⟩) x95 3 1 fun a102 =>
                        L.load (.one (.str)) a102 fun (x103 : ByteArray) =>
                        L.store (⟨b86, 0, none⟩) [.string x89, .string x103, .slice none 0 0, .int .i64 x100] <|
                        k2 (⟨b86, 0, none⟩, ()))])]),(
                L.new [.string s_web, .string s_api, .string s_a_b] T_string fun b104 =>
                L.call Pr n_damperlaw2_within [.int .i64 p0, .int .i64 3] (.one (.one (.int .i64))) fun (x105 : Int) =>
                L.idx (some ⟨b4, 0, none⟩) x105 3 1 fun a106 =>
                L.load (.one (.str)) a106 fun (x107 : ByteArray) =>
                L.call Pr n_damperlaw2_within [.int .i64 (IntKind.wrap .i64 (Int.tdiv p0 3)), .int .i64 3] (.one (.one (.int .i64))) fun (x108 : Int) =>
                L.chk a106 [.string x107] <|
                L.idx (some ⟨b104, 0, none⟩) x108 3 1 fun a109 =>
                L.load (.one (.str)) a109 fun (x110 : ByteArray) =>
                L.call Pr n_damperlaw2_within [.int .i64 p2, .int .i64 61] (.one (.one (.int .i64))) fun (x111 : Int) =>
                L.chk a109 [.string x110] <|
                L.chk a106 [.string x107] <|
                L.store (⟨b86, 0, none⟩) [.string x107, .string x110, .slice none 0 0, .int .i64 x111] <|
                k2 (⟨b86, 0, none⟩, ()))])]),(
        L.call Pr n_damperlaw2_within [.int .i64 p0, .int .i64 3] (.one (.one (.int .i64))) fun (x112 : Int) =>
        L.alts [(
            L.new [.string s_front, .string s_back, .string s_r_1] T_string fun b113 =>
            L.idx (some ⟨b113, 0, none⟩) x112 3 1 fun a114 =>
            L.load (.one (.str)) a114 fun (x115 : ByteArray) =>
            L.alts [(
                L.new [.string s_web, .string s_api, .string s_a_b] T_string fun b116 =>
                L.chk a114 [.string x115] <|
                L.alts [(
                    L.call Pr n_damperlaw2_within [.int .i64 (IntKind.wrap .i64 (Int.tdiv p0 3)), .int .i64 3] (.one (.one (.int .i64))) fun (x117 : Int) =>
                    L.chk a114 [.string x115] <|
                    L.idx (some ⟨b116, 0, none⟩) x117 3 1 fun a118 =>
                    L.load (.one (.str)) a118 fun (x119 : ByteArray) =>
                    L.alts [(
                        L.call Pr n_damperlaw2_within [.int .i64 p2, .int .i64 61] (.one (.one (.int .i64))) fun (x120 : Int) =>
                        L.chk a118 [.string x119] <|
                        L.chk a114 [.string x115] <|
                        L.new [.string s_, .string s_, .slice none 0 0, .int .i64 0] T_api_Route fun b121 =>
                        L.chk a118 [.string x119] <|
                        L.chk a114 [.string x115] <|
                        L.store (⟨b121, 0, none⟩) [.string x115, .string x119, .slice none 0 0, .int .i64 x120] <|
                        k2 (⟨b121, 0, none⟩, ())),(
                        L.new [.string s_, .string s_, .slice none 0 0, .int .i64 0] T_api_Route fun b122 =>
                        L.chk a118 [.string x119] <|
                        L.chk a114 [.string x115] <|
                        L.call Pr n_damperlaw2_within [.int .i64 p2, .int .i64 61] (.one (.one (.int .i64))) fun (x123 : Int) =>
                        L.chk a118 [.string x119] <|
                        L.chk a114 [.string x115] <|
                        L.store (⟨b122, 0, none⟩) [.string x115, .string x119, .slice none 0 0, .int .i64 x123] <|
                        k2 (⟨b122, 0, none⟩, ()))]),(
                    L.new [.string s_, .string s_, .slice none 0 0, .int .i64 0] T_api_Route fun b124 =>
                    L.chk a114 [.string x115] <|
                    L.call Pr n_damperlaw2_within [.int .i64 (IntKind.wrap .i64 (Int.tdiv p0 3)), .int .i64 3] (.one (.one (.int .i64))) fun (x125 : Int) =>
                    L.chk a114 [.string x115] <|
                    L.idx (some ⟨b116, 0, none⟩) x125 3 1 fun a126 =>
                    L.load (.one (.str)) a126 fun (x127 : ByteArray) =>
                    L.call Pr n_damperlaw2_within [.int .i64 p2, .int .i64 61] (.one (.one (.int .i64))) fun (x128 : Int) =>
                    L.chk a126 [.string x127] <|
                    L.chk a114 [.string x115] <|
                    L.store (⟨b124, 0, none⟩) [.string x115, .string x127, .slice none 0 0, .int .i64 x128] <|
                    k2 (⟨b124, 0, none⟩, ()))]),(
                L.call Pr n_damperlaw2_within [.int .i64 (IntKind.wrap .i64 (Int.tdiv p0 3)), .int .i64 3] (.one (.one (.int .i64))) fun (x129 : Int) =>
                L.chk a114 [.string x115] <|
                L.alts [(
                    L.new [.string s_web, .string s_api, .string s_a_b] T_string fun b130 =>
                    L.chk a114 [.string x115] <|
                    L.idx (some ⟨b130, 0, none⟩) x129 3 1 fun a131 =>
                    L.load (.one (.str)) a131 fun (x132 : ByteArray) =>
                    L.alts [(
                        L.call Pr n_damperlaw2_within [.int .i64 p2, .int .i64 61] (.one (.one (.int .i64))) fun (x133 : Int) =>
                        L.chk a131 [.string x132] <|
                        L.chk a114 [.string x115] <|
                        L.new [.string s_, .string s_, .slice none 0 0, .int .i64 0] T_api_Route fun b134 =>
                        L.chk a131 [.string x132] <|
                        L.chk a114 [.string x115] <|
                        L.store (⟨b134, 0, none⟩) [.string x115, .string x132, .slice none 0 0, .int .i64 x133] <|
                        k2 (⟨b134, 0, none⟩, ())),(
                        L.new [.string s_, .string s_, .slice none 0 0, .int .i64 0] T_api_Route fun b135 =>
                        L.chk a131 [.string x132] <|
                        L.chk a114 [.string x115] <|
                        L.call Pr n_damperlaw2_within [.int .i64 p2, .int .i64 61] (.one (.one (.int .i64))) fun (x136 : Int) =>
                        L.chk a131 [.string x132] <|
                        L.chk a114 [.string x115] <|
                        L.store (⟨b135, 0, none⟩) [.string x115, .string x132, .slice none 0 0, .int .i64 x136] <|
                        k2 (⟨b135, 0, none⟩, ()))]),(
                    L.call Pr n_damperlaw2_within [.int .i64 p2, .int .i64 61] (.one (.one (.int .i64))) fun (x137 : Int) =>
                    L.chk a114 [.string x115] <|
                    L.alts [(
                        L.new [.string s_web, .string s_api, .string s_a_b] T_string fun b138 =>
                        L.chk a114 [.string x115] <|
                        L.idx (some ⟨b138, 0, none⟩) x129 3 1 fun a139 =>
                        L.load (.one (.str)) a139 fun (x140 : ByteArray) =>
                        L.new [.string s_, .string s_, .slice none 0 0, .int .i64 0] T_api_Route fun b141 =>
                        L.chk a139 [.string x140] <|
                        L.chk a114 [.string x115] <|
                        L.store (⟨b141, 0, none⟩) [.string x115, .string x140, .slice none 0 0, .int .i64 x137] <|
                        k2 (⟨b141, 0, none⟩, ())),(
                        L.new [.string s_, .string s_, .slice none 0 0, .int .i64 0] T_api_Route fun b142 =>
                        L.chk a114 [.string x115] <|
                        L.new [.string s_web, .string s_api, .string s_a_b] T_string fun b143 =>
                        L.chk a114 [.string x115] <|
                        L.idx (some ⟨b143, 0, none⟩) x129 3 1 fun a144 =>
                        L.load (.one (.str)) a144 fun (x145 : ByteArray) =>
                        L.store (⟨b142, 0, none⟩) [.string x115, .string x145, .slice none 0 0, .int .i64 x137] <|
                        k2 (⟨b142, 0, none⟩, ()))]),(
                    L.new [.string s_, .string s_, .slice none 0 0, .int .i64 0] T_api_Route fun b146 =>
                    L.chk a114 [.string x115] <|
                    L.alts [(
                        L.new [.string s_web, .string s_api, .string s_a_b] T_string fun b147 =>
                        L.chk a114 [.string x115] <|
                        L.idx (some ⟨b147, 0, none⟩) x129 3 1 fun a148 =>
                        L.load (.one (.str)) a148 fun (x149 : ByteArray) =>
                        L.call Pr n_damperlaw2_within [.int .i64 p2, .int .i64 61] (.one (.one (.int .i64))) fun (x150 : Int) =>
                        L.chk a148 [.string x149] <|
                        L.chk a114 [.string x115] <|
                        L.store (⟨b146, 0, none⟩) [.string x115, .string x149, .slice none 0 0, .int .i64 x150] <|
                        k2 (⟨b146, 0, none⟩, ())),(
                        L.call Pr n_damperlaw2_within [.int .i64 p2, .int .i64 61] (.one (.one (.int .i64))) fun (x151 : Int) =>
                        L.chk a114 [.string x115] <|
                        L.new [.string s_web, .string s_api, .string s_a_b] T_string fun b152 =>
                        L.chk a114 [.string x115] <|
                        L.idx (some ⟨b152, 0, none⟩) x129 3 1 fun a153 =>
                        L.load (.one (.str)) a153 fun (x154 : ByteArray) =>
                        L.store (⟨b146, 0, none⟩) [.string x115, .string x154, .slice none 0 0, .int .i64 x151] <|
                        k2 (⟨b146, 0, none⟩, ()))])]),(
                L.new [.string s_, .string s_, .slice none 0 0, .int .i64 0] T_api_Route fun b155 =>
                L.chk a114 [.string x115] <|
                L.alts [(
                    L.new [.string s_web, .string s_api, .string s_a_b] T_string fun b156 =>
                    L.chk a114 [.string x115] <|
                    L.call Pr n_damperlaw2_within [.int .i64 (IntKind.wrap .i64 (Int.tdiv p0 3)), .int .i64 3] (.one (.one (.int .i64))) fun (x157 : Int) =>
                    L.chk a114 [.string x115] <|
                    L.idx (some ⟨b156, 0, none⟩) x157 3 1 fun a158 =>
                    L.load (.one (.str)) a158 fun (x159 : ByteArray) =>
                    L.call Pr n_damperlaw2_within [.int .i64 p2, .int .i64 61] (.one (.one (.int .i64))) fun (x160 : Int) =>
                    L.chk a158 [.string x159] <|
                    L.chk a114 [.string x115] <|
                    L.store (⟨b155, 0, none⟩) [.string x115, .string x159, .slice none 0 0, .int .i64 x160] <|
                    k2 (⟨b155, 0, none⟩, ())),(
                    L.call Pr n_damperlaw2_within [.int .i64 (IntKind.wrap .i64 (Int.tdiv p0 3)), .int .i64 3] (.one (.one (.int .i64))) fun (x161 : Int) =>
                    L.chk a114 [.string x115] <|
                    L.alts [(
                        L.new [.string s_web, .string s_api, .string s_a_b] T_string fun b162 =>
                        L.chk a114 [.string x115] <|
                        L.idx (some ⟨b162, 0, none⟩) x161 3 1 fun a163 =>
                        L.load (.one (.str)) a163 fun (x164 : ByteArray) =>
                        L.call Pr n_damperlaw2_within [.int .i64 p2, .int .i64 61] (.one (.one (.int .i64))) fun (x165 : Int) =>
                        L.chk a163 [.string x164] <|
                        L.chk a114 [.string x115] <|
                        L.store (⟨b155, 0, none⟩) [.string x115, .string x164, .slice none 0 0, .int .i64 x165] <|
                        k2 (⟨b155, 0, none⟩, ())),(
                        L.call Pr n_damperlaw2_within [.int .i64 p2, .int .i64 61] (.one (.one (.int .i64))) fun (x166 : Int) =>
                        L.chk a114 [.string x115] <|
                        L.new [.string s_web, .string s_api, .string s_a_b] T_string fun b167 =>
                        L.chk a114 [.string x115] <|
                        L.idx (some ⟨b167, 0, none⟩) x161 3 1 fun a168 =>
                        L.load (.one (.str)) a168 fun (x169 : ByteArray) =>
                        L.store (⟨b155, 0, none⟩) [.string x115, .string x169, .slice none 0 0, .int .i64 x166] <|
                        k2 (⟨b155, 0, none⟩, ()))])])]),(
            L.new [.string s_web, .string s_api, .string s_a_b] T_string fun b170 =>
            L.alts [(
                L.new [.string s_front, .string s_back, .string s_r_1] T_string fun b171 =>
                L.idx (some ⟨b171, 0, none⟩) x112 3 1 fun a172 =>
                L.load (.one (.str)) a172 fun (x173 : ByteArray) =>
                L.alts [(
                    L.call Pr n_damperlaw2_within [.int .i64 (IntKind.wrap .i64 (Int.tdiv p0 3)), .int .i64 3] (.one (.one (.int .i64))) fun (x174 : Int) =>
                    L.chk a172 [.string x173] <|
                    L.idx (some ⟨b170, 0, none⟩) x174 3 1 fun a175 =>
                    L.load (.one (.str)) a175 fun (x176 : ByteArray) =>
                    L.alts [(
                        L.call Pr n_damperlaw2_within [.int .i64 p2, .int .i64 61] (.one (.one (.int .i64))) fun (x177 : Int) =>
                        L.chk a175 [.string x176] <|
                        L.chk a172 [.string x173] <|
                        L.new [.string s_, .string s_, .slice none 0 0, .int .i64 0] T_api_Route fun b178 =>
                        L.chk a175 [.string x176] <|
                        L.chk a172 [.string x173] <|
                        L.store (⟨b178, 0, none⟩) [.string x173, .string x176, .slice none 0 0, .int .i64 x177] <|
                        k2 (⟨b178, 0, none⟩, ())),(
                        L.new [.string s_, .string s_, .slice none 0 0, .int .i64 0] T_api_Route fun b179 =>
                        L.chk a175 [.string x176] <|
                        L.chk a172 [.string x173] <|
                        L.call Pr n_damperlaw2_within [.int .i64 p2, .int .i64 61] (.one (.one (.int .i64))) fun (x180 : Int) =>
                        L.chk a175 [.string x176] <|
                        L.chk a172 [.string x173] <|
                        L.store (⟨b179, 0, none⟩) [.string x173, .string x176, .slice none 0 0, .int .i64 x180] <|
                        k2 (⟨b179, 0, none⟩, ()))]),(
                    L.new [.string s_, .string s_, .slice none 0 0, .int .i64 0] T_api_Route fun b181 =>
                    L.chk a172 [.string x173] <|
                    L.call Pr n_damperlaw2_within [.int .i64 (IntKind.wrap .i64 (Int.tdiv p0 3)), .int .i64 3] (.one (.one (.int .i64))) fun (x182 : Int) =>
                    L.chk a172 [.string x173] <|
                    L.idx (some ⟨b170, 0, none⟩) x182 3 1 fun a183 =>
                    L.load (.one (.str)) a183 fun (x184 : ByteArray) =>
                    L.call Pr n_damperlaw2_within [.int .i64 p2, .int .i64 61] (.one (.one (.int .i64))) fun (x185 : Int) =>
                    L.chk a183 [.string x184] <|
                    L.chk a172 [.string x173] <|
                    L.store (⟨b181, 0, none⟩) [.string x173, .string x184, .slice none 0 0, .int .i64 x185] <|
                    k2 (⟨b181, 0, none⟩, ()))]),(
                L.call Pr n_damperlaw2_within [.int .i64 (IntKind.wrap .i64 (Int.tdiv p0 3)), .int .i64 3] (.one (.one (.int .i64))) fun (x186 : Int) =>
                L.idx (some ⟨b170, 0, none⟩) x186 3 1 fun a187 =>
                L.load (.one (.str)) a187 fun (x188 : ByteArray) =>
                L.alts [(
                    L.new [.string s_front, .string s_back, .string s_r_1] T_string fun b189 =>
                    L.chk a187 [.string x188] <|
                    L.idx (some ⟨b189, 0, none⟩) x112 3 1 fun a190 =>
                    L.load (.one (.str)) a190 fun (x191 : ByteArray) =>
                    L.alts [(
                        L.call Pr n_damperlaw2_within [.int .i64 p2, .int .i64 61] (.one (.one (.int .i64))) fun (x192 : Int) =>
                        L.chk a190 [.string x191] <|
                        L.chk a187 [.string x188] <|
                        L.new [.string s_, .string s_, .slice none 0 0, .int .i64 0] T_api_Route fun b193 =>
                        L.chk a190 [.string x191] <|
                        L.chk a187 [.string x188] <|
                        L.store (⟨b193, 0, none⟩) [.string x191, .string x188, .slice none 0 0, .int .i64 x192] <|
                        k2 (⟨b193, 0, none⟩, ())),(
                        L.new [.string s_, .string s_, .slice none 0 0, .int .i64 0] T_api_Route fun b194 =>
                        L.chk a190 [.string x191] <|
                        L.chk a187 [.string x188] <|
                        L.call Pr n_damperlaw2_within [.int .i64 p2, .int .i64 61] (.one (.one (.int .i64))) fun (x195 : Int) =>
                        L.chk a190 [.string x191] <|
                        L.chk a187 [.string x188] <|
                        L.store (⟨b194, 0, none⟩) [.string x191, .string x188, .slice none 0 0, .int .i64 x195] <|
                        k2 (⟨b194, 0, none⟩, ()))]),(
                    L.call Pr n_damperlaw2_within [.int .i64 p2, .int .i64 61] (.one (.one (.int .i64))) fun (x196 : Int) =>
                    L.chk a187 [.string x188] <|
                    L.alts [(
                        L.new [.string s_front, .string s_back, .string s_r_1] T_string fun b197 =>
                        L.chk a187 [.string x188] <|
                        L.idx (some ⟨b197, 0, none⟩) x112 3 1 fun a198 =>
                        L.load (.one (.str)) a198 fun (x199 : ByteArray) =>
                        L.new [.string s_, .string s_, .slice none 0 0, .int .i64 0] T_api_Route fun b200 =>
                        L.chk a198 [.string x199] <|
                        L.chk a187 [.string x188] <|
                        L.store (⟨b200, 0, none⟩) [.string x199, .string x188, .slice none 0 0, .int .i64 x196] <|
                        k2 (⟨b200, 0, none⟩, ())),(
                        L.new [.string s_, .string s_, .slice none 0 0, .int .i64 0] T_api_Route fun b201 =>
                        L.chk a187 [.string x188] <|
                        L.new [.string s_front, .string s_back, .string s_r_1] T_string fun b202 =>
                        L.chk a187 [.string x188] <|
                        L.idx (some ⟨b202, 0, none⟩) x112 3 1 fun a203 =>
                        L.load (.one (.str)) a203 fun (x204 : ByteArray) =>
                        L.store (⟨b201, 0, none⟩) [.string x204, .string x188, .slice none 0 0, .int .i64 x196] <|
                        k2 (⟨b201, 0, none⟩, ()))]),(
                    L.new [.string s_, .string s_, .slice none 0 0, .int .i64 0] T_api_Route fun b205 =>
                    L.chk a187 [.string x188] <|
                    L.alts [(
                        L.new [.string s_front, .string s_back, .string s_r_1] T_string fun b206 =>
                        L.chk a187 [.string x188] <|
                        L.idx (some ⟨b206, 0, none⟩) x112 3 1 fun a207 =>
                        L.load (.one (.str)) a207 fun (x208 : ByteArray) =>
                        L.call Pr n_damperlaw2_within [.int .i64 p2, .int .i64 61] (.one (.one (.int .i64))) fun (x209 : Int) =>
                        L.chk a207 [.string x208] <|
                        L.chk a187 [.string x188] <|
                        L.store (⟨b205, 0, none⟩) [.string x208, .string x188, .slice none 0 0, .int .i64 x209] <|
                        k2 (⟨b205, 0, none⟩, ())),(
                        L.call Pr n_damperlaw2_within [.int .i64 p2, .int .i64 61] (.one (.one (.int .i64))) fun (x210 : Int) =>
                        L.chk a187 [.string x188] <|
                        L.new [.string s_front, .string s_back, .string s_r_1] T_string fun b211 =>
                        L.chk a187 [.string x188] <|
                        L.idx (some ⟨b211, 0, none⟩) x112 3 1 fun a212 =>
                        L.load (.one (.str)) a212 fun (x213 : ByteArray) =>
                        L.store (⟨b205, 0, none⟩) [.string x213, .string x188, .slice none 0 0, .int .i64 x210] <|
                        k2 (⟨b205, 0, none⟩, ()))])]),(
                L.new [.string s_, .string s_, .slice none 0 0, .int .i64 0] T_api_Route fun b214 =>
                L.alts [(
                    L.new [.string s_front, .string s_back, .string s_r_1] T_string fun b215 =>
                    L.idx (some ⟨b215, 0, none⟩) x112 3 1 fun a216 =>
                    L.load (.one (.str)) a216 fun (x217 : ByteArray) =>
                    L.call Pr n_damperlaw2_within [.int .i64 (IntKind.wrap .i64 (Int.tdiv p0 3)), .int .i64 3] (.one (.one (.int .i64))) fun (x218 : Int) =>
                    L.chk a216 [.string x217] <|
                    L.idx (some ⟨b170, 0, none⟩) x218 3 1 fun a219 =>
                    L.load (.one (.str)) a219 fun (x220 : ByteArray) =>
                    L.call Pr n_damperlaw2_within [.int .i64 p2, .int .i64 61] (.one (.one (.int .i64))) fun (x221 : Int) =>
                    L.chk a219 [.string x220] <|
                    L.chk a216 [.string x217] <|
                    L.store (⟨b214, 0, none⟩) [.string x217, .string x220, .slice none 0 0, .int .i64 x221] <|
                    k2 (⟨b214, 0, none⟩, ())),(
                    L.call Pr n_damperlaw2_within [.int .i64 (IntKind.wrap .i64 (Int.tdiv p0 3)), .int .i64 3] (.one (.one (.int .i64))) fun (x222 : Int) =>
                    L.idx (some ⟨b170, 0, none⟩) x222 3 1 fun a223 =>
                    L.load (.one (.str)) a223 fun (x224 : ByteArray) =>
                    L.alts [(
                        L.new [.string s_front, .string s_back, .string s_r_1] T_string fun b225 =>
                        L.chk a223 [.string x224] <|
                        L.idx (some ⟨b225, 0, none⟩) x112 3 1 fun a226 =>
                        L.load (.one (.str)) a226 fun (x227 : ByteArray) =>
                        L.call Pr n_damperlaw2_within [.int .i64 p2, .int .i64 61] (.one (.one (.int .i64))) fun (x228 : Int) =>
                        L.chk a226 [.string x227] <|
                        L.chk a223 [.string x224] <|
                        L.store (⟨b214, 0, none⟩) [.string x227, .string x224, .slice none 0 0, .int .i64 x228] <|
                        k2 (⟨b214, 0, none⟩, ())),(
                        L.call Pr n_damperlaw2_within [.int .i64 p2, .int .i64 61] (.one (.one (.int .i64))) fun (x229 : Int) =>
                        L.chk a223 [.string x224] <|
                        L.new [.string s_front, .string s_back, .string s_r_1] T_string fun b230 =>
                        L.chk a223 [.string x224] <|
                        L.idx (some ⟨b230, 0, none⟩) x112 3 1 fun a231 =>
                        L.load (.one (.str)) a231 fun (x232 : ByteArray) =>
                        L.store (⟨b214, 0, none⟩) [.string x232, .string x224, .slice none 0 0, .int .i64 x229] <|
                        k2 (⟨b214, 0, none⟩, ()))])])]),(
            L.call Pr n_damperlaw2_within [.int .i64 (IntKind.wrap .i64 (Int.tdiv p0 3)), .int .i64 3] (.one (.one (.int .i64))) fun (x233 : Int) =>
            L.alts [(
                L.new [.string s_front, .string s_back, .string s_r_1] T_string fun b234 =>
                L.idx (some ⟨b234, 0, none⟩) x112 3 1 fun a235 =>
                L.load (.one (.str)) a235 fun (x236 : ByteArray) =>
                L.alts [(
                    L.new [.string s_web, .string s_api, .string s_a_b] T_string fun b237 =>
                    L.chk a235 [.string x236] <|
                    L.idx (some ⟨b237, 0, none⟩) x233 3 1 fun a238 =>
                    L.load (.one (.str)) a238 fun (x239 : ByteArray) =>
                    L.alts [(
                        L.call Pr n_damperlaw2_within [.int .i64 p2, .int .i64 61] (.one (.one (.int .i64))) fun (x240 : Int) =>
                        L.chk a238 [.string x239] <|
                        L.chk a235 [.string x236] <|
                        L.new [.string s_, .string s_, .slice none 0 0, .int .i64 0] T_api_Route fun b241 =>
                        L.chk a238 [.string x239] <|
                        L.chk a235 [.string x236] <|
                        L.store (⟨b241, 0, none⟩) [.string x236, .string x239, .slice none 0 0, .int .i64 x240] <|
                        k2 (⟨b241, 0, none⟩, ())),(
                        L.new [.string s_, .string s_, .slice none 0 0, .int .i64 0] T_api_Route fun b242 =>
                        L.chk a238 [.string x239] <|
                        L.chk a235 [.string x236] <|
                        L.call Pr n_damperlaw2_within [.int .i64 p2, .int .i64 61] (.one (.one (.int .i64))) fun (x243 : Int) =>
                        L.chk a238 [.string x239] <|
                        L.chk a235 [.string x236] <|
                        L.store (⟨b242, 0, none⟩) [.string x236, .string x239, .slice none 0 0, .int .i64 x243] <|
                        k2 (⟨b242, 0, none⟩, ()))]),(
                    L.call Pr n_damperlaw2_within [.int .i64 p2, .int .i64 61] (.one (.one (.int .i64))) fun (x244 : Int) =>
                    L.chk a235 [.string x236] <|
                    L.alts [(
                        L.new [.string s_web, .string s_api, .string s_a_b] T_string fun b245 =>
                        L.chk a235 [.string x236] <|
                        L.idx (some ⟨b245, 0, none⟩) x233 3 1 fun a246 =>
                        L.load (.one (.str)) a246 fun (x247 : ByteArray) =>
                        L.new [.string s_, .string s_, .slice none 0 0, .int .i64 0] T_api_Route fun b248 =>
                        L.chk a246 [.string x247] <|
                        L.chk a235 [.string x236] <|
                        L.store (⟨b248, 0, none⟩) [.string x236, .string x247, .slice none 0 0, .int .i64 x244] <|
                        k2 (⟨b248, 0, none⟩, ())),(
                        L.new [.string s_, .string s_, .slice none 0 0, .int .i64 0] T_api_Route fun b249 =>
                        L.chk a235 [.string x236] <|
                        L.new [.string s_web, .string s_api, .string s_a_b] T_string fun b250 =>
                        L.chk a235 [.string x236] <|
                        L.idx (some ⟨b250, 0, none⟩) x233 3 1 fun a251 =>
                        L.load (.one (.str)) a251 fun (x252 : ByteArray) =>
                        L.store (⟨b249, 0, none⟩) [.string x236, .string x252, .slice none 0 0, .int .i64 x244] <|
                        k2 (⟨b249, 0, none⟩, ()))]),(
                    L.new [.string s_, .string s_, .slice none 0 0, .int .i64 0] T_api_Route fun b253 =>
                    L.chk a235 [.string x236] <|
                    L.alts [(
                        L.new [.string s_web, .string s_api, .string s_a_b] T_string fun b254 =>
                        L.chk a235 [.string x236] <|
                        L.idx (some ⟨b254, 0, none⟩) x233 3 1 fun a255 =>
                        L.load (.one (.str)) a255 fun (x256 : ByteArray) =>
                        L.call Pr n_damperlaw2_within [.int .i64 p2, .int .i64 61] (.one (.one (.int .i64))) fun (x257 : Int) =>
                        L.chk a255 [.string x256] <|
                        L.chk a235 [.string x236] <|
                        L.store (⟨b253, 0, none⟩) [.string x236, .string x256, .slice none 0 0, .int .i64 x257] <|
                        k2 (⟨b253, 0, none⟩, ())),(
                        L.call Pr n_damperlaw2_within [.int .i64 p2, .int .i64 61] (.one (.one (.int .i64))) fun (x258 : Int) =>
                        L.chk a235 [.string x236] <|
                        L.new [.string s_web, .string s_api, .string s_a_b] T_string fun b259 =>
                        L.chk a235 [.string x236] <|
                        L.idx (some ⟨b259, 0, none⟩) x233 3 1 fun a260 =>
                        L.load (.one (.str)) a260 fun (x261 : ByteArray) =>
                        L.store (⟨b253, 0, none⟩) [.string x236, .string x261, .slice none 0 0, .int .i64 x258] <|
                        k2 (⟨b253, 0, none⟩, ()))])]),(
                L.new [.string s_web, .string s_api, .string s_a_b] T_string fun b262 =>
                L.idx (some ⟨b262, 0, none⟩) x233 3 1 fun a263 =>
                L.load (.one (.str)) a263 fun (x264 : ByteArray) =>
                L.alts [(
                    L.new [.string s_front, .string s_back, .string s_r_1] T_string fun b265 =>
                    L.chk a263 [.string x264] <|
                    L.idx (some ⟨b265, 0, none⟩) x112 3 1 fun a266 =>
                    L.load (.one (.str)) a266 fun (x267 : ByteArray) =>
                    L.alts [(
                        L.call Pr n_damperlaw2_within [.int .i64 p2, .int .i64 61] (.one (.one (.int .i64))) fun (x268 : Int) =>
                        L.chk a266 [.string x267] <|
                        L.chk a263 [.string x264] <|
                        L.new [.string s_, .string s_, .slice none 0 0, .int .i64 0] T_api_Route fun b269 =>
                        L.chk a266 [.string x267] <|
                        L.chk a263 [.string x264] <|
                        L.store (⟨b269, 0, none⟩) [.string x267, .string x264, .slice none 0 0, .int .i64 x268] <|
                        k2 (⟨b269, 0, none⟩, ())),(
                        L.new [.string s_, .string s_, .slice none 0 0, .int .i64 0] T_api_Route fun b270 =>
                        L.chk a266 [.string x267] <|
                        L.chk a263 [.string x264] <|
                        L.call Pr n_damperlaw2_within [.int .i64 p2, .int .i64 61] (.one (.one (.int .i64))) fun (x271 : Int) =>
                        L.chk a266 [.string x267] <|
                        L.chk a263 [.string x264] <|
                        L.store (⟨b270, 0, none⟩) [.string x267, .string x264, .slice none 0 0, .int .i64 x271] <|
                        k2 (⟨b270, 0, none⟩, ()))]),(
                    L.call Pr n_damperlaw2_within [.int .i64 p2, .int .i64 61] (.one (.one (.int .i64))) fun (x272 : Int) =>
                    L.chk a263 [.string x264] <|
                    L.alts [(
                        L.new [.string s_front, .string s_back, .string s_r_1] T_string fun b273 =>
                        L.chk a263 [.string x264] <|
                        L.idx (some ⟨b273, 0, none⟩) x112 3 1 fun a274 =>
                        L.load (.one (.str)) a274 fun (x275 : ByteArray) =>
                        L.new [.string s_, .string s_, .slice none 0 0, .int .i64 0] T_api_Route fun b276 =>
                        L.chk a274 [.string x275] <|
                        L.chk a263 [.string x264] <|
                        L.store (⟨b276, 0, none⟩) [.string x275, .string x264, .slice none 0 0, .int .i64 x272] <|
                        k2 (⟨b276, 0, none⟩, ())),(
                        L.new [.string s_, .string s_, .slice none 0 0, .int .i64 0] T_api_Route fun b277 =>
                        L.chk a263 [.string x264] <|
                        L.new [.string s_front, .string s_back, .string s_r_1] T_string fun b278 =>
                        L.chk a263 [.string x264] <|
                        L.idx (some ⟨b278, 0, none⟩) x112 3 1 fun a279 =>
                        L.load (.one (.str)) a279 fun (x280 : ByteArray) =>
                        L.store (⟨b277, 0, none⟩) [.string x280, .string x264, .slice none 0 0, .int .i64 x272] <|
                        k2 (⟨b277, 0, none⟩, ()))]),(
                    L.new [.string s_, .string s_, .slice none 0 0, .int .i64 0] T_api_Route fun b281 =>
                    L.chk a263 [.string x264] <|
                    L.alts [(
                        L.new [.string s_front, .string s_back, .string s_r_1] T_string fun b282 =>
                        L.chk a263 [.string x264] <|
                        L.idx (some ⟨b282, 0, none⟩) x112 3 1 fun a283 =>
                        L.load (.one (.str)) a283 fun (x284 : ByteArray) =>
                        L.call Pr n_damperlaw2_within [.int .i64 p2, .int .i64 61] (.one (.one (.int .i64))) fun (x285 : Int) =>
                        L.chk a283 [.string x284] <|
                        L.chk a263 [.string x264] <|
                        L.store (⟨b281, 0, none⟩) [.string x284, .string x264, .slice none 0 0, .int .i64 x285] <|
                        k2 (⟨b281, 0, none⟩, ())),(
                        L.call Pr n_damperlaw2_within [.int .i64 p2, .int .i64 61] (.one (.one (.int .i64))) fun (x286 : Int) =>
                        L.chk a263 [.string x264] <|
                        L.new [.string s_front, .string s_back, .string s_r_1] T_string fun b287 =>
                        L.chk a263 [.string x264] <|
                        L.idx (some ⟨b287, 0, none⟩) x112 3 1 fun a288 =>
                        L.load (.one (.str)) a288 fun (x289 : ByteArray) =>
                        L.store (⟨b281, 0, none⟩) [.string x289, .string x264, .slice none 0 0, .int .i64 x286] <|
                        k2 (⟨b281, 0, none⟩, ()))])]),(
                L.call Pr n_damperlaw2_within [.int .i64 p2, .int .i64 61] (.one (.one (.int .i64))) fun (x290 : Int) =>
                L.alts [(
                    L.new [.string s_front, .string s_back, .string s_r_1] T_string fun b291 =>
                    L.idx (some ⟨b291, 0, none⟩) x112 3 1 fun a292 =>
                    L.load (.one (.str)) a292 fun (x293 : ByteArray) =>
                    L.alts [(
                        L.new [.string s_web, .string s_api, .string s_a_b] T_string fun b294 =>
                        L.chk a292 [.string x293] <|
                        L.idx (some ⟨b294, 0, none⟩) x233 3 1 fun a295 =>
                        L.load (.one (.str)) a295 fun (x296 : ByteArray) =>
                        L.new [.string s_, .string s_, .slice none 0 0, .int .i64 0] T_api_Route fun b297 =>
                        L.chk a295 [.string x296] <|
                        L.chk a292 [.string x293] <|
                        L.store (⟨b297, 0, none⟩) [.string x293, .string x296, .slice none 0 0, .int .i64 x290] <|
                        k2 (⟨b297, 0, none⟩, ())),(
                        L.new [.string s_, .string s_, .slice none 0 0, .int .i64 0] T_api_Route fun b298 =>
                        L.chk a292 [.string x293] <|
                        L.new [.string s_web, .string s_api, .string s_a_b] T_string fun b299 =>
                        L.chk a292 [.string x293] <|
                        L.idx (some ⟨b299, 0, none⟩) x233 3 1 fun a300 =>
                        L.load (.one (.str)) a300 fun (x301 : ByteArray) =>
                        L.store (⟨b298, 0, none⟩) [.string x293, .string x301, .slice none 0 0, .int .i64 x290] <|
                        k2 (⟨b298, 0, none⟩, ()))]),(
                    L.new [.string s_web, .string s_api, .string s_a_b] T_string fun b302 =>
                    L.idx (some ⟨b302, 0, none⟩) x233 3 1 fun a303 =>
                    L.load (.one (.str)) a303 fun (x304 : ByteArray) =>
                    L.alts [(
                        L.new [.string s_front, .string s_back, .string s_r_1] T_string fun b305 =>
                        L.chk a303 [.string x304] <|
                        L.idx (some ⟨b305, 0, none⟩) x112 3 1 fun a306 =>
                        L.load (.one (.str)) a306 fun (x307 : ByteArray) =>
                        L.new [.string s_, .string s_, .slice none 0 0, .int .i64 0] T_api_Route fun b308 =>
                        L.chk a306 [.string x307] <|
                        L.chk a303 [.string x304] <|
                        L.store (⟨b308, 0, none⟩) [.string x307, .string x304, .slice none 0 0, .int .i64 x290] <|
                        k2 (⟨b308, 0, none⟩, ())),(
                        L.new [.string s_, .string s_, .slice none 0 0, .int .i64 0] T_api_Route fun b309 =>
                        L.chk a303 [.string x304] <|
                        L.new [.string s_front, .string s_back, .string s_r_1] T_string fun b310 =>
                        L.chk a303 [.string x304] <|
                        L.idx (some ⟨b310, 0, none⟩) x112 3 1 fun a311 =>
                        L.load (.one (.str)) a311 fun (x312 : ByteArray) =>
                        L.store (⟨b309, 0, none⟩) [.string x312, .string x304, .slice none 0 0, .int .i64 x290] <|
                        k2 (⟨b309, 0, none⟩, ()))]),(
                    L.new [.string s_, .string s_, .slice none 0 0, .int .i64 0] T_api_Route fun b313 =>
                    L.alts [(
                        L.new [.string s_front, .string s_back, .string s_r_1] T_string fun b314 =>
                        L.idx (some ⟨b314, 0, none⟩) x112 3 1 fun a315 =>
                        L.load (.one (.str)) a315 fun (x316 : ByteArray) =>
                        L.new [.string s_web, .string s_api, .string s_a_b] T_string fun b317 =>
                        L.chk a315 [.string x316] <|
                        L.idx (some ⟨b317, 0, none⟩) x233 3 1 fun a318 =>
                        L.load (.one (.str)) a318 fun (x319 : ByteArray) =>
                        L.store (⟨b313, 0, none⟩) [.string x316, .string x319, .slice none 0 0, .int .i64 x290] <|
                        k2 (⟨b313, 0, none⟩, ())),(
                        L.new [.string s_web, .string s_api, .string s_a_b] T_string fun b320 =>
                        L.idx (some ⟨b320, 0, none⟩) x233 3 1 fun a321 =>
                        L.load (.one (.str)) a321 fun (x322 : ByteArray) =>
                        L.new [.string s_front, .string s_back, .string s_r_1] T_string fun b323 =>
                        L.chk a321 [.string x322] <|
                        L.idx (some ⟨b323, 0, none⟩) x112 3 1 fun a324 =>
                        L.load (.one (.str)) a324 fun (x325 : ByteArray) =>
                        L.store (⟨b313, 0, none⟩) [.string x325, .string x322, .slice none 0 0, .int .i64 x290] <|
                        k2 (⟨b313, 0, none⟩, ()))])]),(
                L.new [.string s_, .string s_, .slice none 0 0, .int .i64 0] T_api_Route fun b326 =>
                L.alts [(
                    L.new [.string s_front, .string s_back, .string s_r_1] T_string fun b327 =>
                    L.idx (some ⟨b327, 0, none⟩) x112 3 1 fun a328 =>
                    L.load (.one (.str)) a328 fun (x329 : ByteArray) =>
                    L.alts [(
                        L.new [.string s_web, .string s_api, .string s_a_b] T_string fun b330 =>
                        L.chk a328 [.string x329] <|
                        L.idx (some ⟨b330, 0, none⟩) x233 3 1 fun a331 =>
                        L.load (.one (.str)) a331 fun (x332 : ByteArray) =>
                        L.call Pr n_damperlaw2_within [.int .i64 p2, .int .i64 61] (.one (.one (.int .i64))) fun (x333 : Int) =>
                        L.chk a331 [.string x332] <|
                        L.chk a328 [.string x329] <|
                        L.store (⟨b326, 0, none⟩) [.string x329, .string x332, .slice none 0 0, .int .i64 x333] <|
                        k2 (⟨b326, 0, none⟩, ())),(
                        L.call Pr n_damperlaw2_within [.int .i64 p2, .int .i64 61] (.one (.one (.int .i64))) fun (x334 : Int) =>
                        L.chk a328 [.string x329] <|
                        L.new [.string s_web, .string s_api, .string s_a_b] T_string fun b335 =>
                        L.chk a328 [.string x329] <|
                        L.idx (some ⟨b335, 0, none⟩) x233 3 1 fun a336 =>
                        L.load (.one (.str)) a336 fun (x337 : ByteArray) =>
                        L.store (⟨b326, 0, none⟩) [.string x329, .string x337, .slice none 0 0, .int .i64 x334] <|
                        k2 (⟨b326, 0, none⟩, ()))]),(
                    L.new [.string s_web, .string s_api, .string s_a_b] T_string fun b338 =>
                    L.idx (some ⟨b338, 0, none⟩) x233 3 1 fun a339 =>
                    L.load (.one (.str)) a339 fun (x340 : ByteArray) =>
                    L.alts [(
                        L.new [.string s_front, .string s_back, .string s_r_1] T_string fun b341 =>
                        L.chk a339 [.string x340] <|
                        L.idx (some ⟨b341, 0, none⟩) x112 3 1 fun a342 =>
                        L.load (.one (.str)) a342 fun (x343 : ByteArray) =>
                        L.call Pr n_damperlaw2_within [.int .i64 p2, .int .i64 61] (.one (.one (.int .i64))) fun (x344 : Int) =>
                        L.chk a342 [.string x343] <|
                        L.chk a339 [.string x340] <|
                        L.store (⟨b326, 0, none⟩) [.string x343, .string x340, .slice none 0 0, .int .i64 x344] <|
                        k2 (⟨b326, 0, none⟩, ())),(
                        L.call Pr n_damperlaw2_within [.int .i64 p2, .int .i64 61] (.one (.one (.int .i64))) fun (x345 : Int) =>
                        L.chk a339 [.string x340] <|
                        L.new [.string s_front, .string s_back, .string s_r_1] T_string fun b346 =>
                        L.chk a339 [.string x340] <|
                        L.idx (some ⟨b346, 0, none⟩) x112 3 1 fun a347 =>
                        L.load (.one (.str)) a347 fun (x348 : ByteArray) =>
                        L.store (⟨b326, 0, none⟩) [.string x348, .string x340, .slice none 0 0, .int .i64 x345] <|
                        k2 (⟨b326, 0, none⟩, ()))]),(
                    L.call Pr n_damperlaw2_within [.int .i64 p2, .int .i64 61] (.one (.one (.int .i64))) fun (x349 : Int) =>
                    L.alts [(
                        L.new [.string s_front, .string s_back, .string s_r_1] T_string fun b350 =>
                        L.idx (some ⟨b350, 0, none⟩) x112 3 1 fun a351 =>
                        L.load (.one (.str)) a351 fun (x352 : ByteArray) =>
                        L.new [.string s_web, .string s_api, .string s_a_b] T_string fun b353 =>
                        L.chk a351 [.string x352] <|
                        L.idx (some ⟨b353, 0, none⟩) x233 3 1 fun a354 =>
                        L.load (.one (.str)) a354 fun (x355 : ByteArray) =>
                        L.store (⟨b326, 0, none⟩) [.string x352, .string x355, .slice none 0 0, .int .i64 x349] <|
                        k2 (⟨b326, 0, none⟩, ())),(
                        L.new [.string s_web, .string s_api, .string s_a_b] T_string fun b356 =>
                        L.idx (some ⟨b356, 0, none⟩) x233 3 1 fun a357 =>
                        L.load (.one (.str)) a357 fun (x358 : ByteArray) =>
                        L.new [.string s_front, .string s_back, .string s_r_1] T_string fun b359 =>
                        L.chk a357 [.string x358] <|
                        L.idx (some ⟨b359, 0, none⟩) x112 3 1 fun a360 =>
                        L.load (.one (.str)) a360 fun (x361 : ByteArray) =>
                        L.store (⟨b326, 0, none⟩) [.string x361, .string x358, .slice none 0 0, .int .i64 x349] <|
                        k2 (⟨b326, 0, none⟩, ()))])])]),(
            L.new [.string s_, .string s_, .slice none 0 0, .int .i64 0] T_api_Route fun b362 =>
            L.alts [(
                L.new [.string s_front, .string s_back, .string s_r_1] T_string fun b363 =>
                L.idx (some ⟨b363, 0, none⟩) x112 3 1 fun a364 =>
                L.load (.one (.str)) a364 fun (x365 : ByteArray) =>
                L.alts [(
                    L.new [.string s_web, .string s_api, .string s_a_b] T_string fun b366 =>
                    L.chk a364 [.string x365] <|
                    L.call Pr n_damperlaw2_within [.int .i64 (IntKind.wrap .i64 (Int.tdiv p0 3)), .int .i64 3] (.one (.one (.int .i64))) fun (x367 : Int) =>
                    L.chk a364 [.string x365] <|
                    L.idx (some ⟨b366, 0, none⟩) x367 3 1 fun a368 =>
                    L.load (.one (.str)) a368 fun (x369 : ByteArray) =>
                    L.call Pr n_damperlaw2_within [.int .i64 p2, .int .i64 61] (.one (.one (.int .i64))) fun (x370 : Int) =>
                    L.chk a368 [.string x369] <|
                    L.chk a364 [.string x365] <|
                    L.store (⟨b362, 0, none⟩) [.string x365, .string x369, .slice none 0 0, .int .i64 x370] <|
                    k2 (⟨b362, 0, none⟩, ())),(
                    L.call Pr n_damperlaw2_within [.int .i64 (IntKind.wrap .i64 (Int.tdiv p0 3)), .int .i64 3] (.one (.one (.int .i64))) fun (x371 : Int) =>
                    L.chk a364 [.string x365] <|
                    L.alts [(
                        L.new [.string s_web, .string s_api, .string s_a_b] T_string fun b372 =>
                        L.chk a364 [.string x365] <|
                        L.idx (some ⟨b372, 0, none⟩) x371 3 1 fun a373 =>
                        L.load (.one (.str)) a373 fun (x374 : ByteArray) =>
                        L.call Pr n_damperlaw2_within [.int .i64 p2, .int .i64 61] (.one (.one (.int .i64))) fun (x375 : Int) =>
                        L.chk a373 [.string x374] <|
                        L.chk a364 [.string x365] <|
                        L.store (⟨b362, 0, none⟩) [.string x365, .string x374, .slice none 0 0, .int .i64 x375] <|
                        k2 (⟨b362, 0, none⟩, ())),(
                        L.call Pr n_damperlaw2_within [.int .i64 p2, .int .i64 61] (.one (.one (.int .i64))) fun (x376 : Int) =>
                        L.chk a364 [.string x365] <|
                        L.new [.string s_web, .string s_api, .string s_a_b] T_string fun b377 =>
                        L.chk a364 [.string x365] <|
                        L.idx (some ⟨b377, 0, none⟩) x371 3 1 fun a378 =>
                        L.load (.one (.str)) a378 fun (x379 : ByteArray) =>
                        L.store (⟨b362, 0, none⟩) [.string x365, .string x379, .slice none 0 0, .int .i64 x376] <|
                        k2 (⟨b362, 0, none⟩, ()))])]),(
                L.new [.string s_web, .string s_api, .string s_a_b] T_string fun b380 =>
                L.alts [(
                    L.new [.string s_front, .string s_back, .string s_r_1] T_string fun b381 =>
                    L.idx (some ⟨b381, 0, none⟩) x112 3 1 fun a382 =>
                    L.load (.one (.str)) a382 fun (x383 : ByteArray) =>
                    L.call Pr n_damperlaw2_within [.int .i64 (IntKind.wrap .i64 (Int.tdiv p0 3)), .int .i64 3] (.one (.one (.int .i64))) fun (x384 : Int) =>
                    L.chk a382 [.string x383] <|
                    L.idx (some ⟨b380, 0, none⟩) x384 3 1 fun a385 =>
                    L.load (.one (.str)) a385 fun (x386 : ByteArray) =>
                    L.call Pr n_damperlaw2_within [.int .i64 p2, .int .i64 61] (.one (.one (.int .i64))) fun (x387 : Int) =>
                    L.chk a385 [.string x386] <|
                    L.chk a382 [.string x383] <|
                    L.store (⟨b362, 0, none⟩) [.string x383, .string x386, .slice none 0 0, .int .i64 x387] <|
                    k2 (⟨b362, 0, none⟩, ())),(
                    L.call Pr n_damperlaw2_within [.int .i64 (IntKind.wrap .i64 (Int.tdiv p0 3)), .int .i64 3] (.one (.one (.int .i64))) fun (x388 : Int) =>
                    L.idx (some ⟨b380, 0, none⟩) x388 3 1 fun a389 =>
                    L.load (.one (.str)) a389 fun (x390 : ByteArray) =>
                    L.alts [(
                        L.new [.string s_front, .string s_back, .string s_r_1] T_string fun b391 =>
                        L.chk a389 [.string x390] <|
                        L.idx (some ⟨b391, 0, none⟩) x112 3 1 fun a392 =>
                        L.load (.one (.str)) a392 fun (x393 : ByteArray) =>
                        L.call Pr n_damperlaw2_within [.int .i64 p2, .int .i64 61] (.one (.one (.int .i64))) fun (x394 : Int) =>
                        L.chk a392 [.string x393] <|
                        L.chk a389 [.string x390] <|
                        L.store (⟨b362, 0, none⟩) [.string x393, .string x390, .slice none 0 0, .int .i64 x394] <|
                        k2 (⟨b362, 0, none⟩, ())),(
                        L.call Pr n_damperlaw2_within [.int .i64 p2, .int .i64 61] (.one (.one (.int .i64))) fun (x395 : Int) =>
                        L.chk a389 [.string x390] <|
                        L.new [.string s_front, .string s_back, .string s_r_1] T_string fun b396 =>
                        L.chk a389 [.string x390] <|
                        L.idx (some ⟨b396, 0, none⟩) x112 3 1 fun a397 =>
                        L.load (.one (.str)) a397 fun (x398 : ByteArray) =>
                        L.store (⟨b362, 0, none⟩) [.string x398, .string x390, .slice none 0 0, .int .i64 x395] <|
                        k2 (⟨b362, 0, none⟩, ()))])]),(
                L.call Pr n_damperlaw2_within [.int .i64 (IntKind.wrap .i64 (Int.tdiv p0 3)), .int .i64 3] (.one (.one (.int .i64))) fun (x399 : Int) =>
                L.alts [(
                    L.new [.string s_front, .string s_back, .string s_r_1] T_string fun b400 =>
                    L.idx (some ⟨b400, 0, none⟩) x112 3 1 fun a401 =>
                    L.load (.one (.str)) a401 fun (x402 : ByteArray) =>
                    L.alts [(
                        L.new [.string s_web, .string s_api, .string s_a_b] T_string fun b403 =>
                        L.chk a401 [.string x402] <|
                        L.idx (some ⟨b403, 0, none⟩) x399 3 1 fun a404 =>
                        L.load (.one (.str)) a404 fun (x405 : ByteArray) =>
                        L.call Pr n_damperlaw2_within [.int .i64 p2, .int .i64 61] (.one (.one (.int .i64))) fun (x406 : Int) =>
                        L.chk a404 [.string x405] <|
                        L.chk a401 [.string x402] <|
                        L.store (⟨b362, 0, none⟩) [.string x402, .string x405, .slice none 0 0, .int .i64 x406] <|
                        k2 (⟨b362, 0, none⟩, ())),(
                        L.call Pr n_damperlaw2_within [.int .i64 p2, .int .i64 61] (.one (.one (.int .i64))) fun (x407 : Int) =>
                        L.chk a401 [.string x402] <|
                        L.new [.string s_web, .string s_api, .string s_a_b] T_string fun b408 =>
                        L.chk a401 [.string x402] <|
                        L.idx (some ⟨b408, 0, none⟩) x399 3 1 fun a409 =>
                        L.load (.one (.str)) a409 fun (x410 : ByteArray) =>
                        L.store (⟨b362, 0, none⟩) [.string x402, .string x410, .slice none 0 0, .int .i64 x407] <|
                        k2 (⟨b362, 0, none⟩, ()))]),(
                    L.new [.string s_web, .string s_api, .string s_a_b] T_string fun b411 =>
                    L.idx (some ⟨b411, 0, none⟩) x399 3 1 fun a412 =>
                    L.load (.one (.str)) a412 fun (x413 : ByteArray) =>
                    L.alts [(
                        L.new [.string s_front, .string s_back, .string s_r_1] T_string fun b414 =>
                        L.chk a412 [.string x413] <|
                        L.idx (some ⟨b414, 0, none⟩) x112 3 1 fun a415 =>
                        L.load (.one (.str)) a415 fun (x416 : ByteArray) =>
                        L.call Pr n_damperlaw2_within [.int .i64 p2, .int .i64 61] (.one (.one (.int .i64))) fun (x417 : Int) =>
                        L.chk a415 [.string x416] <|
                        L.chk a412 [.string x413] <|
                        L.store (⟨b362, 0, none⟩) [.string x416, .string x413, .slice none 0 0, .int .i64 x417] <|
                        k2 (⟨b362, 0, none⟩, ())),(
                        L.call Pr n_damperlaw2_within [.int .i64 p2, .int .i64 61] (.one (.one (.int .i64))) fun (x418 : Int) =>
                        L.chk a412 [.string x413] <|
                        L.new [.string s_front, .string s_back, .string s_r_1] T_string fun b419 =>
                        L.chk a412 [.string x413] <|
                        L.idx (some ⟨b419, 0, none⟩) x112 3 1 fun a420 =>
                        L.load (.one (.str)) a420 fun (x421 : ByteArray) =>
                        L.store (⟨b362, 0, none⟩) [.string x421, .string x413, .slice none 0 0, .int .i64 x418] <|
                        k2 (⟨b362, 0, none⟩, ()))]),(
                    L.call Pr n_damperlaw2_within [.int .i64 p2, .int .i64 61] (.one (.one (.int .i64))) fun (x422 : Int) =>
                    L.alts [(
                        L.new [.string s_front, .string s_back, .string s_r_1] T_string fun b423 =>
                        L.idx (some ⟨b423, 0, none⟩) x112 3 1 fun a424 =>
                        L.load (.one (.str)) a424 fun (x425 : ByteArray) =>
                        L.new [.string s_web, .string s_api, .string s_a_b] T_string fun b426 =>
                        L.chk a424 [.string x425] <|
                        L.idx (some ⟨b426, 0, none⟩) x399 3 1 fun a427 =>
                        L.load (.one (.str)) a427 fun (x428 : ByteArray) =>
                        L.store (⟨b362, 0, none⟩) [.string x425, .string x428, .slice none 0 0, .int .i64 x422] <|
                        k2 (⟨b362, 0, none⟩, ())),(
                        L.new [.string s_web, .string s_api, .string s_a_b] T_string fun b429 =>
                        L.idx (some ⟨b429, 0, none⟩) x399 3 1 fun a430 =>
                        L.load (.one (.str)) a430 fun (x431 : ByteArray) =>
                        L.new [.string s_front, .string s_back, .string s_r_1] T_string fun b432 =>
                        L.chk a430 [.string x431] <|
                        L.idx (some ⟨b432, 0, none⟩) x112 3 1 fun a433 =>
                        L.load (.one (.str)) a433 fun (x434 : ByteArray) =>
                        L.store (⟨b362, 0, none⟩) [.string x434, .string x431, .slice none 0 0, .int .i64 x422] <|
                        k2 (⟨b362, 0, none⟩, ()))])])])]),(
        L.new [.string s_web, .string s_api, .string s_a_b] T_string fun b435 =>
        L.alts [(
            L.new [.string s_front, .string s_back, .string s_r_1] T_string fun b436 =>
            L.alts [(
                L.call Pr n_damperlaw2_within [.int .i64 p0, .int .i64 3] (.one (.one (.int .i64))) fun (x437 : Int) =>
                L.idx (some ⟨b436, 0, none⟩) x437 3 1 fun a438 =>
                L.load (.one (.str)) a438 fun (x439 : ByteArray) =>
                L.alts [(
                    L.call Pr n_damperlaw2_within [.int .i64 (IntKind.wrap .i64 (Int.tdiv p0 3)), .int .i64 3] (.one (.one (.int .i64))) fun (x440 : Int) =>
                    L.chk a438 [.string x439] <|
                    L.idx (some ⟨b435, 0, none⟩) x440 3 1 fun a441 =>
                    L.load (.one (.str)) a441 fun (x442 : ByteArray) =>
                    L.alts [(
                        L.call Pr n_damperlaw2_within [.int .i64 p2, .int .i64 61] (.one (.one (.int .i64))) fun (x443 : Int) =>
                        L.chk a441 [.string x442] <|
                        L.chk a438 [.string x439] <|
                        L.new [.string s_, .string s_, .slice none 0 0, .int .i64 0] T_api_Route fun b444 =>
                        L.chk a441 [.string x442] <|
                        L.chk a438 [.string x439] <|
                        L.store (⟨b444, 0, none⟩) [.string x439, .string x442, .slice none 0 0, .int .i64 x443] <|
                        k2 (⟨b444, 0, none⟩, ())),(
                        L.new [.string s_, .string s_, .slice none 0 0, .int .i64 0] T_api_Route fun b445 =>
                        L.chk a441 [.string x442] <|
                        L.chk a438 [.string x439] <|
                        L.call Pr n_damperlaw2_within [.int .i64 p2, .int .i64 61] (.one (.one (.int .i64))) fun (x446 : Int) =>
                        L.chk a441 [.string x442] <|
                        L.chk a438 [.string x439] <|
                        L.store (⟨b445, 0, none⟩) [.string x439, .string x442, .slice none 0 0, .int .i64 x446] <|
                        k2 (⟨b445, 0, none⟩, ()))]),(
                    L.new [.string s_, .string s_, .slice none 0 0, .int .i64 0] T_api_Route fun b447 =>
                    L.chk a438 [.string x439] <|
                    L.call Pr n_damperlaw2_within [.int .i64 (IntKind.wrap .i64 (Int.tdiv p0 3)), .int .i64 3] (.one (.one (.int .i64))) fun (x448 : Int) =>
                    L.chk a438 [.string x439] <|
                    L.idx (some ⟨b435, 0, none⟩) x448 3 1 fun a449 =>
                    L.load (.one (.str)) a449 fun (x450 : ByteArray) =>
                    L.call Pr n_damperlaw2_within [.int .i64 p2, .int .i64 61] (.one (.one (.int .i64))) fun (x451 : Int) =>
                    L.chk a449 [.string x450] <|
                    L.chk a438 [.string x439] <|
                    L.store (⟨b447, 0, none⟩) [.string x439, .string x450, .slice none 0 0, .int .i64 x451] <|
                    k2 (⟨b447, 0, none⟩, ()))]),(
                L.new [.string s_, .string s_, .slice none 0 0, .int .i64 0] T_api_Route fun b452 =>
                L.call Pr n_damperlaw2_within [.int .i64 p0, .int .i64 3] (.one (.one (.int .i64))) fun (x453 : Int) =>
                L.idx (some ⟨b436, 0, none⟩) x453 3 1 fun a454 =>
                L.load (.one (.str)) a454 fun (x455 : ByteArray) =>
                L.call Pr n_damperlaw2_within [.int .i64 (IntKind.wrap .i64 (Int.tdiv p0 3)), .int .i64 3] (.one (.one (.int .i64))) fun (x456 : Int) =>
                L.chk a454 [.string x455] <|
                L.idx (some ⟨b435, 0, none⟩) x456 3 1 fun a457 =>
                L.load (.one (.str)) a457 fun (x458 : ByteArray) =>
                L.call Pr n_damperlaw2_within [.int .i64 p2, .int .i64 61] (.one (.one (.int .i64))) fun (x459 : Int) =>
                L.chk a457 [.string x458] <|
                L.chk a454 [.string x455] <|
                L.store (⟨b452, 0, none⟩) [.string x455, .string x458, .slice none 0 0, .int .i64 x459] <|
                k2 (⟨b452, 0, none⟩, ()))]),(
            L.call Pr n_damperlaw2_within [.int .i64 p0, .int .i64 3] (.one (.one (.int .i64))) fun (x460 : Int) =>
            L.alts [(
                L.new [.string s_front, .string s_back, .string s_r_1] T_string fun b461 =>
                L.idx (some ⟨b461, 0, none⟩) x460 3 1 fun a462 =>
                L.load (.one (.str)) a462 fun (x463 : ByteArray) =>
                L.alts [(
                    L.call Pr n_damperlaw2_within [.int .i64 (IntKind.wrap .i64 (Int.tdiv p0 3)), .int .i64 3] (.one (.one (.int .i64))) fun (x464 : Int) =>
                    L.chk a462 [.string x463] <|
                    L.idx (some ⟨b435, 0, none⟩) x464 3 1 fun a465 =>
                    L.load (.one (.str)) a465 fun (x466 : ByteArray) =>
                    L.alts [(
                        L.call Pr n_damperlaw2_within [.int .i64 p2, .int .i64 61] (.one (.one (.int .i64))) fun (x467 : Int) =>
                        L.chk a465 [.string x466] <|
                        L.chk a462 [.string x463] <|
                        L.new [.string s_, .string s_, .slice none 0 0, .int .i64 0] T_api_Route fun b468 =>
                        L.chk a465 [.string x466] <|
                        L.chk a462 [.string x463] <|
                        L.store (⟨b468, 0, none⟩) [.string x463, .string x466, .slice none 0 0, .int .i64 x467] <|
                        k2 (⟨b468, 0, none⟩, ())),(
                        L.new [.string s_, .string s_, .slice none 0 0, .int .i64 0] T_api_Route fun b469 =>
                        L.chk a465 [.string x466] <|
                        L.chk a462 [.string x463] <|
                        L.call Pr n_damperlaw2_within [.int .i64 p2, .int .i64 61] (.one (.one (.int .i64))) fun (x470 : Int) =>
                        L.chk a465 [.string x466] <|
                        L.chk a462 [.string x463] <|
                        L.store (⟨b469, 0, none⟩) [.string x463, .string x466, .slice none 0 0, .int .i64 x470] <|
                        k2 (⟨b469, 0, none⟩, ()))]),(
                    L.new [.string s_, .string s_, .slice none 0 0, .int .i64 0] T_api_Route fun b471 =>
                    L.chk a462 [.string x463] <|
                    L.call Pr n_damperlaw2_within [.int .i64 (IntKind.wrap .i64 (Int.tdiv p0 3)), .int .i64 3] (.one (.one (.int .i64))) fun (x472 : Int) =>
                    L.chk a462 [.string x463] <|
                    L.idx (some ⟨b435, 0, none⟩) x472 3 1 fun a473 =>
                    L.load (.one (.str)) a473 fun (x474 : ByteArray) =>
                    L.call Pr n_damperlaw2_within [.int .i64 p2, .int .i64 61] (.one (.one (.int .i64))) fun (x475 : Int) =>
                    L.chk a473 [.string x474] <|
                    L.chk a462 [.string x463] <|
                    L.store (⟨b471, 0, none⟩) [.string x463, .string x474, .slice none 0 0, .int .i64 x475] <|
                    k2 (⟨b471, 0, none⟩, ()))]),(
                L.call Pr n_damperlaw2_within [.int .i64 (IntKind.wrap .i64 (Int.tdiv p0 3)), .int .i64 3] (.one (.one (.int .i64))) fun (x476 : Int) =>
                L.idx (some ⟨b435, 0, none⟩) x476 3 1 fun a477 =>
                L.load (.one (.str)) a477 fun (x478 : ByteArray) =>
                L.alts [(
                    L.new [.string s_front, .string s_back, .string s_r_1] T_string fun b479 =>
                    L.chk a477 [.string x478] <|
                    L.idx (some ⟨b479, 0, none⟩) x460 3 1 fun a480 =>
                    L.load (.one (.str)) a480 fun (x481 : ByteArray) =>
                    L.alts [(
                        L.call Pr n_damperlaw2_within [.int .i64 p2, .int .i64 61] (.one (.one (.int .i64))) fun (x482 : Int) =>
                        L.chk a480 [.string x481] <|
                        L.chk a477 [.string x478] <|
                        L.new [.string s_, .string s_, .slice none 0 0, .int .i64 0] T_api_Route fun b483 =>
                        L.chk a480 [.string x481] <|
                        L.chk a477 [.string x478] <|
                        L.store (⟨b483, 0, none⟩) [.string x481, .string x478, .slice none 0 0, .int .i64 x482] <|
                        k2 (⟨b483, 0, none⟩, ())),(
                        L.new [.string s_, .string s_, .slice none 0 0, .int .i64 0] T_api_Route fun b484 =>
                        L.chk a480 [.string x481] <|
                        L.chk a477 [.string x478] <|
                        L.call Pr n_damperlaw2_within [.int .i64 p2, .int .i64 61] (.one (.one (.int .i64))) fun (x485 : Int) =>
                        L.chk a480 [.string x481] <|
                        L.chk a477 [.string x478] <|
                        L.store (⟨b484, 0, none⟩) [.string x481, .string x478, .slice none 0 0, .int .i64 x485] <|
                        k2 (⟨b484, 0, none⟩, ()))]),(
                    L.call Pr n_damperlaw2_within [.int .i64 p2, .int .i64 61] (.one (.one (.int .i64))) fun (x486 : Int) =>
                    L.chk a477 [.string x478] <|
                    L.alts [(
                        L.new [.string s_front, .string s_back, .string s_r_1] T_string fun b487 =>
                        L.chk a477 [.string x478] <|
                        L.idx (some ⟨b487, 0, none⟩) x460 3 1 fun a488 =>
                        L.load (.one (.str)) a488 fun (x489 : ByteArray) =>
                        L.new [.string s_, .string s_, .slice none 0 0, .int .i64 0] T_api_Route fun b490 =>
                        L.chk a488 [.string x489] <|
                        L.chk a477 [.string x478] <|
                        L.store (⟨b490, 0, none⟩) [.string x489, .string x478, .slice none 0 0, .int .i64 x486] <|
                        k2 (⟨b490, 0, none⟩, ())),(
                        L.new [.string s_, .string s_, .slice none 0 0, .int .i64 0] T_api_Route fun b491 =>
                        L.chk a477 [.string x478] <|
                        L.new [.string s_front, .string s_back, .string s_r_1] T_string fun b492 =>
                        L.chk a477 [.string x478] <|
                        L.idx (some ⟨b492, 0, none⟩) x460 3 1 fun a493 =>
                        L.load (.one (.str)) a493 fun (x494 : ByteArray) =>
                        L.store (⟨b491, 0, none⟩) [.string x494, .string x478, .slice none 0 0, .int .i64 x486] <|
                        k2 (⟨b491, 0, none⟩, ()))]),(
                    L.new [.string s_, .string s_, .slice none 0 0, .int .i64 0] T_api_Route fun b495 =>
                    L.chk a477 [.string x478] <|
                    L.alts [(
                        L.new [.string s_front, .string s_back, .string s_r_1] T_string fun b496 =>
                        L.chk a477 [.string x478] <|
                        L.idx (some ⟨b496, 0, none⟩) x460 3 1 fun a497 =>
                        L.load (.one (.str)) a497 fun (x498 : ByteArray) =>
                        L.call Pr n_damperlaw2_within [.int .i64 p2, .int .i64 61] (.one (.one (.int .i64))) fun (x499 : Int) =>
                        L.chk a497 [.string x498] <|
                        L.chk a477 [.string x478] <|
                        L.store (⟨b495, 0, none⟩) [.string x498, .string x478, .slice none 0 0, .int .i64 x499] <|
                        k2 (⟨b495, 0, none⟩, ())),(
                        L.call Pr n_damperlaw2_within [.int .i64 p2, .int .i64 61] (.one (.one (.int .i64))) fun (x500 : Int) =>
                        L.chk a477 [.string x478] <|
                        L.new [.string s_front, .string s_back, .string s_r_1] T_string fun b501 =>
                        L.chk a477 [.string x478] <|
                        L.idx (some ⟨b501, 0, none⟩) x460 3 1 fun a502 =>
                        L.load (.one (.str)) a502 fun (x503 : ByteArray) =>
                        L.store (⟨b495, 0, none⟩) [.string x503, .string x478, .slice none 0 0, .int .i64 x500] <|
                        k2 (⟨b495, 0, none⟩, ()))])]),(
                L.new [.string s_, .string s_, .slice none 0 0, .int .i64 0] T_api_Route fun b504 =>
                L.alts [(
                    L.new [.string s_front, .string s_back, .string s_r_1] T_string fun b505 =>
                    L.idx (some ⟨b505, 0, none⟩) x460 3 1 fun a506 =>
                    L.load (.one (.str)) a506 fun (x507 : ByteArray) =>
                    L.call Pr n_damperlaw2_within [.int .i64 (IntKind.wrap .i64 (Int.tdiv p0 3)), .int .i64 3] (.one (.one (.int .i64))) fun (x508 : Int) =>
                    L.chk a506 [.string x507] <|
                    L.idx (some ⟨b435, 0, none⟩) x508 3 1 fun a509 =>
                    L.load (.one (.str)) a509 fun (x510 : ByteArray) =>
                    L.call Pr n_damperlaw2_within [.int .i64 p2, .int .i64 61] (.one (.one (.int .i64))) fun (x511 : Int) =>
                    L.chk a509 [.string x510] <|
                    L.chk a506 [.string x507] <|
                    L.store (⟨b504, 0, none⟩) [.string x507, .string x510, .slice none 0 0, .int .i64 x511] <|
                    k2 (⟨b504, 0, none⟩, ())),(
                    L.call Pr n_damperlaw2_within [.int .i64 (IntKind.wrap .i64 (Int.tdiv p0 3)), .int .i64 3] (.one (.one (.int .i64))) fun (x512 : Int) =>
                    L.idx (some ⟨b435, 0, none⟩) x512 3 1 fun a513 =>
                    L.load (.one (.str)) a513 fun (x514 : ByteArray) =>
                    L.alts [(
                        L.new [.string s_front, .string s_back, .string s_r_1] T_string fun b515 =>
                        L.chk a513 [.string x514] <|
                        L.idx (some ⟨b515, 0, none⟩) x460 3 1 fun a516 =>
                        L.load (.one (.str)) a516 fun (x517 : ByteArray) =>
                        L.call Pr n_damperlaw2_within [.int .i64 p2, .int .i64 61] (.one (.one (.int .i64))) fun (x518 : Int) =>
                        L.chk a516 [.string x517] <|
                        L.chk a513 [.string x514] <|
                        L.store (⟨b504, 0, none⟩) [.string x517, .string x514, .slice none 0 0, .int .i64 x518] <|
                        k2 (⟨b504, 0, none⟩, ())),(
                        L.call Pr n_damperlaw2_within [.int .i64 p2, .int .i64 61] (.one (.one (.int .i64))) fun (x519 : Int) =>
                        L.chk a513 [.string x514] <|
                        L.new [.string s_front, .string s_back, .string s_r_1] T_string fun b520 =>
                        L.chk a513 [.string x514] <|
                        L.idx (some ⟨b520, 0, none⟩) x460 3 1 fun a521 =>
                        L.load (.one (.str)) a521 fun (x522 : ByteArray) =>
                        L.store (⟨b504, 0, none⟩) [.string x522, .string x514, .slice none 0 0, .int .i64 x519] <|
                        k2 (⟨b504, 0, none⟩, ()))])])]),(
            L.new [.string s_, .string s_, .slice none 0 0, .int .i64 0] T_api_Route fun b523 =>
            L.alts [(
                L.new [.string s_front, .string s_back, .string s_r_1] T_string fun b524 =>
                L.call Pr n_damperlaw2_within [.int .i64 p0, .int .i64 3] (.one (.one (.int .i64))) fun (x525 : Int) =>
                L.idx (some ⟨b524, 0, none⟩) x525 3 1 fun a526 =>
                L.load (.one (.str)) a526 fun (x527 : ByteArray) =>
                L.call Pr n_damperlaw2_within [.int .i64 (IntKind.wrap .i64 (Int.tdiv p0 3)), .int .i64 3] (.one (.one (.int .i64))) fun (x528 : Int) =>
                L.chk a526 [.string x527] <|
                L.idx (some ⟨b435, 0, none⟩) x528 3 1 fun a529 =>
                L.load (.one (.str)) a529 fun (x530 : ByteArray) =>
                L.call Pr n_damperlaw2_within [.int .i64 p2, .int .i64 61] (.one (.one (.int .i64))) fun (x531 : Int) =>
                L.chk a529 [.string x530] <|
                L.chk a526 [.string x527] <|
                L.store (⟨b523, 0, none⟩) [.string x527, .string x530, .slice none 0 0, .int .i64 x531] <|
                k2 (⟨b523, 0, none⟩, ())),(
                L.call Pr n_damperlaw2_within [.int .i64 p0, .int .i64 3] (.one (.one (.int .i64))) fun (x532 : Int) =>
                L.alts [(
                    L.new [.string s_front, .string s_back, .string s_r_1] T_string fun b533 =>
                    L.idx (some ⟨b533, 0, none⟩) x532 3 1 fun a534 =>
                    L.load (.one (.str)) a534 fun (x535 : ByteArray) =>
                    L.call Pr n_damperlaw2_within [.int .i64 (IntKind.wrap .i64 (Int.tdiv p0 3)), .int .i64 3] (.one (.one (.int .i64))) fun (x536 : Int) =>
                    L.chk a534 [.string x535] <|
                    L.idx (some ⟨b435, 0, none⟩) x536 3 1 fun a537 =>
                    L.load (.one (.str)) a537 fun (x538 : ByteArray) =>
                    L.call Pr n_damperlaw2_within [.int .i64 p2, .int .i64 61] (.one (.one (.int .i64))) fun (x539 : Int) =>
                    L.chk a537 [.string x538] <|
                    L.chk a534 [.string x535] <|
                    L.store (⟨b523, 0, none⟩) [.string x535, .string x538, .slice none 0 0, .int .i64 x539] <|
                    k2 (⟨b523, 0, none⟩, ())),(
                    L.call Pr n_damperlaw2_within [.int .i64 (IntKind.wrap .i64 (Int.tdiv p0 3)), .int .i64 3] (.one (.one (.int .i64))) fun (x540 : Int) =>
                    L.idx (some ⟨b435, 0, none⟩) x540 3 1 fun a541 =>
                    L.load (.one (.str)) a541 fun (x542 : ByteArray) =>
                    L.alts [(
                        L.new [.string s_front, .string s_back, .string s_r_1] T_string fun b543 =>
                        L.chk a541 [.string x542] <|
                        L.idx (some ⟨b543, 0, none⟩) x532 3 1 fun a544 =>
                        L.load (.one (.str)) a544 fun (x545 : ByteArray) =>
                        L.call Pr n_damperlaw2_within [.int .i64 p2, .int .i64 61] (.one (.one (.int .i64))) fun (x546 : Int) =>
                        L.chk a544 [.string x545] <|
                        L.chk a541 [.string x542] <|
                        L.store (⟨b523, 0, none⟩) [.string x545, .string x542, .slice none 0 0, .int .i64 x546] <|
                        k2 (⟨b523, 0, none⟩, ())),(
                        L.call Pr n_damperlaw2_within [.int .i64 p2, .int .i64 61] (.one (.one (.int .i64))) fun (x547 : Int) =>
                        L.chk a541 [.string x542] <|
                        L.new [.string s_front, .string s_back, .string s_r_1] T_string fun b548 =>
                        L.chk a541 [.string x542] <|
                        L.idx (some ⟨b548, 0, none⟩) x532 3 1 fun a549 =>
                        L.load (.one (.str)) a549 fun (x550 : ByteArray) =>
                        L.store (⟨b523, 0, none⟩) [.string x550, .string x542, .slice none 0 0, .int .i64 x547] <|
                        k2 (⟨b523, 0, none⟩, ()))])])])]),(
        L.new [.string s_, .string s_, .slice none 0 0, .int .i64 0] T_api_Route fun b551 =>
        L.alts [(
            L.new [.string s_front, .string s_back, .string s_r_1] T_string fun b552 =>
            L.alts [(
                L.call Pr n_damperlaw2_within [.int .i64 p0, .int .i64 3] (.one (.one (.int .i64))) fun (x553 : Int) =>
                L.idx (some ⟨b552, 0, none⟩) x553 3 1 fun a554 =>
                L.load (.one (.str)) a554 fun (x555 : ByteArray) =>
                L.alts [(
                    L.new [.string s_web, .string s_api, .string s_a_b] T_string fun b556 =>
                    L.chk a554 [.string x555] <|
                    L.call Pr n_damperlaw2_within [.int .i64 (IntKind.wrap .i64 (Int.tdiv p0 3)), .int .i64 3] (.one (.one (.int .i64))) fun (x557 : Int) =>
                    L.chk a554 [.string x555] <|
                    L.idx (some ⟨b556, 0, none⟩) x557 3 1 fun a558 =>
                    L.load (.one (.str)) a558 fun (x559 : ByteArray) =>
                    L.call Pr n_damperlaw2_within [.int .i64 p2, .int .i64 61] (.one (.one (.int .i64))) fun (x560 : Int) =>
                    L.chk a558 [.string x559] <|
                    L.chk a554 [.string x555] <|
                    L.store (⟨b551, 0, none⟩) [.string x555, .string x559, .slice none 0 0, .int .i64 x560] <|
                    k2 (⟨b551, 0, none⟩, ())),(
                    L.call Pr n_damperlaw2_within [.int .i64 (IntKind.wrap .i64 (Int.tdiv p0 3)), .int .i64 3] (.one (.one (.int .i64))) fun (x561 : Int) =>
                    L.chk a554 [.string x555] <|
                    L.alts [(
                        L.new [.string s_web, .string s_api, .string s_a_b] T_string fun b562 =>
                        L.chk a554 [.string x555] <|
                        L.idx (some ⟨b562, 0, none⟩) x561 3 1 fun a563 =>
                        L.load (.one (.str)) a563 fun (x564 : ByteArray) =>
                        L.call Pr n_damperlaw2_within [.int .i64 p2, .int .i64 61] (.one (.one (.int .i64))) fun (x565 : Int) =>
                        L.chk a563 [.string x564] <|
                        L.chk a554 [.string x555] <|
                        L.store (⟨b551, 0, none⟩) [.string x555, .string x564, .slice none 0 0, .int .i64 x565] <|
                        k2 (⟨b551, 0, none⟩, ())),(
                        L.call Pr n_damperlaw2_within [.int .i64 p2, .int .i64 61] (.one (.one (.int .i64))) fun (x566 : Int) =>
                        L.chk a554 [.string x555] <|
                        L.new [.string s_web, .string s_api, .string s_a_b] T_string fun b567 =>
                        L.chk a554 [.string x555] <|
                        L.idx (some ⟨b567, 0, none⟩) x561 3 1 fun a568 =>
                        L.load (.one (.str)) a568 fun (x569 : ByteArray) =>
                        L.store (⟨b551, 0, none⟩) [.string x555, .string x569, .slice none 0 0, .int .i64 x566] <|
                        k2 (⟨b551, 0, none⟩, ()))])]),(
                L.new [.string s_web, .string s_api, .string s_a_b] T_string fun b570 =>
                L.call Pr n_damperlaw2_within [.int .i64 p0, .int .i64 3] (.one (.one (.int .i64))) fun (x571 : Int) =>
                L.idx (some ⟨b552, 0, none⟩) x571 3 1 fun a572 =>
                L.load (.one (.str)) a572 fun (x573 : ByteArray) =>
                L.call Pr n_damperlaw2_within [.int .i64 (IntKind.wrap .i64 (Int.tdiv p0 3)), .int .i64 3] (.one (.one (.int .i64))) fun (x574 : Int) =>
                L.chk a572 [.string x573] <|
                L.idx (some ⟨b570, 0, none⟩) x574 3 1 fun a575 =>
                L.load (.one (.str)) a575 fun (x576 : ByteArray) =>
                L.call Pr n_damperlaw2_within [.int .i64 p2, .int .i64 61] (.one (.one (.int .i64))) fun (x577 : Int) =>
                L.chk a575 [.string x576] <|
                L.chk a572 [.string x573] <|
                L.store (⟨b551, 0, none⟩) [.string x573, .string x576, .slice none 0 0, .int .i64 x577] <|
                k2 (⟨b551, 0, none⟩, ()))]),(
            L.call Pr n_damperlaw2_within [.int .i64 p0, .int .i64 3] (.one (.one (.int .i64))) fun (x578 : Int) =>
            L.alts [(
                L.new [.string s_front, .string s_back, .string s_r_1] T_string fun b579 =>
                L.idx (some ⟨b579, 0, none⟩) x578 3 1 fun a580 =>
                L.load (.one (.str)) a580 fun (x581 : ByteArray) =>
                L.alts [(
                    L.new [.string s_web, .string s_api, .string s_a_b] T_string fun b582 =>
                    L.chk a580 [.string x581] <|
                    L.call Pr n_damperlaw2_within [.int .i64 (IntKind.wrap .i64 (Int.tdiv p0 3)), .int .i64 3] (.one (.one (.int .i64))) fun (x583 : Int) =>
                    L.chk a580 [.string x581] <|
                    L.idx (some ⟨b582, 0, none⟩) x583 3 1 fun a584 =>
                    L.load (.one (.str)) a584 fun (x585 : ByteArray) =>
                    L.call Pr n_damperlaw2_within [.int .i64 p2, .int .i64 61] (.one (.one (.int .i64))) fun (x586 : Int) =>
                    L.chk a584 [.string x585] <|
                    L.chk a580 [.string x581] <|
                    L.store (⟨b551, 0, none⟩) [.string x581, .string x585, .slice none 0 0, .int .i64 x586] <|
                    k2 (⟨b551, 0, none⟩, ())),(
                    L.call Pr n_damperlaw2_within [.int .i64 (IntKind.wrap .i64 (Int.tdiv p0 3)), .int .i64 3] (.one (.one (.int .i64))) fun (x587 : Int) =>
                    L.chk a580 [.string x581] <|
                    L.alts [(
                        L.new [.string s_web, .string s_api, .string s_a_b] T_string fun b588 =>
                        L.chk a580 [.string x581] <|
                        L.idx (some ⟨b588, 0, none⟩) x587 3 1 fun a589 =>
                        L.load (.one (.str)) a589 fun (x590 : ByteArray) =>
                        L.call Pr n_damperlaw2_within [.int .i64 p2, .int .i64 61] (.one (.one (.int .i64))) fun (x591 : Int) =>
                        L.chk a589 [.string x590] <|
                        L.chk a580 [.string x581] <|
                        L.store (⟨b551, 0, none⟩) [.string x581, .string x590, .slice none 0 0, .int .i64 x591] <|
                        k2 (⟨b551, 0, none⟩, ())),(
                        L.call Pr n_damperlaw2_within [.int .i64 p2, .int .i64 61] (.one (.one (.int .i64))) fun (x592 : Int) =>
                        L.chk a580 [.string x581] <|
                        L.new [.string s_web, .string s_api, .string s_a_b] T_string fun b593 =>
                        L.chk a580 [.string x581] <|
                        L.idx (some ⟨b593, 0, none⟩) x587 3 1 fun a594 =>
                        L.load (.one (.str)) a594 fun (x595 : ByteArray) =>
                        L.store (⟨b551, 0, none⟩) [.string x581, .string x595, .slice none 0 0, .int .i64 x592] <|
                        k2 (⟨b551, 0, none⟩, ()))])]),(
                L.new [.string s_web, .string s_api, .string s_a_b] T_string fun b596 =>
                L.alts [(
                    L.new [.string s_front, .string s_back, .string s_r_1] T_string fun b597 =>
                    L.idx (some ⟨b597, 0, none⟩) x578 3 1 fun a598 =>
                    L.load (.one (.str)) a598 fun (x599 : ByteArray) =>
                    L.call Pr n_damperlaw2_within [.int .i64 (IntKind.wrap .i64 (Int.tdiv p0 3)), .int .i64 3] (.one (.one (.int .i64))) fun (x600 : Int) =>
                    L.chk a598 [.string x599] <|
                    L.idx (some ⟨b596, 0, none⟩) x600 3 1 fun a601 =>
                    L.load (.one (.str)) a601 fun (x602 : ByteArray) =>
                    L.call Pr n_damperlaw2_within [.int .i64 p2, .int .i64 61] (.one (.one (.int .i64))) fun (x603 : Int) =>
                    L.chk a601 [.string x602] <|
                    L.chk a598 [.string x599] <|
                    L.store (⟨b551, 0, none⟩) [.string x599, .string x602, .slice none 0 0, .int .i64 x603] <|
                    k2 (⟨b551, 0, none⟩, ())),(
                    L.call Pr n_damperlaw2_within [.int .i64 (IntKind.wrap .i64 (Int.tdiv p0 3)), .int .i64 3] (.one (.one (.int .i64))) fun (x604 : Int) =>
                    L.idx (some ⟨b596, 0, none⟩) x604 3 1 fun a605 =>
                    L.load (.one (.str)) a605 fun (x606 : ByteArray) =>
                    L.alts [(
                        L.new [.string s_front, .string s_back, .string s_r_1] T_string fun b607 =>
                        L.chk a605 [.string x606] <|
                        L.idx (some ⟨b607, 0, none⟩) x578 3 1 fun a608 =>
                        L.load (.one (.str)) a608 fun (x609 : ByteArray) =>
                        L.call Pr n_damperlaw2_within [.int .i64 p2, .int .i64 61] (.one (.one (.int .i64))) fun (x610 : Int) =>
                        L.chk a608 [.string x609] <|
                        L.chk a605 [.string x606] <|
                        L.store (⟨b551, 0, none⟩) [.string x609, .string x606, .slice none 0 0, .int .i64 x610] <|
                        k2 (⟨b551, 0, none⟩, ())),(
                        L.call Pr n_damperlaw2_within [.int .i64 p2, .int .i64 61] (.one (.one (.int .i64))) fun (x611 : Int) =>
                        L.chk a605 [.string x606] <|
                        L.new [.string s_front, .string s_back, .string s_r_1] T_string fun b612 =>
                        L.chk a605 [.string x606] <|
                        L.idx (some ⟨b612, 0, none⟩) x578 3 1 fun a613 =>
                        L.load (.one (.str)) a613 fun (x614 : ByteArray) =>
                        L.store (⟨b551, 0, none⟩) [.string x614, .string x606, .slice none 0 0, .int .i64 x611] <|
                        k2 (⟨b551, 0, none⟩, ()))])]),(
                L.call Pr n_damperlaw2_within [.int .i64 (IntKind.wrap .i64 (Int.tdiv p0 3)), .int .i64 3] (.one (.one (.int .i64))) fun (x615 : Int) =>
                L.alts [(
                    L.new [.string s_front, .string s_back, .string s_r_1] T_string fun b616 =>
                    L.idx (some ⟨b616, 0, none⟩) x578 3 1 fun a617 =>
                    L.load (.one (.str)) a617 fun (x618 : ByteArray) =>
                    L.alts [(
                        L.new [.string s_web, .string s_api, .string s_a_b] T_string fun b619 =>
                        L.chk a617 [.string x618] <|
                        L.idx (some ⟨b619, 0, none⟩) x615 3 1 fun a620 =>
                        L.load (.one (.str)) a620 fun (x621 : ByteArray) =>
                        L.call Pr n_damperlaw2_within [.int .i64 p2, .int .i64 61] (.one (.one (.int .i64))) fun (x622 : Int) =>
                        L.chk a620 [.string x621] <|
                        L.chk a617 [.string x618] <|
                        L.store (⟨b551, 0, none⟩) [.string x618, .string x621, .slice none 0 0, .int .i64 x622] <|
                        k2 (⟨b551, 0, none⟩, ())),(
                        L.call Pr n_damperlaw2_within [.int .i64 p2, .int .i64 61] (.one (.one (.int .i64))) fun (x623 : Int) =>
                        L.chk a617 [.string x618] <|
                        L.new [.string s_web, .string s_api, .string s_a_b] T_string fun b624 =>
                        L.chk a617 [.string x618] <|
                        L.idx (some ⟨b624, 0, none⟩) x615 3 1 fun a625 =>
                        L.load (.one (.str)) a625 fun (x626 : ByteArray) =>
                        L.store (⟨b551, 0, none⟩) [.string x618, .string x626, .slice none 0 0, .int .i64 x623] <|
                        k2 (⟨b551, 0, none⟩, ()))]),(
                    L.new [.string s_web, .string s_api, .string s_a_b] T_string fun b627 =>
                    L.idx (some ⟨b627, 0, none⟩) x615 3 1 fun a628 =>
                    L.load (.one (.str)) a628 fun (x629 : ByteArray) =>
                    L.alts [(
                        L.new [.string s_front, .string s_back, .string s_r_1] T_string fun b630 =>
                        L.chk a628 [.string x629] <|
                        L.idx (some ⟨b630, 0, none⟩) x578 3 1 fun a631 =>
                        L.load (.one (.str)) a631 fun (x632 : ByteArray) =>
                        L.call Pr n_damperlaw2_within [.int .i64 p2, .int .i64 61] (.one (.one (.int .i64))) fun (x633 : Int) =>
                        L.chk a631 [.string x632] <|
                        L.chk a628 [.string x629] <|
                        L.store (⟨b551, 0, none⟩) [.string x632, .string x629, .slice none 0 0, .int .i64 x633] <|
                        k2 (⟨b551, 0, none⟩, ())),(
                        L.call Pr n_damperlaw2_within [.int .i64 p2, .int .i64 61] (.one (.one (.int .i64))) fun (x634 : Int) =>
                        L.chk a628 [.string x629] <|
                        L.new [.string s_front, .string s_back, .string s_r_1] T_string fun b635 =>
                        L.chk a628 [.string x629] <|
                        L.idx (some ⟨b635, 0, none⟩) x578 3 1 fun a636 =>
                        L.load (.one (.str)) a636 fun (x637 : ByteArray) =>
                        L.store (⟨b551, 0, none⟩) [.string x637, .string x629, .slice none 0 0, .int .i64 x634] <|
                        k2 (⟨b551, 0, none⟩, ()))]),(
                    L.call Pr n_damperlaw2_within [.int .i64 p2, .int .i64 61] (.one (.one (.int .i64))) fun (x638 : Int) =>
                    L.alts [(
                        L.new [.string s_front, .string s_back, .string s_r_1] T_string fun b639 =>
                        L.idx (some ⟨b639, 0, none⟩) x578 3 1 fun a640 =>
                        L.load (.one (.str)) a640 fun (x641 : ByteArray) =>
                        L.new [.string s_web, .string s_api, .string s_a_b] T_string fun b642 =>
                        L.chk a640 [.string x641] <|
                        L.idx (some ⟨b642, 0, none⟩) x615 3 1 fun a643 =>
                        L.load (.one (.str)) a643 fun (x644 : ByteArray) =>
                        L.store (⟨b551, 0, none⟩) [.string x641, .string x644, .slice none 0 0, .int .i64 x638] <|
                        k2 (⟨b551, 0, none⟩, ())),(
                        L.new [.string s_web, .string s_api, .string s_a_b] T_string fun b645 =>
                        L.idx (some ⟨b645, 0, none⟩) x615 3 1 fun a646 =>
                        L.load (.one (.str)) a646 fun (x647 : ByteArray) =>
                        L.new [.string s_front, .string s_back, .string s_r_1] T_string fun b648 =>
                        L.chk a646 [.string x647] <|
                        L.idx (some ⟨b648, 0, none⟩) x578 3 1 fun a649 =>
                        L.load (.one (.str)) a649 fun (x650 : ByteArray) =>
                        L.store (⟨b551, 0, none⟩) [.string x650, .string x647, .slice none 0 0, .int .i64 x638] <|
                        k2 (⟨b551, 0, none⟩, ()))])])]),(
            L.new [.string s_web, .string s_api, .string s_a_b] T_string fun b651 =>
            L.alts [(
                L.new [.string s_front, .string s_back, .string s_r_1] T_string fun b652 =>
                L.call Pr n_damperlaw2_within [.int .i64 p0, .int .i64 3] (.one (.one (.int .i64))) fun (x653 : Int) =>
                L.idx (some ⟨b652, 0, none⟩) x653 3 1 fun a654 =>
                L.load (.one (.str)) a654 fun (x655 : ByteArray) =>
                L.call Pr n_damperlaw2_within [.int .i64 (IntKind.wrap .i64 (Int.tdiv p0 3)), .int .i64 3] (.one (.one (.int .i64))) fun (x656 : Int) =>
                L.chk a654 [.string x655] <|
                L.idx (some ⟨b651, 0, none⟩) x656 3 1 fun a657 =>
                L.load (.one (.str)) a657 fun (x658 : ByteArray) =>
                L.call Pr n_damperlaw2_within [.int .i64 p2, .int .i64 61] (.one (.one (.int .i64))) fun (x659 : Int) =>
                L.chk a657 [.string x658] <|
                L.chk a654 [.string x655] <|
                L.store (⟨b551, 0, none⟩) [.string x655, .string x658, .slice none 0 0, .int .i64 x659] <|
                k2 (⟨b551, 0, none⟩, ())),(
                L.call Pr n_damperlaw2_within [.int .i64 p0, .int .i64 3] (.one (.one (.int .i64))) fun (x660 : Int) =>
                L.alts [(
                    L.new [.string s_front, .string s_back, .string s_r_1] T_string fun b661 =>
                    L.idx (some ⟨b661, 0, none⟩) x660 3 1 fun a662 =>
                    L.load (.one (.str)) a662 fun (x663 : ByteArray) =>
                    L.call Pr n_damperlaw2_within [.int .i64 (IntKind.wrap .i64 (Int.tdiv p0 3)), .int .i64 3] (.one (.one (.int .i64))) fun (x664 : Int) =>
                    L.chk a662 [.string x663] <|
                    L.idx (some ⟨b651, 0, none⟩) x664 3 1 fun a665 =>
                    L.load (.one (.str)) a665 fun (x666 : ByteArray) =>
                    L.call Pr n_damperlaw2_within [.int .i64 p2, .int .i64 61] (.one (.one (.int .i64))) fun (x667 : Int) =>
                    L.chk a665 [.string x666] <|
                    L.chk a662 [.string x663] <|
                    L.store (⟨b551, 0, none⟩) [.string x663, .string x666, .slice none 0 0, .int .i64 x667] <|
                    k2 (⟨b551, 0, none⟩, ())),(
                    L.call Pr n_damperlaw2_within [.int .i64 (IntKind.wrap .i64 (Int.tdiv p0 3)), .int .i64 3] (.one (.one (.int .i64))) fun (x668 : Int) =>
                    L.idx (some ⟨b651, 0, none⟩) x668 3 1 fun a669 =>
                    L.load (.one (.str)) a669 fun (x670 : ByteArray) =>
                    L.alts [(
                        L.new [.string s_front, .string s_back, .string s_r_1] T_string fun b671 =>
                        L.chk a669 [.string x670] <|
                        L.idx (some ⟨b671, 0, none⟩) x660 3 1 fun a672 =>
                        L.load (.one (.str)) a672 fun (x673 : ByteArray) =>
                        L.call Pr n_damperlaw2_within [.int .i64 p2, .int .i64 61] (.one (.one (.int .i64))) fun (x674 : Int) =>
                        L.chk a672 [.string x673] <|
                        L.chk a669 [.string x670] <|
                        L.store (⟨b551, 0, none⟩) [.string x673, .string x670, .slice none 0 0, .int .i64 x674] <|
                        k2 (⟨b551, 0, none⟩, ())),(
                        L.call Pr n_damperlaw2_within [.int .i64 p2, .int .i64 61] (.one (.one (.int .i64))) fun (x675 : Int) =>
                        L.chk a669 [.string x670] <|
                        L.new [.string s_front, .string s_back, .string s_r_1] T_string fun b676 =>
                        L.chk a669 [.string x670] <|
                        L.idx (some ⟨b676, 0, none⟩) x660 3 1 fun a677 =>
                        L.load (.one (.str)) a677 fun (x678 : ByteArray) =>
                        L.store (⟨b551, 0, none⟩) [.string x678, .string x670, .slice none 0 0, .int .i64 x675] <|
                        k2 (⟨b551, 0, none⟩, ()))])])])])]) fun z3 =>
  L.join (Y := Int × Unit) (fun k679 =>
    L.ite (decide (((p1.len : Nat) : Int) > 0)) (
      L.idx p1.a 0 p1.len 1 fun a681 =>
      L.load (.one (.int .i64)) a681 fun (x682 : Int) =>
      L.call Pr n_damperlaw2_within [.int .i64 x682, .int .i64 6] (.one (.one (.int .i64))) fun (x683 : Int) =>
      k679 (IntKind.wrap .i64 (1 + x683), ())) <|
    k679 (1, ())) fun z680 =>
  L.loop (Y := Int × Int × Unit) (100, 0, ()) fun y684 again685 =>
  L.ite (decide (y684.2.1 < z680.1)) (
    L.join (Y := Int × Unit) (fun k686 =>
      L.ite (decide ((IntKind.wrap .i64 (y684.2.1 + 1)) < ((p1.len : Nat) : Int))) (
        L.idx p1.a (IntKind.wrap .i64 (y684.2.1 + 1)) p1.len 1 fun a688 =>
        L.load (.one (.int .i64)) a688 fun (x689 : Int) =>
        k686 (x689, ())) <|
      k686 (y684.2.1, ())) fun z687 =>
    L.call Pr n_damperlaw2_within [.int .i64 z687.1, .int .i64 (IntKind.wrap .i64 (y684.1 + 1))] (.one (.one (.int .i64))) fun (x690 : Int) =>
    L.new [.string s_, .string s_, .int .i64 0] T_api_Target fun b691 =>
    L.store (⟨b691, 0, none⟩) [.string s_, .string s_, .int .i64 x690] <|
    L.join (Y := Unit) (fun k692 =>
      L.ite (y684.2.1 == (IntKind.wrap .i64 (z680.1 - 1))) (
        L.store ((⟨b691, 0, none⟩ : Addr).add 2) [.int .i64 y684.1] <|
        k692 (())) <|
      k692 (())) fun z693 =>
    L.join (Y := Unit) (fun k694 =>
      L.guard (101 ≠ (0 : Int)) <|
      L.call Pr n_damperlaw2_within [.int .i64 (IntKind.wrap .i64 (Int.tdiv z687.1 101)), .int .i64 3] (.one (.one (.int .i64))) fun (x696 : Int) =>
      L.ite (decide (x696 > 0)) (
        L.draw <|
        L.load (.one (.str)) (z3.1.add 1) fun (x697 : ByteArray) =>
        L.guard (((x697.size + s__.size : Nat) : Int) ≤ maxI64) <|
        L.guard (303 ≠ (0 : Int)) <|
        L.call Pr n_damperlaw2_within [.int .i64 (IntKind.wrap .i64 (Int.tdiv z687.1 303)), .int .i64 4] (.one (.one (.int .i64))) fun (x698 : Int) =>
        L.chk (z3.1.add 1) [.string x697] <|
        L.chk (z3.1.add 1) [.string x697] <|
        L.new [.int .u8 (IntKind.wrap .u8 (IntKind.wrap .i64 (49 + x698)))] T_uint8 fun b699 =>
        L.chk (z3.1.add 1) [.string x697] <|
        L.sem Pr (.one (.one (.str))) (convert T_s_uint8 T_string (.slice (some ⟨b699, 0, none⟩) 1 1)) fun (x700 : ByteArray) =>
        L.chk (z3.1.add 1) [.string x697] <|
        L.guard ((((x697 ++ s__).size + x700.size : Nat) : Int) ≤ maxI64) <|
        L.store ((⟨b691, 0, none⟩ : Addr).add 0) [.string ((x697 ++ s__) ++ x700)] <|
        k694 (())) <|
      k694 (())) fun z695 =>
    L.join (Y := Unit) (fun k701 =>
      L.guard (1212 ≠ (0 : Int)) <|
      L.call Pr n_damperlaw2_within [.int .i64 (IntKind.wrap .i64 (Int.tdiv z687.1 1212)), .int .i64 3] (.one (.one (.int .i64))) fun (x703 : Int) =>
      L.ite (x703 == 0) (
        L.new [.int .u8 (IntKind.wrap .u8 (IntKind.wrap .i64 (48 + y684.2.1)))] T_uint8 fun b704 =>
        L.sem Pr (.one (.one (.str))) (convert T_s_uint8 T_string (.slice (some ⟨b704, 0, none⟩) 1 1)) fun (x705 : ByteArray) =>
        L.guard (((s_t.size + x705.size : Nat) : Int) ≤ maxI64) <|
        L.store ((⟨b691, 0, none⟩ : Addr).add 1) [.string (s_t ++ x705)] <|
        k701 (())) <|
      k701 (())) fun z702 =>
    L.load (.one (.int .i64)) ((⟨b691, 0, none⟩ : Addr).add 2) fun (x706 : Int) =>
    L.load (.one (.slice)) (z3.1.add 2) fun (x707 : Sl) =>
    L.load (.agg [.str, .str, .int .i64]) (⟨b691, 0, none⟩) fun (x708 : ByteArray × ByteArray × Int × Unit) =>
    L.new [.string x708.1, .string x708.2.1, .int .i64 x708.2.2.1] T_api_Target fun b709 =>
    L.sem Pr (.one (.one .slice)) (Builtin.append_ #[T_s_api_Target, T_s_api_Target] T_s_api_Target #[.slice x707.a x707.len x707.cap, .slice (some ⟨b709, 0, none⟩) 1 1]) fun (s710 : Sl) =>
    L.store (z3.1.add 2) [.slice s710.a s710.len s710.cap] <|
    again685 (IntKind.wrap .i64 (y684.1 - x706), IntKind.wrap .i64 (y684.2.1 + 1), ())) <|
  L.load (.agg [.str, .str, .slice, .int .i64]) z3.1 fun (x711 : ByteArray × ByteArray × Sl × Int × Unit) =>
  L.store (⟨b1, 0, none⟩) [.string x711.1, .string x711.2.1, .slice x711.2.2.1.a x711.2.2.1.len x711.2.2.1.cap, .int .i64 x711.2.2.2.1] <|
  L.load (.agg [.str, .str, .slice, .int .i64]) (⟨b1, 0, none⟩) fun (x712 : ByteArray × ByteArray × Sl × Int × Unit) =>
  K (.agg #[.string x712.1, .string x712.2.1, .slice x712.2.2.1.a x712.2.2.1.len x712.2.2.1.cap, .int .i64 x712.2.2.2.1])
theorem D_damperlaw2_Route (p0 : Int) (p1 : Sl) (p2 : Int) (K : Value → PT) : denF Pr Dt Tryz.f9 A_damperlaw2_Route [.v (.int .i64 p0), .v (.slice p1.a p1.len p1.cap), .v (.int .i64 p2)] K = F_damperlaw2_Route p0 p1 p2 K := by kernel_rfl
theorem C_damperlaw2_Route (p0 : Int) (p1 : Sl) (p2 : Int) {K : Value → PT} {w : World} (h : F_damperlaw2_Route p0 p1 p2 K w) : Calls Pr n_damperlaw2_Route [.int .i64 p0, .slice p1.a p1.len p1.cap, .int .i64 p2].toArray w fun e w2 => ∃ v, e = .returned v ∧ K v w2 :=
  denF_ok Tok (f := 9) (fn := Tryz.f9) (an := A_damperlaw2_Route) (args := [.v (.int .i64 p0), .v (.slice p1.a p1.len p1.cap), .v (.int .i64 p2)]) (by kernel_rfl) (by kernel_rfl) ((congrFun (D_damperlaw2_Route p0 p1 p2 K) w).mpr h)
theorem E_damperlaw2_Route : Enters Pr n_damperlaw2_Route := enters_of_B (by kernel_rfl)

def A_shelf_Shelf_PutRoute : Ann := (.seq .auto (.seq .auto (.seq .auto .auto (some [(8, (.one (.int .i64)))])) none) none)
/-- (*damper/shelf.Shelf).PutRoute -/
def F_shelf_Shelf_PutRoute (p0 : Option Addr) (p1 : HT [.str, .str, .slice, .int .i64]) (p2 : Int) (K : Value → PT) : PT :=
  L.new [.string p1.1, .string p1.2.1, .slice p1.2.2.1.a p1.2.2.1.len p1.2.2.1.cap, .int .i64 p1.2.2.2.1] T_api_Route fun b1 =>
  L.load (.agg [.str, .str, .slice, .int .i64]) (⟨b1, 0, none⟩) fun (x2 : ByteArray × ByteArray × Sl × Int × Unit) =>
  L.call Pr n_spec_Route [.agg #[.string x2.1, .string x2.2.1, .slice x2.2.2.1.a x2.2.2.1.len x2.2.2.1.cap, .int .i64 x2.2.2.2.1]] (.one (.one (.int .i64))) fun (x3 : Int) =>
  L.join (Y := Int × Unit) (fun k4 =>
    L.ite (x3 == 0) (
      L.draw <|
      L.nonnil p0 fun a6 =>
      L.load (.one (.ptr)) (a6.add 1) fun (x7 : Option Addr) =>
      L.load (.one (.str)) ((⟨b1, 0, none⟩ : Addr).add 0) fun (x8 : ByteArray) =>
      L.call Pr n_shelf_rack_api_Route_may [.pointer x7, .string x8, .int .i64 p2, .bool true] (.one (.one (.int .i64))) fun (x9 : Int) =>
      k4 (x9, ())) <|
    k4 (x3, ())) fun z5 =>
  L.ite (z5.1 != 0) (
    K (.tuple #[.int .i64 0, .int .i64 z5.1])) <|
  L.nonnil p0 fun a10 =>
  L.load (.one (.int .i64)) (a10.add 2) fun (x11 : Int) =>
  L.nonnil p0 fun a12 =>
  L.store (a12.add 2) [.int .i64 (IntKind.wrap .i64 (x11 + 1))] <|
  L.draw <|
  L.nonnil p0 fun a13 =>
  L.load (.one (.ptr)) (a13.add 1) fun (x14 : Option Addr) =>
  L.load (.one (.str)) ((⟨b1, 0, none⟩ : Addr).add 0) fun (x15 : ByteArray) =>
  L.load (.agg [.str, .str, .slice, .int .i64]) (⟨b1, 0, none⟩) fun (x16 : ByteArray × ByteArray × Sl × Int × Unit) =>
  L.nonnil p0 fun a17 =>
  L.load (.one (.int .i64)) (a17.add 2) fun (x18 : Int) =>
  L.call Pr n_shelf_own [.agg #[.string x16.1, .string x16.2.1, .slice x16.2.2.1.a x16.2.2.1.len x16.2.2.1.cap, .int .i64 x16.2.2.2.1]] (.one (.agg [.str, .str, .slice, .int .i64])) fun (x19 : ByteArray × ByteArray × Sl × Int × Unit) =>
  L.chk (a17.add 2) [.int .i64 x18] <|
  L.chk ((⟨b1, 0, none⟩ : Addr).add 0) [.string x15] <|
  L.chk (a13.add 1) [.pointer x14] <|
  L.call Pr n_shelf_rack_api_Route_put [.pointer x14, .string x15, .agg #[.string x19.1, .string x19.2.1, .slice x19.2.2.1.a x19.2.2.1.len x19.2.2.1.cap, .int .i64 x19.2.2.2.1], .int .i64 x18] (.tup []) fun (x20 : Unit) =>
  L.nonnil p0 fun a21 =>
  L.load (.one (.int .i64)) (a21.add 2) fun (x22 : Int) =>
  K (.tuple #[.int .i64 x22, .int .i64 0])
theorem D_shelf_Shelf_PutRoute (p0 : Option Addr) (p1 : HT [.str, .str, .slice, .int .i64]) (p2 : Int) (K : Value → PT) : denF Pr Dt Tryz.f10 A_shelf_Shelf_PutRoute [.v (.pointer p0), .ag [.string p1.1, .string p1.2.1, .slice p1.2.2.1.a p1.2.2.1.len p1.2.2.1.cap, .int .i64 p1.2.2.2.1], .v (.int .i64 p2)] K = F_shelf_Shelf_PutRoute p0 p1 p2 K := by kernel_rfl
theorem C_shelf_Shelf_PutRoute (p0 : Option Addr) (p1 : HT [.str, .str, .slice, .int .i64]) (p2 : Int) {K : Value → PT} {w : World} (h : F_shelf_Shelf_PutRoute p0 p1 p2 K w) : Calls Pr n_shelf_Shelf_PutRoute [.pointer p0, (.ag [.string p1.1, .string p1.2.1, .slice p1.2.2.1.a p1.2.2.1.len p1.2.2.1.cap, .int .i64 p1.2.2.2.1] : SV).toV, .int .i64 p2].toArray w fun e w2 => ∃ v, e = .returned v ∧ K v w2 :=
  denF_ok Tok (f := 10) (fn := Tryz.f10) (an := A_shelf_Shelf_PutRoute) (args := [.v (.pointer p0), .ag [.string p1.1, .string p1.2.1, .slice p1.2.2.1.a p1.2.2.1.len p1.2.2.1.cap, .int .i64 p1.2.2.2.1], .v (.int .i64 p2)]) (by kernel_rfl) (by kernel_rfl) ((congrFun (D_shelf_Shelf_PutRoute p0 p1 p2 K) w).mpr h)
theorem E_shelf_Shelf_PutRoute : Enters Pr n_shelf_Shelf_PutRoute := enters_of_B (by kernel_rfl)

def A_shelf_Shelf_Route : Ann := .auto
/-- (*damper/shelf.Shelf).Route -/
def F_shelf_Shelf_Route (p0 : Option Addr) (p1 : ByteArray) (K : Value → PT) : PT :=
  L.new [.string s_, .string s_, .slice none 0 0, .int .i64 0] T_api_Route fun b1 =>
  L.nonnil p0 fun a2 =>
  L.load (.one (.ptr)) (a2.add 1) fun (x3 : Option Addr) =>
  L.call Pr n_shelf_rack_api_Route_get [.pointer x3, .string p1] (.tup [(.agg [.str, .str, .slice, .int .i64, .int .i64, .int .i64, .bool]), (.one (.bool))]) fun (x4 : (ByteArray × ByteArray × Sl × Int × Int × Int × Bool × Unit) × Bool × Unit) =>
  L.new [.string s_, .string s_, .slice none 0 0, .int .i64 0, .int .i64 0, .int .i64 0, .bool false] T_shelf_thing_api_Route fun b5 =>
  L.store (⟨b5, 0, none⟩) [.string x4.1.1, .string x4.1.2.1, .slice x4.1.2.2.1.a x4.1.2.2.1.len x4.1.2.2.1.cap, .int .i64 x4.1.2.2.2.1, .int .i64 x4.1.2.2.2.2.1, .int .i64 x4.1.2.2.2.2.2.1, .bool x4.1.2.2.2.2.2.2.1] <|
  L.ite (!x4.2.1) (
    L.store (⟨b1, 0, none⟩) [.string s_, .string s_, .slice none 0 0, .int .i64 0] <|
    L.load (.agg [.str, .str, .slice, .int .i64]) (⟨b1, 0, none⟩) fun (x6 : ByteArray × ByteArray × Sl × Int × Unit) =>
    K (.tuple #[.agg #[.string x6.1, .string x6.2.1, .slice x6.2.2.1.a x6.2.2.1.len x6.2.2.1.cap, .int .i64 x6.2.2.2.1], .int .i64 0, .bool false])) <|
  L.draw <|
  L.load (.agg [.str, .str, .slice, .int .i64]) ((⟨b5, 0, none⟩ : Addr).add 0) fun (x7 : ByteArray × ByteArray × Sl × Int × Unit) =>
  L.load (.one (.int .i64)) ((⟨b5, 0, none⟩ : Addr).add 4) fun (x8 : Int) =>
  L.call Pr n_shelf_own [.agg #[.string x7.1, .string x7.2.1, .slice x7.2.2.1.a x7.2.2.1.len x7.2.2.1.cap, .int .i64 x7.2.2.2.1]] (.one (.agg [.str, .str, .slice, .int .i64])) fun (x9 : ByteArray × ByteArray × Sl × Int × Unit) =>
  L.chk ((⟨b5, 0, none⟩ : Addr).add 4) [.int .i64 x8] <|
  L.store (⟨b1, 0, none⟩) [.string x9.1, .string x9.2.1, .slice x9.2.2.1.a x9.2.2.1.len x9.2.2.1.cap, .int .i64 x9.2.2.2.1] <|
  L.chk ((⟨b5, 0, none⟩ : Addr).add 4) [.int .i64 x8] <|
  L.load (.agg [.str, .str, .slice, .int .i64]) (⟨b1, 0, none⟩) fun (x10 : ByteArray × ByteArray × Sl × Int × Unit) =>
  K (.tuple #[.agg #[.string x10.1, .string x10.2.1, .slice x10.2.2.1.a x10.2.2.1.len x10.2.2.1.cap, .int .i64 x10.2.2.2.1], .int .i64 x8, .bool true])
theorem D_shelf_Shelf_Route (p0 : Option Addr) (p1 : ByteArray) (K : Value → PT) : denF Pr Dt Tryz.f11 A_shelf_Shelf_Route [.v (.pointer p0), .v (.string p1)] K = F_shelf_Shelf_Route p0 p1 K := by kernel_rfl
theorem C_shelf_Shelf_Route (p0 : Option Addr) (p1 : ByteArray) {K : Value → PT} {w : World} (h : F_shelf_Shelf_Route p0 p1 K w) : Calls Pr n_shelf_Shelf_Route [.pointer p0, .string p1].toArray w fun e w2 => ∃ v, e = .returned v ∧ K v w2 :=
  denF_ok Tok (f := 11) (fn := Tryz.f11) (an := A_shelf_Shelf_Route) (args := [.v (.pointer p0), .v (.string p1)]) (by kernel_rfl) (by kernel_rfl) ((congrFun (D_shelf_Shelf_Route p0 p1 K) w).mpr h)
theorem E_shelf_Shelf_Route : Enters Pr n_shelf_Shelf_Route := enters_of_B (by kernel_rfl)

def A_damperref2_SameRoute : Ann := (.seq .auto (.seq .auto (.seq (.seq .auto (.one [(5, (.one (.int .i64)))] .auto) none) .auto none) none) none)
/-- damper/damperref2.SameRoute -/
def F_damperref2_SameRoute (p0 : HT [.str, .str, .slice, .int .i64]) (p1 : HT [.str, .str, .slice, .int .i64]) (K : Value → PT) : PT :=
  L.new [.string p0.1, .string p0.2.1, .slice p0.2.2.1.a p0.2.2.1.len p0.2.2.1.cap, .int .i64 p0.2.2.2.1] T_api_Route fun b1 =>
  L.new [.string p1.1, .string p1.2.1, .slice p1.2.2.1.a p1.2.2.1.len p1.2.2.1.cap, .int .i64 p1.2.2.2.1] T_api_Route fun b2 =>
  L.load (.one (.str)) ((⟨b1, 0, none⟩ : Addr).add 0) fun (x3 : ByteArray) =>
  L.load (.one (.str)) ((⟨b2, 0, none⟩ : Addr).add 0) fun (x4 : ByteArray) =>
  L.ite (!(x3.toList == x4.toList)) (
    K (.bool false)) <|
  L.load (.one (.str)) ((⟨b1, 0, none⟩ : Addr).add 1) fun (x5 : ByteArray) =>
  L.load (.one (.str)) ((⟨b2, 0, none⟩ : Addr).add 1) fun (x6 : ByteArray) =>
  L.ite (!(x5.toList == x6.toList)) (
    K (.bool false)) <|
  L.load (.one (.int .i64)) ((⟨b1, 0, none⟩ : Addr).add 3) fun (x7 : Int) =>
  L.load (.one (.int .i64)) ((⟨b2, 0, none⟩ : Addr).add 3) fun (x8 : Int) =>
  L.ite (x7 != x8) (
    K (.bool false)) <|
  L.load (.one (.slice)) ((⟨b1, 0, none⟩ : Addr).add 2) fun (x9 : Sl) =>
  L.load (.one (.slice)) ((⟨b2, 0, none⟩ : Addr).add 2) fun (x10 : Sl) =>
  L.ite (((x9.len : Nat) : Int) != ((x10.len : Nat) : Int)) (
    K (.bool false)) <|
  L.loop (Y := Int × Unit) (0, ()) fun y11 again12 =>
  L.load (.one (.slice)) ((⟨b1, 0, none⟩ : Addr).add 2) fun (x13 : Sl) =>
  L.ite (decide (y11.1 < ((x13.len : Nat) : Int))) (
    L.draw <|
    L.load (.one (.slice)) ((⟨b1, 0, none⟩ : Addr).add 2) fun (x14 : Sl) =>
    L.idx x14.a y11.1 x14.len 3 fun a15 =>
    L.load (.agg [.str, .str, .int .i64]) a15 fun (x16 : ByteArray × ByteArray × Int × Unit) =>
    L.load (.one (.slice)) ((⟨b2, 0, none⟩ : Addr).add 2) fun (x17 : Sl) =>
    L.idx x17.a y11.1 x17.len 3 fun a18 =>
    L.load (.agg [.str, .str, .int .i64]) a18 fun (x19 : ByteArray × ByteArray × Int × Unit) =>
    L.chkSem Pr (do eqGuard .neq T_api_Target (.tmp 0) (.tmp 0) (.agg #[.string x16.1, .string x16.2.1, .int .i64 x16.2.2.1]) (.agg #[.string x19.1, .string x19.2.1, .int .i64 x19.2.2.1]); binOp .neq T_api_Target (.agg #[.string x16.1, .string x16.2.1, .int .i64 x16.2.2.1]) (.agg #[.string x19.1, .string x19.2.1, .int .i64 x19.2.2.1])) (.bool (!((x16.1 == x19.1) && ((x16.2.1 == x19.2.1) && ((x16.2.2.1 == x19.2.2.1) && true))))) <|
    L.ite (!((x16.1 == x19.1) && ((x16.2.1 == x19.2.1) && ((x16.2.2.1 == x19.2.2.1) && true)))) (
      K (.bool false)) <|
    again12 (IntKind.wrap .i64 (y11.1 + 1), ())) <|
  K (.bool true)
theorem D_damperref2_SameRoute (p0 : HT [.str, .str, .slice, .int .i64]) (p1 : HT [.str, .str, .slice, .int .i64]) (K : Value → PT) : denF Pr Dt Tryz.f12 A_damperref2_SameRoute [.ag [.string p0.1, .string p0.2.1, .slice p0.2.2.1.a p0.2.2.1.len p0.2.2.1.cap, .int .i64 p0.2.2.2.1], .ag [.string p1.1, .string p1.2.1, .slice p1.2.2.1.a p1.2.2.1.len p1.2.2.1.cap, .int .i64 p1.2.2.2.1]] K = F_damperref2_SameRoute p0 p1 K := by kernel_rfl
theorem C_damperref2_SameRoute (p0 : HT [.str, .str, .slice, .int .i64]) (p1 : HT [.str, .str, .slice, .int .i64]) {K : Value → PT} {w : World} (h : F_damperref2_SameRoute p0 p1 K w) : Calls Pr n_damperref2_SameRoute [(.ag [.string p0.1, .string p0.2.1, .slice p0.2.2.1.a p0.2.2.1.len p0.2.2.1.cap, .int .i64 p0.2.2.2.1] : SV).toV, (.ag [.string p1.1, .string p1.2.1, .slice p1.2.2.1.a p1.2.2.1.len p1.2.2.1.cap, .int .i64 p1.2.2.2.1] : SV).toV].toArray w fun e w2 => ∃ v, e = .returned v ∧ K v w2 :=
  denF_ok Tok (f := 12) (fn := Tryz.f12) (an := A_damperref2_SameRoute) (args := [.ag [.string p0.1, .string p0.2.1, .slice p0.2.2.1.a p0.2.2.1.len p0.2.2.1.cap, .int .i64 p0.2.2.2.1], .ag [.string p1.1, .string p1.2.1, .slice p1.2.2.1.a p1.2.2.1.len p1.2.2.1.cap, .int .i64 p1.2.2.2.1]]) (by kernel_rfl) (by kernel_rfl) ((congrFun (D_damperref2_SameRoute p0 p1 K) w).mpr h)
theorem E_damperref2_SameRoute : Enters Pr n_damperref2_SameRoute := enters_of_B (by kernel_rfl)

def A_shelf_Shelf_Names : Ann := .auto
/-- (*damper/shelf.Shelf).Names -/
def F_shelf_Shelf_Names (p0 : Option Addr) (p1 : Int) (K : Value → PT) : PT :=
  L.ite (p1 == 1) (
    L.nonnil p0 fun a1 =>
    L.load (.one (.ptr)) (a1.add 0) fun (x2 : Option Addr) =>
    L.call Pr n_shelf_rack_api_Config_names [.pointer x2] (.one (.one (.func))) fun (x3 : FV) =>
    L.call Pr n_shelf_list [.func x3.fn x3.fs x3.cs] (.one (.one (.slice))) fun (x4 : Sl) =>
    K (.slice x4.a x4.len x4.cap)) <|
  L.ite (p1 == 2) (
    L.nonnil p0 fun a5 =>
    L.load (.one (.ptr)) (a5.add 1) fun (x6 : Option Addr) =>
    L.call Pr n_shelf_rack_api_Route_names [.pointer x6] (.one (.one (.func))) fun (x7 : FV) =>
    L.call Pr n_shelf_list [.func x7.fn x7.fs x7.cs] (.one (.one (.slice))) fun (x8 : Sl) =>
    K (.slice x8.a x8.len x8.cap)) <|
  K (.slice none 0 0)
theorem D_shelf_Shelf_Names (p0 : Option Addr) (p1 : Int) (K : Value → PT) : denF Pr Dt Tryz.f13 A_shelf_Shelf_Names [.v (.pointer p0), .v (.int .i64 p1)] K = F_shelf_Shelf_Names p0 p1 K := by kernel_rfl
theorem C_shelf_Shelf_Names (p0 : Option Addr) (p1 : Int) {K : Value → PT} {w : World} (h : F_shelf_Shelf_Names p0 p1 K w) : Calls Pr n_shelf_Shelf_Names [.pointer p0, .int .i64 p1].toArray w fun e w2 => ∃ v, e = .returned v ∧ K v w2 :=
  denF_ok Tok (f := 13) (fn := Tryz.f13) (an := A_shelf_Shelf_Names) (args := [.v (.pointer p0), .v (.int .i64 p1)]) (by kernel_rfl) (by kernel_rfl) ((congrFun (D_shelf_Shelf_Names p0 p1 K) w).mpr h)
theorem E_shelf_Shelf_Names : Enters Pr n_shelf_Shelf_Names := enters_of_B (by kernel_rfl)

def A_damperlaw4_within : Ann := (.seq .auto (.seq .auto (.seq .auto .auto (some [(5, (.one (.int .i64)))])) none) none)
/-- damper/damperlaw4.within -/
def F_damperlaw4_within (p0 : Int) (p1 : Int) (K : Value → PT) : PT :=
  L.guard (p1 ≠ (0 : Int)) <|
  L.join (Y := Int × Unit) (fun k1 =>
    L.ite (decide ((Int.tmod p0 p1) < 0)) (
      k1 (IntKind.wrap .i64 ((Int.tmod p0 p1) + p1), ())) <|
    k1 (Int.tmod p0 p1, ())) fun z2 =>
  K (.int .i64 z2.1)
theorem D_damperlaw4_within (p0 : Int) (p1 : Int) (K : Value → PT) : denF Pr Dt Tryz.f14 A_damperlaw4_within [.v (.int .i64 p0), .v (.int .i64 p1)] K = F_damperlaw4_within p0 p1 K := by kernel_rfl
theorem C_damperlaw4_within (p0 : Int) (p1 : Int) {K : Value → PT} {w : World} (h : F_damperlaw4_within p0 p1 K w) : Calls Pr n_damperlaw4_within [.int .i64 p0, .int .i64 p1].toArray w fun e w2 => ∃ v, e = .returned v ∧ K v w2 :=
  denF_ok Tok (f := 14) (fn := Tryz.f14) (an := A_damperlaw4_within) (args := [.v (.int .i64 p0), .v (.int .i64 p1)]) (by kernel_rfl) (by kernel_rfl) ((congrFun (D_damperlaw4_within p0 p1 K) w).mpr h)
theorem E_damperlaw4_within : Enters Pr n_damperlaw4_within := enters_of_B (by kernel_rfl)

def A_shelf_Shelf_Drop : Ann := (.seq .auto (.seq .auto (.seq .auto (.seq .auto .auto (some [])) (some [(9, (.one (.int .i64)))])) none) none)
/-- (*damper/shelf.Shelf).Drop -/
def F_shelf_Shelf_Drop (p0 : Option Addr) (p1 : Int) (p2 : ByteArray) (p3 : Int) (K : Value → PT) : PT :=
  L.join (Y := Int × Unit) (fun k1 =>
    L.ite (p1 == 1) (
      L.nonnil p0 fun a3 =>
      L.load (.one (.ptr)) (a3.add 0) fun (x4 : Option Addr) =>
      L.call Pr n_shelf_taken_api_Config [.pointer x4, .string p2, .int .i64 p3] (.one (.one (.int .i64))) fun (x5 : Int) =>
      k1 (x5, ())) <|
    L.ite (p1 == 2) (
      L.nonnil p0 fun a6 =>
      L.load (.one (.ptr)) (a6.add 1) fun (x7 : Option Addr) =>
      L.call Pr n_shelf_taken_api_Route [.pointer x7, .string p2, .int .i64 p3] (.one (.one (.int .i64))) fun (x8 : Int) =>
      k1 (x8, ())) <|
    k1 (12, ())) fun z2 =>
  L.join (Y := Unit) (fun k9 =>
    L.ite (z2.1 == 0) (
      L.nonnil p0 fun a11 =>
      L.load (.one (.int .i64)) (a11.add 2) fun (x12 : Int) =>
      L.nonnil p0 fun a13 =>
      L.store (a13.add 2) [.int .i64 (IntKind.wrap .i64 (x12 + 1))] <|
      k9 (())) <|
    k9 (())) fun z10 =>
  K (.int .i64 z2.1)
theorem D_shelf_Shelf_Drop (p0 : Option Addr) (p1 : Int) (p2 : ByteArray) (p3 : Int) (K : Value → PT) : denF Pr Dt Tryz.f15 A_shelf_Shelf_Drop [.v (.pointer p0), .v (.int .i64 p1), .v (.string p2), .v (.int .i64 p3)] K = F_shelf_Shelf_Drop p0 p1 p2 p3 K := by kernel_rfl
theorem C_shelf_Shelf_Drop (p0 : Option Addr) (p1 : Int) (p2 : ByteArray) (p3 : Int) {K : Value → PT} {w : World} (h : F_shelf_Shelf_Drop p0 p1 p2 p3 K w) : Calls Pr n_shelf_Shelf_Drop [.pointer p0, .int .i64 p1, .string p2, .int .i64 p3].toArray w fun e w2 => ∃ v, e = .returned v ∧ K v w2 :=
  denF_ok Tok (f := 15) (fn := Tryz.f15) (an := A_shelf_Shelf_Drop) (args := [.v (.pointer p0), .v (.int .i64 p1), .v (.string p2), .v (.int .i64 p3)]) (by kernel_rfl) (by kernel_rfl) ((congrFun (D_shelf_Shelf_Drop p0 p1 p2 p3 K) w).mpr h)
theorem E_shelf_Shelf_Drop : Enters Pr n_shelf_Shelf_Drop := enters_of_B (by kernel_rfl)

def A_damperlaw2_Config : Ann := .auto
/-- damper/damperlaw2.Config -/
def F_damperlaw2_Config (p0 : HT [.str, .int .i64, .int .i64, .int .i64, .int .i64, .int .i64]) (p1 : Int) (K : Value → PT) : PT :=
  L.new [.string p0.1, .int .i64 p0.2.1, .int .i64 p0.2.2.1, .int .i64 p0.2.2.2.1, .int .i64 p0.2.2.2.2.1, .int .i64 p0.2.2.2.2.2.1] T_api_Config fun b1 =>
  L.new [.string s_, .int .i64 0, .int .i64 0, .int .i64 0, .int .i64 0, .int .i64 0] T_api_Config fun b2 =>
  L.new [.string s_web, .string s_api, .string s_a_b] T_string fun b3 =>
  L.call Pr n_damperlaw2_within [.int .i64 p1, .int .i64 3] (.one (.one (.int .i64))) fun (x4 : Int) =>
  L.idx (some ⟨b3, 0, none⟩) x4 3 1 fun a5 =>
  L.load (.one (.str)) a5 fun (x6 : ByteArray) =>
  L.store ((⟨b1, 0, none⟩ : Addr).add 0) [.string x6] <|
  L.load (.one (.int .i64)) ((⟨b1, 0, none⟩ : Addr).add 1) fun (x7 : Int) =>
  L.call Pr n_damperlaw2_within [.int .i64 x7, .int .i64 256] (.one (.one (.int .i64))) fun (x8 : Int) =>
  L.store ((⟨b1, 0, none⟩ : Addr).add 1) [.int .i64 x8] <|
  L.load (.one (.int .i64)) ((⟨b1, 0, none⟩ : Addr).add 2) fun (x9 : Int) =>
  L.call Pr n_damperlaw2_within [.int .i64 x9, .int .i64 8] (.one (.one (.int .i64))) fun (x10 : Int) =>
  L.store ((⟨b1, 0, none⟩ : Addr).add 2) [.int .i64 (IntKind.wrap .i64 (1 + x10))] <|
  L.load (.one (.int .i64)) ((⟨b1, 0, none⟩ : Addr).add 4) fun (x11 : Int) =>
  L.call Pr n_damperlaw2_within [.int .i64 x11, .int .i64 10] (.one (.one (.int .i64))) fun (x12 : Int) =>
  L.store ((⟨b1, 0, none⟩ : Addr).add 4) [.int .i64 (IntKind.wrap .i64 (1 + x12))] <|
  L.load (.one (.int .i64)) ((⟨b1, 0, none⟩ : Addr).add 3) fun (x13 : Int) =>
  L.load (.one (.int .i64)) ((⟨b1, 0, none⟩ : Addr).add 4) fun (x14 : Int) =>
  L.call Pr n_damperlaw2_within [.int .i64 x13, .int .i64 (IntKind.wrap .i64 (x14 + 1))] (.one (.one (.int .i64))) fun (x15 : Int) =>
  L.store ((⟨b1, 0, none⟩ : Addr).add 3) [.int .i64 x15] <|
  L.load (.one (.int .i64)) ((⟨b1, 0, none⟩ : Addr).add 5) fun (x16 : Int) =>
  L.call Pr n_damperlaw2_within [.int .i64 x16, .int .i64 31] (.one (.one (.int .i64))) fun (x17 : Int) =>
  L.store ((⟨b1, 0, none⟩ : Addr).add 5) [.int .i64 x17] <|
  L.load (.agg [.str, .int .i64, .int .i64, .int .i64, .int .i64, .int .i64]) (⟨b1, 0, none⟩) fun (x18 : ByteArray × Int × Int × Int × Int × Int × Unit) =>
  L.store (⟨b2, 0, none⟩) [.string x18.1, .int .i64 x18.2.1, .int .i64 x18.2.2.1, .int .i64 x18.2.2.2.1, .int .i64 x18.2.2.2.2.1, .int .i64 x18.2.2.2.2.2.1] <|
  L.load (.agg [.str, .int .i64, .int .i64, .int .i64, .int .i64, .int .i64]) (⟨b2, 0, none⟩) fun (x19 : ByteArray × Int × Int × Int × Int × Int × Unit) =>
  K (.agg #[.string x19.1, .int .i64 x19.2.1, .int .i64 x19.2.2.1, .int .i64 x19.2.2.2.1, .int .i64 x19.2.2.2.2.1, .int .i64 x19.2.2.2.2.2.1])
theorem D_damperlaw2_Config (p0 : HT [.str, .int .i64, .int .i64, .int .i64, .int .i64, .int .i64]) (p1 : Int) (K : Value → PT) : denF Pr Dt Tryz.f16 A_damperlaw2_Config [.ag [.string p0.1, .int .i64 p0.2.1, .int .i64 p0.2.2.1, .int .i64 p0.2.2.2.1, .int .i64 p0.2.2.2.2.1, .int .i64 p0.2.2.2.2.2.1], .v (.int .i64 p1)] K = F_damperlaw2_Config p0 p1 K := by kernel_rfl
theorem C_damperlaw2_Config (p0 : HT [.str, .int .i64, .int .i64, .int .i64, .int .i64, .int .i64]) (p1 : Int) {K : Value → PT} {w : World} (h : F_damperlaw2_Config p0 p1 K w) : Calls Pr n_damperlaw2_Config [(.ag [.string p0.1, .int .i64 p0.2.1, .int .i64 p0.2.2.1, .int .i64 p0.2.2.2.1, .int .i64 p0.2.2.2.2.1, .int .i64 p0.2.2.2.2.2.1] : SV).toV, .int .i64 p1].toArray w fun e w2 => ∃ v, e = .returned v ∧ K v w2 :=
  denF_ok Tok (f := 16) (fn := Tryz.f16) (an := A_damperlaw2_Config) (args := [.ag [.string p0.1, .int .i64 p0.2.1, .int .i64 p0.2.2.1, .int .i64 p0.2.2.2.1, .int .i64 p0.2.2.2.2.1, .int .i64 p0.2.2.2.2.2.1], .v (.int .i64 p1)]) (by kernel_rfl) (by kernel_rfl) ((congrFun (D_damperlaw2_Config p0 p1 K) w).mpr h)
theorem E_damperlaw2_Config : Enters Pr n_damperlaw2_Config := enters_of_B (by kernel_rfl)

def A_shelf_Shelf_PutConfig : Ann := (.seq .auto (.seq .auto (.seq .auto .auto (some [(8, (.one (.int .i64)))])) none) none)
/-- (*damper/shelf.Shelf).PutConfig -/
def F_shelf_Shelf_PutConfig (p0 : Option Addr) (p1 : HT [.str, .int .i64, .int .i64, .int .i64, .int .i64, .int .i64]) (p2 : Int) (K : Value → PT) : PT :=
  L.new [.string p1.1, .int .i64 p1.2.1, .int .i64 p1.2.2.1, .int .i64 p1.2.2.2.1, .int .i64 p1.2.2.2.2.1, .int .i64 p1.2.2.2.2.2.1] T_api_Config fun b1 =>
  L.load (.agg [.str, .int .i64, .int .i64, .int .i64, .int .i64, .int .i64]) (⟨b1, 0, none⟩) fun (x2 : ByteArray × Int × Int × Int × Int × Int × Unit) =>
  L.call Pr n_spec_Config [.agg #[.string x2.1, .int .i64 x2.2.1, .int .i64 x2.2.2.1, .int .i64 x2.2.2.2.1, .int .i64 x2.2.2.2.2.1, .int .i64 x2.2.2.2.2.2.1]] (.one (.one (.int .i64))) fun (x3 : Int) =>
  L.join (Y := Int × Unit) (fun k4 =>
    L.ite (x3 == 0) (
      L.draw <|
      L.nonnil p0 fun a6 =>
      L.load (.one (.ptr)) (a6.add 0) fun (x7 : Option Addr) =>
      L.load (.one (.str)) ((⟨b1, 0, none⟩ : Addr).add 0) fun (x8 : ByteArray) =>
      L.call Pr n_shelf_rack_api_Config_may [.pointer x7, .string x8, .int .i64 p2, .bool true] (.one (.one (.int .i64))) fun (x9 : Int) =>
      k4 (x9, ())) <|
    k4 (x3, ())) fun z5 =>
  L.ite (z5.1 != 0) (
    K (.tuple #[.int .i64 0, .int .i64 z5.1])) <|
  L.nonnil p0 fun a10 =>
  L.load (.one (.int .i64)) (a10.add 2) fun (x11 : Int) =>
  L.nonnil p0 fun a12 =>
  L.store (a12.add 2) [.int .i64 (IntKind.wrap .i64 (x11 + 1))] <|
  L.draw <|
  L.nonnil p0 fun a13 =>
  L.load (.one (.ptr)) (a13.add 0) fun (x14 : Option Addr) =>
  L.load (.one (.str)) ((⟨b1, 0, none⟩ : Addr).add 0) fun (x15 : ByteArray) =>
  L.load (.agg [.str, .int .i64, .int .i64, .int .i64, .int .i64, .int .i64]) (⟨b1, 0, none⟩) fun (x16 : ByteArray × Int × Int × Int × Int × Int × Unit) =>
  L.nonnil p0 fun a17 =>
  L.load (.one (.int .i64)) (a17.add 2) fun (x18 : Int) =>
  L.call Pr n_shelf_rack_api_Config_put [.pointer x14, .string x15, .agg #[.string x16.1, .int .i64 x16.2.1, .int .i64 x16.2.2.1, .int .i64 x16.2.2.2.1, .int .i64 x16.2.2.2.2.1, .int .i64 x16.2.2.2.2.2.1], .int .i64 x18] (.tup []) fun (x19 : Unit) =>
  L.nonnil p0 fun a20 =>
  L.load (.one (.int .i64)) (a20.add 2) fun (x21 : Int) =>
  K (.tuple #[.int .i64 x21, .int .i64 0])
theorem D_shelf_Shelf_PutConfig (p0 : Option Addr) (p1 : HT [.str, .int .i64, .int .i64, .int .i64, .int .i64, .int .i64]) (p2 : Int) (K : Value → PT) : denF Pr Dt Tryz.f17 A_shelf_Shelf_PutConfig [.v (.pointer p0), .ag [.string p1.1, .int .i64 p1.2.1, .int .i64 p1.2.2.1, .int .i64 p1.2.2.2.1, .int .i64 p1.2.2.2.2.1, .int .i64 p1.2.2.2.2.2.1], .v (.int .i64 p2)] K = F_shelf_Shelf_PutConfig p0 p1 p2 K := by kernel_rfl
theorem C_shelf_Shelf_PutConfig (p0 : Option Addr) (p1 : HT [.str, .int .i64, .int .i64, .int .i64, .int .i64, .int .i64]) (p2 : Int) {K : Value → PT} {w : World} (h : F_shelf_Shelf_PutConfig p0 p1 p2 K w) : Calls Pr n_shelf_Shelf_PutConfig [.pointer p0, (.ag [.string p1.1, .int .i64 p1.2.1, .int .i64 p1.2.2.1, .int .i64 p1.2.2.2.1, .int .i64 p1.2.2.2.2.1, .int .i64 p1.2.2.2.2.2.1] : SV).toV, .int .i64 p2].toArray w fun e w2 => ∃ v, e = .returned v ∧ K v w2 :=
  denF_ok Tok (f := 17) (fn := Tryz.f17) (an := A_shelf_Shelf_PutConfig) (args := [.v (.pointer p0), .ag [.string p1.1, .int .i64 p1.2.1, .int .i64 p1.2.2.1, .int .i64 p1.2.2.2.1, .int .i64 p1.2.2.2.2.1, .int .i64 p1.2.2.2.2.2.1], .v (.int .i64 p2)]) (by kernel_rfl) (by kernel_rfl) ((congrFun (D_shelf_Shelf_PutConfig p0 p1 p2 K) w).mpr h)
theorem E_shelf_Shelf_PutConfig : Enters Pr n_shelf_Shelf_PutConfig := enters_of_B (by kernel_rfl)

def A_damperlaw4_version : Ann := (.seq .auto (.seq .auto (.seq .auto .auto (some [(9, (.one (.int .i64)))])) none) none)
/-- damper/damperlaw4.version -/
def F_damperlaw4_version (p0 : Option Addr) (p1 : Int) (p2 : ByteArray) (p3 : Int) (K : Value → PT) : PT :=
  L.join (Y := Int × Unit) (fun k1 =>
    L.ite (p1 == 1) (
      L.call Pr n_damperref4_Shelf_Config [.pointer p0, .string p2] (.tup [(.agg [.str, .int .i64, .int .i64, .int .i64, .int .i64, .int .i64]), (.one (.int .i64)), (.one (.int .i64)), (.one (.bool))]) fun (x3 : (ByteArray × Int × Int × Int × Int × Int × Unit) × Int × Int × Bool × Unit) =>
      k1 (x3.2.1, ())) <|
    L.call Pr n_damperref4_Shelf_Route [.pointer p0, .string p2] (.tup [(.agg [.str, .str, .slice, .int .i64]), (.one (.int .i64)), (.one (.bool))]) fun (x4 : (ByteArray × ByteArray × Sl × Int × Unit) × Int × Bool × Unit) =>
    k1 (x4.2.1, ())) fun z2 =>
  L.new [.int .i64 z2.1, .int .i64 z2.1, .int .i64 z2.1, .int .i64 0, .int .i64 (IntKind.wrap .i64 (z2.1 - 1)), .int .i64 p3] T_int fun b5 =>
  L.call Pr n_damperlaw4_within [.int .i64 p3, .int .i64 6] (.one (.one (.int .i64))) fun (x6 : Int) =>
  L.idx (some ⟨b5, 0, none⟩) x6 6 1 fun a7 =>
  L.load (.one (.int .i64)) a7 fun (x8 : Int) =>
  K (.int .i64 x8)
theorem D_damperlaw4_version (p0 : Option Addr) (p1 : Int) (p2 : ByteArray) (p3 : Int) (K : Value → PT) : denF Pr Dt Tryz.f18 A_damperlaw4_version [.v (.pointer p0), .v (.int .i64 p1), .v (.string p2), .v (.int .i64 p3)] K = F_damperlaw4_version p0 p1 p2 p3 K := by kernel_rfl
theorem C_damperlaw4_version (p0 : Option Addr) (p1 : Int) (p2 : ByteArray) (p3 : Int) {K : Value → PT} {w : World} (h : F_damperlaw4_version p0 p1 p2 p3 K w) : Calls Pr n_damperlaw4_version [.pointer p0, .int .i64 p1, .string p2, .int .i64 p3].toArray w fun e w2 => ∃ v, e = .returned v ∧ K v w2 :=
  denF_ok Tok (f := 18) (fn := Tryz.f18) (an := A_damperlaw4_version) (args := [.v (.pointer p0), .v (.int .i64 p1), .v (.string p2), .v (.int .i64 p3)]) (by kernel_rfl) (by kernel_rfl) ((congrFun (D_damperlaw4_version p0 p1 p2 p3 K) w).mpr h)
theorem E_damperlaw4_version : Enters Pr n_damperlaw4_version := enters_of_B (by kernel_rfl)

def A_damperref4_Shelf_PutConfig : Ann := (.seq .auto (.seq .auto (.seq .auto (.seq .auto (.seq .auto (.seq .auto .auto (some [])) none) none) none) none) none)
/-- (*damper/damperref4.Shelf).PutConfig -/
def F_damperref4_Shelf_PutConfig (p0 : Option Addr) (p1 : HT [.str, .int .i64, .int .i64, .int .i64, .int .i64, .int .i64]) (p2 : Int) (K : Value → PT) : PT :=
  L.new [.string p1.1, .int .i64 p1.2.1, .int .i64 p1.2.2.1, .int .i64 p1.2.2.2.1, .int .i64 p1.2.2.2.2.1, .int .i64 p1.2.2.2.2.2.1] T_api_Config fun b1 =>
  L.load (.agg [.str, .int .i64, .int .i64, .int .i64, .int .i64, .int .i64]) (⟨b1, 0, none⟩) fun (x2 : ByteArray × Int × Int × Int × Int × Int × Unit) =>
  L.call Pr n_damperref2_Config [.agg #[.string x2.1, .int .i64 x2.2.1, .int .i64 x2.2.2.1, .int .i64 x2.2.2.2.1, .int .i64 x2.2.2.2.2.1, .int .i64 x2.2.2.2.2.2.1]] (.one (.one (.int .i64))) fun (x3 : Int) =>
  L.ite (x3 != 0) (
    K (.tuple #[.int .i64 0, .int .i64 x3])) <|
  L.load (.one (.str)) ((⟨b1, 0, none⟩ : Addr).add 0) fun (x4 : ByteArray) =>
  L.call Pr n_damperref4_Shelf_put [.pointer p0, .int .i64 1, .string x4, .int .i64 p2] (.tup [(.one (.ptr)), (.one (.int .i64))]) fun (x5 : Option Addr × Int × Unit) =>
  L.ite (x5.2.1 != 0) (
    K (.tuple #[.int .i64 0, .int .i64 x5.2.1])) <|
  L.join (Y := Unit) (fun k6 =>
    L.draw <|
    L.nonnil x5.1 fun a8 =>
    L.load (.one (.bool)) (a8.add 14) fun (x9 : Bool) =>
    L.ite (!x9) (
      L.nonnil x5.1 fun a10 =>
      L.load (.one (.int .i64)) (a10.add 13) fun (x11 : Int) =>
      L.nonnil x5.1 fun a12 =>
      L.store (a12.add 13) [.int .i64 (IntKind.wrap .i64 (x11 + 1))] <|
      k6 (())) <|
    L.nonnil x5.1 fun a13 =>
    L.load (.agg [.str, .int .i64, .int .i64, .int .i64, .int .i64, .int .i64]) (a13.add 2) fun (x14 : ByteArray × Int × Int × Int × Int × Int × Unit) =>
    L.load (.agg [.str, .int .i64, .int .i64, .int .i64, .int .i64, .int .i64]) (⟨b1, 0, none⟩) fun (x15 : ByteArray × Int × Int × Int × Int × Int × Unit) =>
    L.chkSem Pr (do eqGuard .neq T_api_Config (.tmp 0) (.tmp 0) (.agg #[.string x14.1, .int .i64 x14.2.1, .int .i64 x14.2.2.1, .int .i64 x14.2.2.2.1, .int .i64 x14.2.2.2.2.1, .int .i64 x14.2.2.2.2.2.1]) (.agg #[.string x15.1, .int .i64 x15.2.1, .int .i64 x15.2.2.1, .int .i64 x15.2.2.2.1, .int .i64 x15.2.2.2.2.1, .int .i64 x15.2.2.2.2.2.1]); binOp .neq T_api_Config (.agg #[.string x14.1, .int .i64 x14.2.1, .int .i64 x14.2.2.1, .int .i64 x14.2.2.2.1, .int .i64 x14.2.2.2.2.1, .int .i64 x14.2.2.2.2.2.1]) (.agg #[.string x15.1, .int .i64 x15.2.1, .int .i64 x15.2.2.1, .int .i64 x15.2.2.2.1, .int .i64 x15.2.2.2.2.1, .int .i64 x15.2.2.2.2.2.1])) (.bool (!((x14.1 == x15.1) && ((x14.2.1 == x15.2.1) && ((x14.2.2.1 == x15.2.2.1) && ((x14.2.2.2.1 == x15.2.2.2.1) && ((x14.2.2.2.2.1 == x15.2.2.2.2.1) && ((x14.2.2.2.2.2.1 == x15.2.2.2.2.2.1) && true)))))))) <|
    L.ite (!((x14.1 == x15.1) && ((x14.2.1 == x15.2.1) && ((x14.2.2.1 == x15.2.2.1) && ((x14.2.2.2.1 == x15.2.2.2.1) && ((x14.2.2.2.2.1 == x15.2.2.2.2.1) && ((x14.2.2.2.2.2.1 == x15.2.2.2.2.2.1) && true))))))) (
      L.nonnil x5.1 fun a16 =>
      L.load (.one (.int .i64)) (a16.add 13) fun (x17 : Int) =>
      L.nonnil x5.1 fun a18 =>
      L.store (a18.add 13) [.int .i64 (IntKind.wrap .i64 (x17 + 1))] <|
      k6 (())) <|
    k6 (())) fun z7 =>
  L.load (.agg [.str, .int .i64, .int .i64, .int .i64, .int .i64, .int .i64]) (⟨b1, 0, none⟩) fun (x19 : ByteArray × Int × Int × Int × Int × Int × Unit) =>
  L.nonnil x5.1 fun a20 =>
  L.store (a20.add 2) [.string x19.1, .int .i64 x19.2.1, .int .i64 x19.2.2.1, .int .i64 x19.2.2.2.1, .int .i64 x19.2.2.2.2.1, .int .i64 x19.2.2.2.2.2.1] <|
  L.nonnil x5.1 fun a21 =>
  L.store (a21.add 14) [.bool true] <|
  L.nonnil x5.1 fun a22 =>
  L.load (.one (.int .i64)) (a22.add 12) fun (x23 : Int) =>
  K (.tuple #[.int .i64 x23, .int .i64 0])
theorem D_damperref4_Shelf_PutConfig (p0 : Option Addr) (p1 : HT [.str, .int .i64, .int .i64, .int .i64, .int .i64, .int .i64]) (p2 : Int) (K : Value → PT) : denF Pr Dt Tryz.f19 A_damperref4_Shelf_PutConfig [.v (.pointer p0), .ag [.string p1.1, .int .i64 p1.2.1, .int .i64 p1.2.2.1, .int .i64 p1.2.2.2.1, .int .i64 p1.2.2.2.2.1, .int .i64 p1.2.2.2.2.2.1], .v (.int .i64 p2)] K = F_damperref4_Shelf_PutConfig p0 p1 p2 K := by kernel_rfl
theorem C_damperref4_Shelf_PutConfig (p0 : Option Addr) (p1 : HT [.str, .int .i64, .int .i64, .int .i64, .int .i64, .int .i64]) (p2 : Int) {K : Value → PT} {w : World} (h : F_damperref4_Shelf_PutConfig p0 p1 p2 K w) : Calls Pr n_damperref4_Shelf_PutConfig [.pointer p0, (.ag [.string p1.1, .int .i64 p1.2.1, .int .i64 p1.2.2.1, .int .i64 p1.2.2.2.1, .int .i64 p1.2.2.2.2.1, .int .i64 p1.2.2.2.2.2.1] : SV).toV, .int .i64 p2].toArray w fun e w2 => ∃ v, e = .returned v ∧ K v w2 :=
  denF_ok Tok (f := 19) (fn := Tryz.f19) (an := A_damperref4_Shelf_PutConfig) (args := [.v (.pointer p0), .ag [.string p1.1, .int .i64 p1.2.1, .int .i64 p1.2.2.1, .int .i64 p1.2.2.2.1, .int .i64 p1.2.2.2.2.1, .int .i64 p1.2.2.2.2.2.1], .v (.int .i64 p2)]) (by kernel_rfl) (by kernel_rfl) ((congrFun (D_damperref4_Shelf_PutConfig p0 p1 p2 K) w).mpr h)
theorem E_damperref4_Shelf_PutConfig : Enters Pr n_damperref4_Shelf_PutConfig := enters_of_B (by kernel_rfl)

def A_damperref4_Shelf_PutRoute : Ann := .auto
/-- (*damper/damperref4.Shelf).PutRoute -/
def F_damperref4_Shelf_PutRoute (p0 : Option Addr) (p1 : HT [.str, .str, .slice, .int .i64]) (p2 : Int) (K : Value → PT) : PT :=
  L.new [.string p1.1, .string p1.2.1, .slice p1.2.2.1.a p1.2.2.1.len p1.2.2.1.cap, .int .i64 p1.2.2.2.1] T_api_Route fun b1 =>
  L.load (.agg [.str, .str, .slice, .int .i64]) (⟨b1, 0, none⟩) fun (x2 : ByteArray × ByteArray × Sl × Int × Unit) =>
  L.call Pr n_damperref2_Route [.agg #[.string x2.1, .string x2.2.1, .slice x2.2.2.1.a x2.2.2.1.len x2.2.2.1.cap, .int .i64 x2.2.2.2.1]] (.one (.one (.int .i64))) fun (x3 : Int) =>
  L.ite (x3 != 0) (
    K (.tuple #[.int .i64 0, .int .i64 x3])) <|
  L.load (.one (.str)) ((⟨b1, 0, none⟩ : Addr).add 0) fun (x4 : ByteArray) =>
  L.call Pr n_damperref4_Shelf_put [.pointer p0, .int .i64 2, .string x4, .int .i64 p2] (.tup [(.one (.ptr)), (.one (.int .i64))]) fun (x5 : Option Addr × Int × Unit) =>
  L.ite (x5.2.1 != 0) (
    K (.tuple #[.int .i64 0, .int .i64 x5.2.1])) <|
  L.load (.agg [.str, .str, .slice, .int .i64]) (⟨b1, 0, none⟩) fun (x6 : ByteArray × ByteArray × Sl × Int × Unit) =>
  L.nonnil x5.1 fun a7 =>
  L.store (a7.add 8) [.string x6.1, .string x6.2.1, .slice x6.2.2.1.a x6.2.2.1.len x6.2.2.1.cap, .int .i64 x6.2.2.2.1] <|
  L.nonnil x5.1 fun a8 =>
  L.store (a8.add 14) [.bool true] <|
  L.new [] T_api_Target fun b9 =>
  L.load (.one (.slice)) ((⟨b1, 0, none⟩ : Addr).add 2) fun (x10 : Sl) =>
  L.sem Pr (.one (.one .slice)) (Builtin.append_ #[T_s_api_Target, T_s_api_Target] T_s_api_Target #[.slice (some ⟨b9, 0, none⟩) 0 0, .slice x10.a x10.len x10.cap]) fun (s11 : Sl) =>
  L.nonnil x5.1 fun a12 =>
  L.store ((a12.add 8).add 2) [.slice s11.a s11.len s11.cap] <|
  L.nonnil x5.1 fun a13 =>
  L.load (.one (.int .i64)) (a13.add 12) fun (x14 : Int) =>
  K (.tuple #[.int .i64 x14, .int .i64 0])
theorem D_damperref4_Shelf_PutRoute (p0 : Option Addr) (p1 : HT [.str, .str, .slice, .int .i64]) (p2 : Int) (K : Value → PT) : denF Pr Dt Tryz.f20 A_damperref4_Shelf_PutRoute [.v (.pointer p0), .ag [.string p1.1, .string p1.2.1, .slice p1.2.2.1.a p1.2.2.1.len p1.2.2.1.cap, .int .i64 p1.2.2.2.1], .v (.int .i64 p2)] K = F_damperref4_Shelf_PutRoute p0 p1 p2 K := by kernel_rfl
theorem C_damperref4_Shelf_PutRoute (p0 : Option Addr) (p1 : HT [.str, .str, .slice, .int .i64]) (p2 : Int) {K : Value → PT} {w : World} (h : F_damperref4_Shelf_PutRoute p0 p1 p2 K w) : Calls Pr n_damperref4_Shelf_PutRoute [.pointer p0, (.ag [.string p1.1, .string p1.2.1, .slice p1.2.2.1.a p1.2.2.1.len p1.2.2.1.cap, .int .i64 p1.2.2.2.1] : SV).toV, .int .i64 p2].toArray w fun e w2 => ∃ v, e = .returned v ∧ K v w2 :=
  denF_ok Tok (f := 20) (fn := Tryz.f20) (an := A_damperref4_Shelf_PutRoute) (args := [.v (.pointer p0), .ag [.string p1.1, .string p1.2.1, .slice p1.2.2.1.a p1.2.2.1.len p1.2.2.1.cap, .int .i64 p1.2.2.2.1], .v (.int .i64 p2)]) (by kernel_rfl) (by kernel_rfl) ((congrFun (D_damperref4_Shelf_PutRoute p0 p1 p2 K) w).mpr h)
theorem E_damperref4_Shelf_PutRoute : Enters Pr n_damperref4_Shelf_PutRoute := enters_of_B (by kernel_rfl)

def A_damperref4_Shelf_Drop : Ann := (.seq .auto (.seq (.seq .auto (.cond .auto .auto) none) .auto (some [])) none)
/-- (*damper/damperref4.Shelf).Drop -/
def F_damperref4_Shelf_Drop (p0 : Option Addr) (p1 : Int) (p2 : ByteArray) (p3 : Int) (K : Value → PT) : PT :=
  L.join (Y := Unit) (fun k1 =>
    L.ite (p1 != 1) (
      L.ite (p1 != 2) (
        K (.int .i64 12)) <|
      k1 (())) <|
    k1 (())) fun z2 =>
  L.call Pr n_damperref4_Shelf_find [.pointer p0, .int .i64 p1, .string p2] (.one (.one (.ptr))) fun (x3 : Option Addr) =>
  L.ite ((x3).isNone) (
    K (.int .i64 6)) <|
  L.nonnil x3 fun a4 =>
  L.load (.one (.bool)) (a4.add 14) fun (x5 : Bool) =>
  L.ite (!x5) (
    K (.int .i64 6)) <|
  L.nonnil x3 fun a6 =>
  L.load (.one (.int .i64)) (a6.add 12) fun (x7 : Int) =>
  L.ite (x7 != p3) (
    K (.int .i64 7)) <|
  L.nonnil p0 fun a8 =>
  L.load (.one (.int .i64)) (a8.add 1) fun (x9 : Int) =>
  L.nonnil p0 fun a10 =>
  L.store (a10.add 1) [.int .i64 (IntKind.wrap .i64 (x9 + 1))] <|
  L.nonnil x3 fun a11 =>
  L.store (a11.add 14) [.bool false] <|
  K (.int .i64 0)
theorem D_damperref4_Shelf_Drop (p0 : Option Addr) (p1 : Int) (p2 : ByteArray) (p3 : Int) (K : Value → PT) : denF Pr Dt Tryz.f21 A_damperref4_Shelf_Drop [.v (.pointer p0), .v (.int .i64 p1), .v (.string p2), .v (.int .i64 p3)] K = F_damperref4_Shelf_Drop p0 p1 p2 p3 K := by kernel_rfl
theorem C_damperref4_Shelf_Drop (p0 : Option Addr) (p1 : Int) (p2 : ByteArray) (p3 : Int) {K : Value → PT} {w : World} (h : F_damperref4_Shelf_Drop p0 p1 p2 p3 K w) : Calls Pr n_damperref4_Shelf_Drop [.pointer p0, .int .i64 p1, .string p2, .int .i64 p3].toArray w fun e w2 => ∃ v, e = .returned v ∧ K v w2 :=
  denF_ok Tok (f := 21) (fn := Tryz.f21) (an := A_damperref4_Shelf_Drop) (args := [.v (.pointer p0), .v (.int .i64 p1), .v (.string p2), .v (.int .i64 p3)]) (by kernel_rfl) (by kernel_rfl) ((congrFun (D_damperref4_Shelf_Drop p0 p1 p2 p3 K) w).mpr h)
theorem E_damperref4_Shelf_Drop : Enters Pr n_damperref4_Shelf_Drop := enters_of_B (by kernel_rfl)

def A_damperlaw4_same : Ann := (.seq .auto (.seq .auto (.seq (.seq .auto (.one [(6, (.one (.int .i64)))] (.seq .auto (.seq (.seq .auto (.seq .auto (.seq .auto (.seq .auto (.seq .auto .auto (some [(104, (.one (.bool)))])) none) none) none) none) .auto none) none)) none) (.seq (.seq .auto (.one [(21, (.one (.int .i64)))] .auto) none) .auto none) none) none) none)
/-- damper/damperlaw4.same -/
def F_damperlaw4_same (p0 : Option Addr) (p1 : Option Addr) (K : Value → PT) : PT :=
  L.new [.string s_web, .string s_api, .string s_a_b, .string s_front, .string s_back, .string s_r_1, .string s_none, .string s_] T_string fun b1 =>
  L.loop (Y := Int × Unit) (0, ()) fun y2 again3 =>
  L.ite (decide (y2.1 < ((8 : Nat) : Int))) (
    L.idx (some ⟨b1, 0, none⟩) y2.1 8 1 fun a4 =>
    L.load (.one (.str)) a4 fun (x5 : ByteArray) =>
    L.call Pr n_shelf_Shelf_Config [.pointer p0, .string x5] (.tup [(.agg [.str, .int .i64, .int .i64, .int .i64, .int .i64, .int .i64]), (.one (.int .i64)), (.one (.int .i64)), (.one (.bool))]) fun (x6 : (ByteArray × Int × Int × Int × Int × Int × Unit) × Int × Int × Bool × Unit) =>
    L.new [.string s_, .int .i64 0, .int .i64 0, .int .i64 0, .int .i64 0, .int .i64 0] T_api_Config fun b7 =>
    L.store (⟨b7, 0, none⟩) [.string x6.1.1, .int .i64 x6.1.2.1, .int .i64 x6.1.2.2.1, .int .i64 x6.1.2.2.2.1, .int .i64 x6.1.2.2.2.2.1, .int .i64 x6.1.2.2.2.2.2.1] <|
    L.idx (some ⟨b1, 0, none⟩) y2.1 8 1 fun a8 =>
    L.load (.one (.str)) a8 fun (x9 : ByteArray) =>
    L.call Pr n_damperref4_Shelf_Config [.pointer p1, .string x9] (.tup [(.agg [.str, .int .i64, .int .i64, .int .i64, .int .i64, .int .i64]), (.one (.int .i64)), (.one (.int .i64)), (.one (.bool))]) fun (x10 : (ByteArray × Int × Int × Int × Int × Int × Unit) × Int × Int × Bool × Unit) =>
    L.new [.string s_, .int .i64 0, .int .i64 0, .int .i64 0, .int .i64 0, .int .i64 0] T_api_Config fun b11 =>
    L.store (⟨b11, 0, none⟩) [.string x10.1.1, .int .i64 x10.1.2.1, .int .i64 x10.1.2.2.1, .int .i64 x10.1.2.2.2.1, .int .i64 x10.1.2.2.2.2.1, .int .i64 x10.1.2.2.2.2.2.1] <|
    L.idx (some ⟨b1, 0, none⟩) y2.1 8 1 fun a12 =>
    L.load (.one (.str)) a12 fun (x13 : ByteArray) =>
    L.call Pr n_shelf_Shelf_Route [.pointer p0, .string x13] (.tup [(.agg [.str, .str, .slice, .int .i64]), (.one (.int .i64)), (.one (.bool))]) fun (x14 : (ByteArray × ByteArray × Sl × Int × Unit) × Int × Bool × Unit) =>
    L.new [.string s_, .string s_, .slice none 0 0, .int .i64 0] T_api_Route fun b15 =>
    L.store (⟨b15, 0, none⟩) [.string x14.1.1, .string x14.1.2.1, .slice x14.1.2.2.1.a x14.1.2.2.1.len x14.1.2.2.1.cap, .int .i64 x14.1.2.2.2.1] <|
    L.idx (some ⟨b1, 0, none⟩) y2.1 8 1 fun a16 =>
    L.load (.one (.str)) a16 fun (x17 : ByteArray) =>
    L.call Pr n_damperref4_Shelf_Route [.pointer p1, .string x17] (.tup [(.agg [.str, .str, .slice, .int .i64]), (.one (.int .i64)), (.one (.bool))]) fun (x18 : (ByteArray × ByteArray × Sl × Int × Unit) × Int × Bool × Unit) =>
    L.new [.string s_, .string s_, .slice none 0 0, .int .i64 0] T_api_Route fun b19 =>
    L.store (⟨b19, 0, none⟩) [.string x18.1.1, .string x18.1.2.1, .slice x18.1.2.2.1.a x18.1.2.2.1.len x18.1.2.2.1.cap, .int .i64 x18.1.2.2.2.1] <|
    L.join (Y := Bool × Unit) (fun k20 =>
      L.load (.agg [.str, .int .i64, .int .i64, .int .i64, .int .i64, .int .i64]) (⟨b7, 0, none⟩) fun (x22 : ByteArray × Int × Int × Int × Int × Int × Unit) =>
      L.load (.agg [.str, .int .i64, .int .i64, .int .i64, .int .i64, .int .i64]) (⟨b11, 0, none⟩) fun (x23 : ByteArray × Int × Int × Int × Int × Int × Unit) =>
      L.chkSem Pr (do eqGuard .neq T_api_Config (.tmp 0) (.tmp 0) (.agg #[.string x22.1, .int .i64 x22.2.1, .int .i64 x22.2.2.1, .int .i64 x22.2.2.2.1, .int .i64 x22.2.2.2.2.1, .int .i64 x22.2.2.2.2.2.1]) (.agg #[.string x23.1, .int .i64 x23.2.1, .int .i64 x23.2.2.1, .int .i64 x23.2.2.2.1, .int .i64 x23.2.2.2.2.1, .int .i64 x23.2.2.2.2.2.1]); binOp .neq T_api_Config (.agg #[.string x22.1, .int .i64 x22.2.1, .int .i64 x22.2.2.1, .int .i64 x22.2.2.2.1, .int .i64 x22.2.2.2.2.1, .int .i64 x22.2.2.2.2.2.1]) (.agg #[.string x23.1, .int .i64 x23.2.1, .int .i64 x23.2.2.1, .int .i64 x23.2.2.2.1, .int .i64 x23.2.2.2.2.1, .int .i64 x23.2.2.2.2.2.1])) (.bool (!((x22.1 == x23.1) && ((x22.2.1 == x23.2.1) && ((x22.2.2.1 == x23.2.2.1) && ((x22.2.2.2.1 == x23.2.2.2.1) && ((x22.2.2.2.2.1 == x23.2.2.2.2.1) && ((x22.2.2.2.2.2.1 == x23.2.2.2.2.2.1) && true)))))))) <|
      L.ite (!((x22.1 == x23.1) && ((x22.2.1 == x23.2.1) && ((x22.2.2.1 == x23.2.2.1) && ((x22.2.2.2.1 == x23.2.2.2.1) && ((x22.2.2.2.2.1 == x23.2.2.2.2.1) && ((x22.2.2.2.2.2.1 == x23.2.2.2.2.2.1) && true))))))) (
        k20 (true, ())) <|
      L.ite (x6.2.1 != x10.2.1) (
        k20 (true, ())) <|
      L.ite (x6.2.2.1 != x10.2.2.1) (
        k20 (true, ())) <|
      L.ite (!(x6.2.2.2.1 == x10.2.2.2.1)) (
        k20 (true, ())) <|
      L.load (.agg [.str, .str, .slice, .int .i64]) (⟨b15, 0, none⟩) fun (x24 : ByteArray × ByteArray × Sl × Int × Unit) =>
      L.load (.agg [.str, .str, .slice, .int .i64]) (⟨b19, 0, none⟩) fun (x25 : ByteArray × ByteArray × Sl × Int × Unit) =>
      L.call Pr n_damperref2_SameRoute [.agg #[.string x24.1, .string x24.2.1, .slice x24.2.2.1.a x24.2.2.1.len x24.2.2.1.cap, .int .i64 x24.2.2.2.1], .agg #[.string x25.1, .string x25.2.1, .slice x25.2.2.1.a x25.2.2.1.len x25.2.2.1.cap, .int .i64 x25.2.2.2.1]] (.one (.one (.bool))) fun (x26 : Bool) =>
      L.ite (!x26) (
        k20 (true, ())) <|
      L.ite (x14.2.1 != x18.2.1) (
        k20 (true, ())) <|
      k20 (!(x14.2.2.1 == x18.2.2.1), ())) fun z21 =>
    L.ite z21.1 (
      K (.bool false)) <|
    again3 (IntKind.wrap .i64 (y2.1 + 1), ())) <|
  L.loop (Y := Int × Unit) (0, ()) fun y27 again28 =>
  L.ite (decide (y27.1 < 4)) (
    L.call Pr n_shelf_Shelf_Names [.pointer p0, .int .i64 y27.1] (.one (.one (.slice))) fun (x29 : Sl) =>
    L.call Pr n_damperref4_Shelf_Names [.pointer p1, .int .i64 y27.1] (.one (.one (.slice))) fun (x30 : Sl) =>
    L.call Pr n_damperref4_Same [.slice x29.a x29.len x29.cap, .slice x30.a x30.len x30.cap] (.one (.one (.bool))) fun (x31 : Bool) =>
    L.ite (!x31) (
      K (.bool false)) <|
    again28 (IntKind.wrap .i64 (y27.1 + 1), ())) <|
  K (.bool true)
theorem D_damperlaw4_same (p0 : Option Addr) (p1 : Option Addr) (K : Value → PT) : denF Pr Dt Tryz.f22 A_damperlaw4_same [.v (.pointer p0), .v (.pointer p1)] K = F_damperlaw4_same p0 p1 K := by kernel_rfl
theorem C_damperlaw4_same (p0 : Option Addr) (p1 : Option Addr) {K : Value → PT} {w : World} (h : F_damperlaw4_same p0 p1 K w) : Calls Pr n_damperlaw4_same [.pointer p0, .pointer p1].toArray w fun e w2 => ∃ v, e = .returned v ∧ K v w2 :=
  denF_ok Tok (f := 22) (fn := Tryz.f22) (an := A_damperlaw4_same) (args := [.v (.pointer p0), .v (.pointer p1)]) (by kernel_rfl) (by kernel_rfl) ((congrFun (D_damperlaw4_same p0 p1 K) w).mpr h)
theorem E_damperlaw4_same : Enters Pr n_damperlaw4_same := enters_of_B (by kernel_rfl)

def A_shelf_Shelf_Config : Ann := .auto
/-- (*damper/shelf.Shelf).Config -/
def F_shelf_Shelf_Config (p0 : Option Addr) (p1 : ByteArray) (K : Value → PT) : PT :=
  L.new [.string s_, .int .i64 0, .int .i64 0, .int .i64 0, .int .i64 0, .int .i64 0] T_api_Config fun b1 =>
  L.nonnil p0 fun a2 =>
  L.load (.one (.ptr)) (a2.add 0) fun (x3 : Option Addr) =>
  L.call Pr n_shelf_rack_api_Config_get [.pointer x3, .string p1] (.tup [(.agg [.str, .int .i64, .int .i64, .int .i64, .int .i64, .int .i64, .int .i64, .int .i64, .bool]), (.one (.bool))]) fun (x4 : (ByteArray × Int × Int × Int × Int × Int × Int × Int × Bool × Unit) × Bool × Unit) =>
  L.new [.string s_, .int .i64 0, .int .i64 0, .int .i64 0, .int .i64 0, .int .i64 0, .int .i64 0, .int .i64 0, .bool false] T_shelf_thing_api_Config fun b5 =>
  L.store (⟨b5, 0, none⟩) [.string x4.1.1, .int .i64 x4.1.2.1, .int .i64 x4.1.2.2.1, .int .i64 x4.1.2.2.2.1, .int .i64 x4.1.2.2.2.2.1, .int .i64 x4.1.2.2.2.2.2.1, .int .i64 x4.1.2.2.2.2.2.2.1, .int .i64 x4.1.2.2.2.2.2.2.2.1, .bool x4.1.2.2.2.2.2.2.2.2.1] <|
  L.ite (!x4.2.1) (
    L.store (⟨b1, 0, none⟩) [.string s_, .int .i64 0, .int .i64 0, .int .i64 0, .int .i64 0, .int .i64 0] <|
    L.load (.agg [.str, .int .i64, .int .i64, .int .i64, .int .i64, .int .i64]) (⟨b1, 0, none⟩) fun (x6 : ByteArray × Int × Int × Int × Int × Int × Unit) =>
    K (.tuple #[.agg #[.string x6.1, .int .i64 x6.2.1, .int .i64 x6.2.2.1, .int .i64 x6.2.2.2.1, .int .i64 x6.2.2.2.2.1, .int .i64 x6.2.2.2.2.2.1], .int .i64 0, .int .i64 0, .bool false])) <|
  L.draw <|
  L.load (.agg [.str, .int .i64, .int .i64, .int .i64, .int .i64, .int .i64]) ((⟨b5, 0, none⟩ : Addr).add 0) fun (x7 : ByteArray × Int × Int × Int × Int × Int × Unit) =>
  L.load (.one (.int .i64)) ((⟨b5, 0, none⟩ : Addr).add 6) fun (x8 : Int) =>
  L.load (.one (.int .i64)) ((⟨b5, 0, none⟩ : Addr).add 7) fun (x9 : Int) =>
  L.store (⟨b1, 0, none⟩) [.string x7.1, .int .i64 x7.2.1, .int .i64 x7.2.2.1, .int .i64 x7.2.2.2.1, .int .i64 x7.2.2.2.2.1, .int .i64 x7.2.2.2.2.2.1] <|
  L.chk ((⟨b5, 0, none⟩ : Addr).add 7) [.int .i64 x9] <|
  L.chk ((⟨b5, 0, none⟩ : Addr).add 6) [.int .i64 x8] <|
  L.chk ((⟨b5, 0, none⟩ : Addr).add 7) [.int .i64 x9] <|
  L.load (.agg [.str, .int .i64, .int .i64, .int .i64, .int .i64, .int .i64]) (⟨b1, 0, none⟩) fun (x10 : ByteArray × Int × Int × Int × Int × Int × Unit) =>
  K (.tuple #[.agg #[.string x10.1, .int .i64 x10.2.1, .int .i64 x10.2.2.1, .int .i64 x10.2.2.2.1, .int .i64 x10.2.2.2.2.1, .int .i64 x10.2.2.2.2.2.1], .int .i64 x8, .int .i64 x9, .bool true])
theorem D_shelf_Shelf_Config (p0 : Option Addr) (p1 : ByteArray) (K : Value → PT) : denF Pr Dt Tryz.f23 A_shelf_Shelf_Config [.v (.pointer p0), .v (.string p1)] K = F_shelf_Shelf_Config p0 p1 K := by kernel_rfl
theorem C_shelf_Shelf_Config (p0 : Option Addr) (p1 : ByteArray) {K : Value → PT} {w : World} (h : F_shelf_Shelf_Config p0 p1 K w) : Calls Pr n_shelf_Shelf_Config [.pointer p0, .string p1].toArray w fun e w2 => ∃ v, e = .returned v ∧ K v w2 :=
  denF_ok Tok (f := 23) (fn := Tryz.f23) (an := A_shelf_Shelf_Config) (args := [.v (.pointer p0), .v (.string p1)]) (by kernel_rfl) (by kernel_rfl) ((congrFun (D_shelf_Shelf_Config p0 p1 K) w).mpr h)
theorem E_shelf_Shelf_Config : Enters Pr n_shelf_Shelf_Config := enters_of_B (by kernel_rfl)

def A_shelf_made_api_Config : Ann := .auto
/-- damper/shelf.made[damper/api.Config] -/
def F_shelf_made_api_Config (p0 : FV) (K : Value → PT) : PT :=
  L.sem Pr (.one (.one .map)) (Instr.makeMap T_map_string_shelf_thing_api_Config none) fun (m1 : Option Nat) =>
  L.new [.map m1, .func p0.fn p0.fs p0.cs] T_shelf_rack_api_Config fun b2 =>
  K (.pointer (some (⟨b2, 0, none⟩)))
theorem D_shelf_made_api_Config (p0 : FV) (K : Value → PT) : denF Pr Dt Tryz.f24 A_shelf_made_api_Config [.v (.func p0.fn p0.fs p0.cs)] K = F_shelf_made_api_Config p0 K := by kernel_rfl
theorem C_shelf_made_api_Config (p0 : FV) {K : Value → PT} {w : World} (h : F_shelf_made_api_Config p0 K w) : Calls Pr n_shelf_made_api_Config [.func p0.fn p0.fs p0.cs].toArray w fun e w2 => ∃ v, e = .returned v ∧ K v w2 :=
  denF_ok Tok (f := 24) (fn := Tryz.f24) (an := A_shelf_made_api_Config) (args := [.v (.func p0.fn p0.fs p0.cs)]) (by kernel_rfl) (by kernel_rfl) ((congrFun (D_shelf_made_api_Config p0 K) w).mpr h)
theorem E_shelf_made_api_Config : Enters Pr n_shelf_made_api_Config := enters_of_B (by kernel_rfl)

def A_shelf_New_1 : Ann := .auto
/-- damper/shelf.New$1 -/
def F_shelf_New_1 (p0 : HT [.str, .int .i64, .int .i64, .int .i64, .int .i64, .int .i64]) (p1 : HT [.str, .int .i64, .int .i64, .int .i64, .int .i64, .int .i64]) (K : Value → PT) : PT :=
  L.new [.string p0.1, .int .i64 p0.2.1, .int .i64 p0.2.2.1, .int .i64 p0.2.2.2.1, .int .i64 p0.2.2.2.2.1, .int .i64 p0.2.2.2.2.2.1] T_api_Config fun b1 =>
  L.new [.string p1.1, .int .i64 p1.2.1, .int .i64 p1.2.2.1, .int .i64 p1.2.2.2.1, .int .i64 p1.2.2.2.2.1, .int .i64 p1.2.2.2.2.2.1] T_api_Config fun b2 =>
  L.load (.agg [.str, .int .i64, .int .i64, .int .i64, .int .i64, .int .i64]) (⟨b1, 0, none⟩) fun (x3 : ByteArray × Int × Int × Int × Int × Int × Unit) =>
  L.load (.agg [.str, .int .i64, .int .i64, .int .i64, .int .i64, .int .i64]) (⟨b2, 0, none⟩) fun (x4 : ByteArray × Int × Int × Int × Int × Int × Unit) =>
  L.chkSem Pr (do eqGuard .eql T_api_Config (.tmp 0) (.tmp 0) (.agg #[.string x3.1, .int .i64 x3.2.1, .int .i64 x3.2.2.1, .int .i64 x3.2.2.2.1, .int .i64 x3.2.2.2.2.1, .int .i64 x3.2.2.2.2.2.1]) (.agg #[.string x4.1, .int .i64 x4.2.1, .int .i64 x4.2.2.1, .int .i64 x4.2.2.2.1, .int .i64 x4.2.2.2.2.1, .int .i64 x4.2.2.2.2.2.1]); binOp .eql T_api_Config (.agg #[.string x3.1, .int .i64 x3.2.1, .int .i64 x3.2.2.1, .int .i64 x3.2.2.2.1, .int .i64 x3.2.2.2.2.1, .int .i64 x3.2.2.2.2.2.1]) (.agg #[.string x4.1, .int .i64 x4.2.1, .int .i64 x4.2.2.1, .int .i64 x4.2.2.2.1, .int .i64 x4.2.2.2.2.1, .int .i64 x4.2.2.2.2.2.1])) (.bool ((x3.1 == x4.1) && ((x3.2.1 == x4.2.1) && ((x3.2.2.1 == x4.2.2.1) && ((x3.2.2.2.1 == x4.2.2.2.1) && ((x3.2.2.2.2.1 == x4.2.2.2.2.1) && ((x3.2.2.2.2.2.1 == x4.2.2.2.2.2.1) && true))))))) <|
  K (.bool ((x3.1 == x4.1) && ((x3.2.1 == x4.2.1) && ((x3.2.2.1 == x4.2.2.1) && ((x3.2.2.2.1 == x4.2.2.2.1) && ((x3.2.2.2.2.1 == x4.2.2.2.2.1) && ((x3.2.2.2.2.2.1 == x4.2.2.2.2.2.1) && true)))))))
theorem D_shelf_New_1 (p0 : HT [.str, .int .i64, .int .i64, .int .i64, .int .i64, .int .i64]) (p1 : HT [.str, .int .i64, .int .i64, .int .i64, .int .i64, .int .i64]) (K : Value → PT) : denF Pr Dt Tryz.f25 A_shelf_New_1 [.ag [.string p0.1, .int .i64 p0.2.1, .int .i64 p0.2.2.1, .int .i64 p0.2.2.2.1, .int .i64 p0.2.2.2.2.1, .int .i64 p0.2.2.2.2.2.1], .ag [.string p1.1, .int .i64 p1.2.1, .int .i64 p1.2.2.1, .int .i64 p1.2.2.2.1, .int .i64 p1.2.2.2.2.1, .int .i64 p1.2.2.2.2.2.1]] K = F_shelf_New_1 p0 p1 K := by kernel_rfl
theorem C_shelf_New_1 (p0 : HT [.str, .int .i64, .int .i64, .int .i64, .int .i64, .int .i64]) (p1 : HT [.str, .int .i64, .int .i64, .int .i64, .int .i64, .int .i64]) {K : Value → PT} {w : World} (h : F_shelf_New_1 p0 p1 K w) : Calls Pr n_shelf_New_1 [(.ag [.string p0.1, .int .i64 p0.2.1, .int .i64 p0.2.2.1, .int .i64 p0.2.2.2.1, .int .i64 p0.2.2.2.2.1, .int .i64 p0.2.2.2.2.2.1] : SV).toV, (.ag [.string p1.1, .int .i64 p1.2.1, .int .i64 p1.2.2.1, .int .i64 p1.2.2.2.1, .int .i64 p1.2.2.2.2.1, .int .i64 p1.2.2.2.2.2.1] : SV).toV].toArray w fun e w2 => ∃ v, e = .returned v ∧ K v w2 :=
  denF_ok Tok (f := 25) (fn := Tryz.f25) (an := A_shelf_New_1) (args := [.ag [.string p0.1, .int .i64 p0.2.1, .int .i64 p0.2.2.1, .int .i64 p0.2.2.2.1, .int .i64 p0.2.2.2.2.1, .int .i64 p0.2.2.2.2.2.1], .ag [.string p1.1, .int .i64 p1.2.1, .int .i64 p1.2.2.1, .int .i64 p1.2.2.2.1, .int .i64 p1.2.2.2.2.1, .int .i64 p1.2.2.2.2.2.1]]) (by kernel_rfl) (by kernel_rfl) ((congrFun (D_shelf_New_1 p0 p1 K) w).mpr h)
theorem E_shelf_New_1 : Enters Pr n_shelf_New_1 := enters_of_B (by kernel_rfl)

def A_shelf_made_api_Route : Ann := .auto
/-- damper/shelf.made[damper/api.Route] -/
def F_shelf_made_api_Route (p0 : FV) (K : Value → PT) : PT :=
  L.sem Pr (.one (.one .map)) (Instr.makeMap T_map_string_shelf_thing_api_Route none) fun (m1 : Option Nat) =>
  L.new [.map m1, .func p0.fn p0.fs p0.cs] T_shelf_rack_api_Route fun b2 =>
  K (.pointer (some (⟨b2, 0, none⟩)))
theorem D_shelf_made_api_Route (p0 : FV) (K : Value → PT) : denF Pr Dt Tryz.f26 A_shelf_made_api_Route [.v (.func p0.fn p0.fs p0.cs)] K = F_shelf_made_api_Route p0 K := by kernel_rfl
theorem C_shelf_made_api_Route (p0 : FV) {K : Value → PT} {w : World} (h : F_shelf_made_api_Route p0 K w) : Calls Pr n_shelf_made_api_Route [.func p0.fn p0.fs p0.cs].toArray w fun e w2 => ∃ v, e = .returned v ∧ K v w2 :=
  denF_ok Tok (f := 26) (fn := Tryz.f26) (an := A_shelf_made_api_Route) (args := [.v (.func p0.fn p0.fs p0.cs)]) (by kernel_rfl) (by kernel_rfl) ((congrFun (D_shelf_made_api_Route p0 K) w).mpr h)
theorem E_shelf_made_api_Route : Enters Pr n_shelf_made_api_Route := enters_of_B (by kernel_rfl)

def A_spec_SameRoute : Ann := .auto
/-- damper/spec.SameRoute -/
def F_spec_SameRoute (p0 : HT [.str, .str, .slice, .int .i64]) (p1 : HT [.str, .str, .slice, .int .i64]) (K : Value → PT) : PT :=
  L.new [.string p0.1, .string p0.2.1, .slice p0.2.2.1.a p0.2.2.1.len p0.2.2.1.cap, .int .i64 p0.2.2.2.1] T_api_Route fun b1 =>
  L.new [.string p1.1, .string p1.2.1, .slice p1.2.2.1.a p1.2.2.1.len p1.2.2.1.cap, .int .i64 p1.2.2.2.1] T_api_Route fun b2 =>
  L.load (.one (.str)) ((⟨b1, 0, none⟩ : Addr).add 0) fun (x3 : ByteArray) =>
  L.load (.one (.str)) ((⟨b2, 0, none⟩ : Addr).add 0) fun (x4 : ByteArray) =>
  L.ite (x3.toList == x4.toList) (
    L.load (.one (.str)) ((⟨b1, 0, none⟩ : Addr).add 1) fun (x5 : ByteArray) =>
    L.load (.one (.str)) ((⟨b2, 0, none⟩ : Addr).add 1) fun (x6 : ByteArray) =>
    L.ite (x5.toList == x6.toList) (
      L.load (.one (.int .i64)) ((⟨b1, 0, none⟩ : Addr).add 3) fun (x7 : Int) =>
      L.load (.one (.int .i64)) ((⟨b2, 0, none⟩ : Addr).add 3) fun (x8 : Int) =>
      L.ite (x7 == x8) (
        L.load (.one (.slice)) ((⟨b1, 0, none⟩ : Addr).add 2) fun (x9 : Sl) =>
        L.load (.one (.slice)) ((⟨b2, 0, none⟩ : Addr).add 2) fun (x10 : Sl) =>
        L.call Pr n_slices_EqualFunc_api_Target_api_Target_api_Target_api_Target [.slice x9.a x9.len x9.cap, .slice x10.a x10.len x10.cap, .func (.func n_spec_same) #[] #[]] (.one (.one (.bool))) fun (x11 : Bool) =>
        K (.bool x11)) <|
      K (.bool false)) <|
    K (.bool false)) <|
  K (.bool false)
theorem D_spec_SameRoute (p0 : HT [.str, .str, .slice, .int .i64]) (p1 : HT [.str, .str, .slice, .int .i64]) (K : Value → PT) : denF Pr Dt Tryz.f27 A_spec_SameRoute [.ag [.string p0.1, .string p0.2.1, .slice p0.2.2.1.a p0.2.2.1.len p0.2.2.1.cap, .int .i64 p0.2.2.2.1], .ag [.string p1.1, .string p1.2.1, .slice p1.2.2.1.a p1.2.2.1.len p1.2.2.1.cap, .int .i64 p1.2.2.2.1]] K = F_spec_SameRoute p0 p1 K := by kernel_rfl
theorem C_spec_SameRoute (p0 : HT [.str, .str, .slice, .int .i64]) (p1 : HT [.str, .str, .slice, .int .i64]) {K : Value → PT} {w : World} (h : F_spec_SameRoute p0 p1 K w) : Calls Pr n_spec_SameRoute [(.ag [.string p0.1, .string p0.2.1, .slice p0.2.2.1.a p0.2.2.1.len p0.2.2.1.cap, .int .i64 p0.2.2.2.1] : SV).toV, (.ag [.string p1.1, .string p1.2.1, .slice p1.2.2.1.a p1.2.2.1.len p1.2.2.1.cap, .int .i64 p1.2.2.2.1] : SV).toV].toArray w fun e w2 => ∃ v, e = .returned v ∧ K v w2 :=
  denF_ok Tok (f := 27) (fn := Tryz.f27) (an := A_spec_SameRoute) (args := [.ag [.string p0.1, .string p0.2.1, .slice p0.2.2.1.a p0.2.2.1.len p0.2.2.1.cap, .int .i64 p0.2.2.2.1], .ag [.string p1.1, .string p1.2.1, .slice p1.2.2.1.a p1.2.2.1.len p1.2.2.1.cap, .int .i64 p1.2.2.2.1]]) (by kernel_rfl) (by kernel_rfl) ((congrFun (D_spec_SameRoute p0 p1 K) w).mpr h)
theorem E_spec_SameRoute : Enters Pr n_spec_SameRoute := enters_of_B (by kernel_rfl)

def A_damperlaw2_within : Ann := (.seq .auto (.seq .auto (.seq .auto .auto (some [(5, (.one (.int .i64)))])) none) none)
/-- damper/damperlaw2.within -/
def F_damperlaw2_within (p0 : Int) (p1 : Int) (K : Value → PT) : PT :=
  L.guard (p1 ≠ (0 : Int)) <|
  L.join (Y := Int × Unit) (fun k1 =>
    L.ite (decide ((Int.tmod p0 p1) < 0)) (
      k1 (IntKind.wrap .i64 ((Int.tmod p0 p1) + p1), ())) <|
    k1 (Int.tmod p0 p1, ())) fun z2 =>
  K (.int .i64 z2.1)
theorem D_damperlaw2_within (p0 : Int) (p1 : Int) (K : Value → PT) : denF Pr Dt Tryz.f28 A_damperlaw2_within [.v (.int .i64 p0), .v (.int .i64 p1)] K = F_damperlaw2_within p0 p1 K := by kernel_rfl
theorem C_damperlaw2_within (p0 : Int) (p1 : Int) {K : Value → PT} {w : World} (h : F_damperlaw2_within p0 p1 K w) : Calls Pr n_damperlaw2_within [.int .i64 p0, .int .i64 p1].toArray w fun e w2 => ∃ v, e = .returned v ∧ K v w2 :=
  denF_ok Tok (f := 28) (fn := Tryz.f28) (an := A_damperlaw2_within) (args := [.v (.int .i64 p0), .v (.int .i64 p1)]) (by kernel_rfl) (by kernel_rfl) ((congrFun (D_damperlaw2_within p0 p1 K) w).mpr h)
theorem E_damperlaw2_within : Enters Pr n_damperlaw2_within := enters_of_B (by kernel_rfl)

def A_spec_Route : Ann := (.seq .auto (.seq (.seq .auto .auto (some [(6, (.one (.bool)))])) (.seq (.seq .auto (.one [(31, (.one (.int .i64)))] .auto) none) .auto none) none) none)
/-- damper/spec.Route -/
def F_spec_Route (p0 : HT [.str, .str, .slice, .int .i64]) (K : Value → PT) : PT :=
  L.new [.string p0.1, .string p0.2.1, .slice p0.2.2.1.a p0.2.2.1.len p0.2.2.1.cap, .int .i64 p0.2.2.2.1] T_api_Route fun b1 =>
  L.join (Y := Bool × Unit) (fun k2 =>
    L.load (.one (.str)) ((⟨b1, 0, none⟩ : Addr).add 0) fun (x4 : ByteArray) =>
    L.call Pr n_label_Name [.string x4] (.one (.one (.bool))) fun (x5 : Bool) =>
    L.ite (!x5) (
      k2 (!x5, ())) <|
    L.load (.one (.str)) ((⟨b1, 0, none⟩ : Addr).add 1) fun (x6 : ByteArray) =>
    L.call Pr n_label_Name [.string x6] (.one (.one (.bool))) fun (x7 : Bool) =>
    k2 (!x7, ())) fun z3 =>
  L.ite z3.1 (
    K (.int .i64 1)) <|
  L.load (.one (.int .i64)) ((⟨b1, 0, none⟩ : Addr).add 3) fun (x8 : Int) =>
  L.call Pr n_spec_span_has [.agg #[.int .i64 0, .int .i64 60], .int .i64 x8] (.one (.one (.bool))) fun (x9 : Bool) =>
  L.ite (!x9) (
    K (.int .i64 2)) <|
  L.load (.one (.slice)) ((⟨b1, 0, none⟩ : Addr).add 2) fun (x10 : Sl) =>
  L.call Pr n_spec_span_has [.agg #[.int .i64 1, .int .i64 6], .int .i64 ((x10.len : Nat) : Int)] (.one (.one (.bool))) fun (x11 : Bool) =>
  L.ite (!x11) (
    K (.int .i64 3)) <|
  L.load (.one (.slice)) ((⟨b1, 0, none⟩ : Addr).add 2) fun (x12 : Sl) =>
  L.loop (Y := Int × Unit) (0, ()) fun y13 again14 =>
  L.ite (decide (y13.1 < ((x12.len : Nat) : Int))) (
    L.idx x12.a y13.1 x12.len 3 fun a15 =>
    L.load (.agg [.str, .str, .int .i64]) a15 fun (x16 : ByteArray × ByteArray × Int × Unit) =>
    L.new [.string s_, .string s_, .int .i64 0] T_api_Target fun b17 =>
    L.store (⟨b17, 0, none⟩) [.string x16.1, .string x16.2.1, .int .i64 x16.2.2.1] <|
    L.load (.agg [.str, .str, .int .i64]) (⟨b17, 0, none⟩) fun (x18 : ByteArray × ByteArray × Int × Unit) =>
    L.call Pr n_spec_target [.agg #[.string x18.1, .string x18.2.1, .int .i64 x18.2.2.1]] (.one (.one (.int .i64))) fun (x19 : Int) =>
    L.ite (x19 != 0) (
      K (.int .i64 x19)) <|
    again14 (IntKind.wrap .i64 (y13.1 + 1), ())) <|
  L.load (.one (.slice)) ((⟨b1, 0, none⟩ : Addr).add 2) fun (x20 : Sl) =>
  L.call Pr n_spec_all [.slice x20.a x20.len x20.cap] (.one (.one (.int .i64))) fun (x21 : Int) =>
  K (.int .i64 x21)
theorem D_spec_Route (p0 : HT [.str, .str, .slice, .int .i64]) (K : Value → PT) : denF Pr Dt Tryz.f29 A_spec_Route [.ag [.string p0.1, .string p0.2.1, .slice p0.2.2.1.a p0.2.2.1.len p0.2.2.1.cap, .int .i64 p0.2.2.2.1]] K = F_spec_Route p0 K := by kernel_rfl
theorem C_spec_Route (p0 : HT [.str, .str, .slice, .int .i64]) {K : Value → PT} {w : World} (h : F_spec_Route p0 K w) : Calls Pr n_spec_Route [(.ag [.string p0.1, .string p0.2.1, .slice p0.2.2.1.a p0.2.2.1.len p0.2.2.1.cap, .int .i64 p0.2.2.2.1] : SV).toV].toArray w fun e w2 => ∃ v, e = .returned v ∧ K v w2 :=
  denF_ok Tok (f := 29) (fn := Tryz.f29) (an := A_spec_Route) (args := [.ag [.string p0.1, .string p0.2.1, .slice p0.2.2.1.a p0.2.2.1.len p0.2.2.1.cap, .int .i64 p0.2.2.2.1]]) (by kernel_rfl) (by kernel_rfl) ((congrFun (D_spec_Route p0 K) w).mpr h)
theorem E_spec_Route : Enters Pr n_spec_Route := enters_of_B (by kernel_rfl)
end Go.Proofs.YtpnbgpolbjbhpaaGreatDoor
