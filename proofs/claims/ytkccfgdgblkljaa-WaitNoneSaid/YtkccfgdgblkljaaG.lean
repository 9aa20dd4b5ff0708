/- The functions of the program, read as predicates on the world, each with its contract (text G). No conditions beyond those its theorems state. -/
import Derived.Test.YtkccfgdgblkljaaDen18
import Derived.Test.YtkccfgdgblkljaaProg
set_option linter.all false
set_option maxRecDepth 100000
namespace Go.Proofs.Ytkccfgdgblkljaa
open Go.Dm
noncomputable abbrev Pr : Program := Try.prog
abbrev n_main_main : Nat := 0
abbrev n_gosem_cut : Nat := 1
abbrev n_gosem_cut_init : Nat := 2
abbrev n_damperlaw8_WaitMix : Nat := 3
abbrev n_damperlaw8_WaitRoom : Nat := 4
abbrev n_damperlaw8_WaitOrder : Nat := 5
abbrev n_damperlaw8_WaitPlays : Nat := 6
abbrev n_damperlaw8_WaitLate : Nat := 7
abbrev n_damperlaw8_WaitNone : Nat := 8
abbrev n_damperlaw8_known : Nat := 9
abbrev n_wait_New : Nat := 10
abbrev n_damperlaw8_within : Nat := 11
abbrev n_wait_Line_Push : Nat := 12
abbrev n_wait_Line_Pop : Nat := 13
abbrev n_wait_Line_Len : Nat := 14
abbrev n_damperlaw8_Ints : Nat := 15
abbrev n_wait_Line_All : Nat := 16
abbrev n_wait_Line_Late : Nat := 17
abbrev n_damperref8_New : Nat := 18
abbrev n_damperref8_Line_Pop : Nat := 19
abbrev n_damperref8_Line_Late : Nat := 20
abbrev n_damperref8_Line_Push : Nat := 21
abbrev n_damperref8_Line_Len : Nat := 22
abbrev n_damperref8_Line_All : Nat := 23
abbrev n_wait_row_int_has : Nat := 24
abbrev n_wait_row_int_each : Nat := 25
abbrev n_wait_row_int_part : Nat := 26
abbrev n_wait_row_int_each_1 : Nat := 27
abbrev n_slices_Clone_int_int : Nat := 28
abbrev n_runtime_boundsError_Error : Nat := 29
abbrev n_runtime_boundsError_RuntimeError : Nat := 30
abbrev n_runtime_errorString_Error : Nat := 31
abbrev n_runtime_errorString_RuntimeError : Nat := 32
abbrev n_runtime_plainError_Error : Nat := 33
abbrev n_runtime_plainError_RuntimeError : Nat := 34
abbrev n_runtime_errorAddressString_Error : Nat := 35
abbrev n_runtime_errorAddressString_RuntimeError : Nat := 36
abbrev n_runtime_TypeAssertionError_Error : Nat := 37
abbrev n_runtime_TypeAssertionError_RuntimeError : Nat := 38
abbrev n_runtime_PanicNilError_Error : Nat := 39
abbrev n_runtime_PanicNilError_RuntimeError : Nat := 40
abbrev n_internal_abi_Type_Align : Nat := 41
abbrev n_internal_runtime_maps_unhashableTypeError_Error : Nat := 42
abbrev n_internal_runtime_maps_unhashableTypeError_RuntimeError : Nat := 43
abbrev n_api_Errno_Error : Nat := 44
abbrev n_internal_abi_Kind_String : Nat := 45
abbrev T_ : Nat := 0
abbrev T_func : Nat := 1
abbrev T_int64 : Nat := 2
abbrev T_int : Nat := 3
abbrev T_bool : Nat := 4
abbrev T_uint8 : Nat := 5
abbrev T_abi_BoundsErrorCode : Nat := 6
abbrev T_struct_x_int64_y_int_signed_bo_10ef : Nat := 7
abbrev T_runtime_boundsError : Nat := 8
abbrev T_string : Nat := 9
abbrev T_runtime_errorString : Nat := 10
abbrev T_runtime_plainError : Nat := 11
abbrev T_uintptr : Nat := 12
abbrev T_struct_msg_string_addr_uintptr : Nat := 13
abbrev T_runtime_errorAddressString : Nat := 14
abbrev T_p_runtime_TypeAssertionError : Nat := 15
abbrev T_p_runtime_PanicNilError : Nat := 16
abbrev T_p_abi_Type : Nat := 17
abbrev T_struct_typ_p_abi_Type : Nat := 18
abbrev T_maps_unhashableTypeError : Nat := 19
abbrev T_interface : Nat := 20
abbrev T_int32 : Nat := 21
abbrev T_s_int : Nat := 22
abbrev T_func_bool : Nat := 23
abbrev T_p_wait_Line : Nat := 24
abbrev T_func_int_p_wait_Line : Nat := 25
abbrev T_func_int_int_int : Nat := 26
abbrev T_api_Errno : Nat := 27
abbrev T_func_int_int_api_Errno : Nat := 28
abbrev T_int_bool : Nat := 29
abbrev T_func_int_bool : Nat := 30
abbrev T_func_int : Nat := 31
abbrev T_func_s_int_bool : Nat := 32
abbrev T_func_s_int_s_int_bool : Nat := 33
abbrev T_func_s_int : Nat := 34
abbrev T_func_int_s_int_bool : Nat := 35
abbrev T_func_int_s_int : Nat := 36
abbrev T_func_s_int_int_bool : Nat := 37
abbrev T_p_damperref8_Line : Nat := 38
abbrev T_func_int_p_damperref8_Line : Nat := 39
abbrev T_s_wait_held_int : Nat := 40
abbrev T_struct_l_s_wait_held_int : Nat := 41
abbrev T_wait_row_int : Nat := 42
abbrev T_struct_row_wait_row_int_room_int : Nat := 43
abbrev T_wait_Line : Nat := 44
abbrev T_func_int_bool_1 : Nat := 45
abbrev T_struct_what_int_until_int : Nat := 46
abbrev T_wait_held_int : Nat := 47
abbrev T_func_func_int_int_bool : Nat := 48
abbrev T_iter_Seq2_int_int : Nat := 49
abbrev T_func_iter_Seq2_int_int : Nat := 50
abbrev T_s_damperref8_one : Nat := 51
abbrev T_struct_Room_int_L_s_damperref8_one : Nat := 52
abbrev T_damperref8_Line : Nat := 53
abbrev T_struct_Id_int_Until_int : Nat := 54
abbrev T_damperref8_one : Nat := 55
abbrev T_p_wait_row_int : Nat := 56
abbrev T_func_int_int_bool : Nat := 57
abbrev T_func_s_int_s_int : Nat := 58
abbrev T_func_string : Nat := 59
abbrev T_struct__interface_p_abi_Type_c_b8d5 : Nat := 60
abbrev T_runtime_TypeAssertionError : Nat := 61
abbrev T_0_p_runtime_PanicNilError : Nat := 62
abbrev T_struct___0_p_runtime_PanicNilError : Nat := 63
abbrev T_runtime_PanicNilError : Nat := 64
abbrev T_uint32 : Nat := 65
abbrev T_abi_TFlag : Nat := 66
abbrev T_abi_Kind : Nat := 67
abbrev T_func_unsafe_Pointer_unsafe_Pointer_bool : Nat := 68
abbrev T_p_uint8 : Nat := 69
abbrev T_abi_NameOff : Nat := 70
abbrev T_abi_TypeOff : Nat := 71
abbrev T_struct_Size__uintptr_PtrBytes__b10b : Nat := 72
abbrev T_abi_Type : Nat := 73
abbrev T_unsafe_Pointer : Nat := 74
def s_ : ByteArray := ⟨#[]⟩
def ti_0 : TI := ⟨.tuple [], 1, none, none⟩
def ti_1 : TI := ⟨.func, 1, some (.one (.func)), some [.nilFunc]⟩
def ti_2 : TI := ⟨.int .i64, 1, some (.one (.int .i64)), some [.int .i64 0]⟩
def ti_3 : TI := ⟨.int .i64, 1, some (.one (.int .i64)), some [.int .i64 0]⟩
def ti_4 : TI := ⟨.bool, 1, some (.one (.bool)), some [.bool false]⟩
def ti_5 : TI := ⟨.int .u8, 1, some (.one (.int .u8)), some [.int .u8 0]⟩
def ti_6 : TI := ⟨.int .u8, 1, some (.one (.int .u8)), some [.int .u8 0]⟩
def ti_7 : TI := ⟨.struct [(2, 0), (3, 1), (4, 2), (6, 3)], 4, some (.agg [.int .i64, .int .i64, .bool, .int .u8]), some [.int .i64 0, .int .i64 0, .bool false, .int .u8 0]⟩
def ti_8 : TI := ⟨.struct [(2, 0), (3, 1), (4, 2), (6, 3)], 4, some (.agg [.int .i64, .int .i64, .bool, .int .u8]), some [.int .i64 0, .int .i64 0, .bool false, .int .u8 0]⟩
def ti_9 : TI := ⟨.str, 1, some (.one (.str)), some [.string s_]⟩
def ti_10 : TI := ⟨.str, 1, some (.one (.str)), some [.string s_]⟩
def ti_11 : TI := ⟨.str, 1, some (.one (.str)), some [.string s_]⟩
def ti_12 : TI := ⟨.int .u64, 1, some (.one (.int .u64)), some [.int .u64 0]⟩
def ti_13 : TI := ⟨.struct [(9, 0), (12, 1)], 2, some (.agg [.str, .int .u64]), some [.string s_, .int .u64 0]⟩
def ti_14 : TI := ⟨.struct [(9, 0), (12, 1)], 2, some (.agg [.str, .int .u64]), some [.string s_, .int .u64 0]⟩
def ti_15 : TI := ⟨.ptr, 1, some (.one (.ptr)), some [.pointer none]⟩
def ti_16 : TI := ⟨.ptr, 1, some (.one (.ptr)), some [.pointer none]⟩
def ti_17 : TI := ⟨.ptr, 1, some (.one (.ptr)), some [.pointer none]⟩
def ti_18 : TI := ⟨.struct [(17, 0)], 1, some (.agg [.ptr]), some [.pointer none]⟩
def ti_19 : TI := ⟨.struct [(17, 0)], 1, some (.agg [.ptr]), some [.pointer none]⟩
def ti_20 : TI := ⟨.iface, 1, some (.one (.iface)), some [.nilIface]⟩
def ti_21 : TI := ⟨.int .i32, 1, some (.one (.int .i32)), some [.int .i32 0]⟩
def ti_22 : TI := ⟨.slice 3, 1, some (.one (.slice)), some [.slice none 0 0]⟩
def ti_23 : TI := ⟨.func, 1, some (.one (.func)), some [.nilFunc]⟩
def ti_24 : TI := ⟨.ptr, 1, some (.one (.ptr)), some [.pointer none]⟩
def ti_25 : TI := ⟨.func, 1, some (.one (.func)), some [.nilFunc]⟩
def ti_26 : TI := ⟨.func, 1, some (.one (.func)), some [.nilFunc]⟩
def ti_27 : TI := ⟨.int .i64, 1, some (.one (.int .i64)), some [.int .i64 0]⟩
def ti_28 : TI := ⟨.func, 1, some (.one (.func)), some [.nilFunc]⟩
def ti_29 : TI := ⟨.tuple [3, 4], 1, none, none⟩
def ti_30 : TI := ⟨.func, 1, some (.one (.func)), some [.nilFunc]⟩
def ti_31 : TI := ⟨.func, 1, some (.one (.func)), some [.nilFunc]⟩
def ti_32 : TI := ⟨.func, 1, some (.one (.func)), some [.nilFunc]⟩
def ti_33 : TI := ⟨.func, 1, some (.one (.func)), some [.nilFunc]⟩
def ti_34 : TI := ⟨.func, 1, some (.one (.func)), some [.nilFunc]⟩
def ti_35 : TI := ⟨.func, 1, some (.one (.func)), some [.nilFunc]⟩
def ti_36 : TI := ⟨.func, 1, some (.one (.func)), some [.nilFunc]⟩
def ti_37 : TI := ⟨.func, 1, some (.one (.func)), some [.nilFunc]⟩
def ti_38 : TI := ⟨.ptr, 1, some (.one (.ptr)), some [.pointer none]⟩
def ti_39 : TI := ⟨.func, 1, some (.one (.func)), some [.nilFunc]⟩
def ti_40 : TI := ⟨.slice 47, 1, some (.one (.slice)), some [.slice none 0 0]⟩
def ti_41 : TI := ⟨.struct [(40, 0)], 1, some (.agg [.slice]), some [.slice none 0 0]⟩
def ti_42 : TI := ⟨.struct [(40, 0)], 1, some (.agg [.slice]), some [.slice none 0 0]⟩
def ti_43 : TI := ⟨.struct [(42, 0), (3, 1)], 2, some (.agg [.slice, .int .i64]), some [.slice none 0 0, .int .i64 0]⟩
def ti_44 : TI := ⟨.struct [(42, 0), (3, 1)], 2, some (.agg [.slice, .int .i64]), some [.slice none 0 0, .int .i64 0]⟩
def ti_45 : TI := ⟨.func, 1, some (.one (.func)), some [.nilFunc]⟩
def ti_46 : TI := ⟨.struct [(3, 0), (3, 1)], 2, some (.agg [.int .i64, .int .i64]), some [.int .i64 0, .int .i64 0]⟩
def ti_47 : TI := ⟨.struct [(3, 0), (3, 1)], 2, some (.agg [.int .i64, .int .i64]), some [.int .i64 0, .int .i64 0]⟩
def ti_48 : TI := ⟨.func, 1, some (.one (.func)), some [.nilFunc]⟩
def ti_49 : TI := ⟨.func, 1, some (.one (.func)), some [.nilFunc]⟩
def ti_50 : TI := ⟨.func, 1, some (.one (.func)), some [.nilFunc]⟩
def ti_51 : TI := ⟨.slice 55, 1, some (.one (.slice)), some [.slice none 0 0]⟩
def ti_52 : TI := ⟨.struct [(3, 0), (51, 1)], 2, some (.agg [.int .i64, .slice]), some [.int .i64 0, .slice none 0 0]⟩
def ti_53 : TI := ⟨.struct [(3, 0), (51, 1)], 2, some (.agg [.int .i64, .slice]), some [.int .i64 0, .slice none 0 0]⟩
def ti_54 : TI := ⟨.struct [(3, 0), (3, 1)], 2, some (.agg [.int .i64, .int .i64]), some [.int .i64 0, .int .i64 0]⟩
def ti_55 : TI := ⟨.struct [(3, 0), (3, 1)], 2, some (.agg [.int .i64, .int .i64]), some [.int .i64 0, .int .i64 0]⟩
def ti_56 : TI := ⟨.ptr, 1, some (.one (.ptr)), some [.pointer none]⟩
def ti_57 : TI := ⟨.func, 1, some (.one (.func)), some [.nilFunc]⟩
def ti_58 : TI := ⟨.func, 1, some (.one (.func)), some [.nilFunc]⟩
def ti_59 : TI := ⟨.func, 1, some (.one (.func)), some [.nilFunc]⟩
def ti_60 : TI := ⟨.struct [(17, 0), (17, 1), (17, 2), (9, 3)], 4, some (.agg [.ptr, .ptr, .ptr, .str]), some [.pointer none, .pointer none, .pointer none, .string s_]⟩
def ti_61 : TI := ⟨.struct [(17, 0), (17, 1), (17, 2), (9, 3)], 4, some (.agg [.ptr, .ptr, .ptr, .str]), some [.pointer none, .pointer none, .pointer none, .string s_]⟩
def ti_62 : TI := ⟨.arr 0 16, 0, some (.agg []), some []⟩
def ti_63 : TI := ⟨.struct [(62, 0)], 0, some (.agg []), some []⟩
def ti_64 : TI := ⟨.struct [(62, 0)], 0, some (.agg []), some []⟩
def ti_65 : TI := ⟨.int .u32, 1, some (.one (.int .u32)), some [.int .u32 0]⟩
def ti_66 : TI := ⟨.int .u8, 1, some (.one (.int .u8)), some [.int .u8 0]⟩
def ti_67 : TI := ⟨.int .u8, 1, some (.one (.int .u8)), some [.int .u8 0]⟩
def ti_68 : TI := ⟨.func, 1, some (.one (.func)), some [.nilFunc]⟩
def ti_69 : TI := ⟨.ptr, 1, some (.one (.ptr)), some [.pointer none]⟩
def ti_70 : TI := ⟨.int .i32, 1, some (.one (.int .i32)), some [.int .i32 0]⟩
def ti_71 : TI := ⟨.int .i32, 1, some (.one (.int .i32)), some [.int .i32 0]⟩
def ti_72 : TI := ⟨.struct [(12, 0), (12, 1), (65, 2), (66, 3), (5, 4), (5, 5), (67, 6), (68, 7), (69, 8), (70, 9), (71, 10)], 11, some (.agg [.int .u64, .int .u64, .int .u32, .int .u8, .int .u8, .int .u8, .int .u8, .func, .ptr, .int .i32, .int .i32]), some [.int .u64 0, .int .u64 0, .int .u32 0, .int .u8 0, .int .u8 0, .int .u8 0, .int .u8 0, .nilFunc, .pointer none, .int .i32 0, .int .i32 0]⟩
def ti_73 : TI := ⟨.struct [(12, 0), (12, 1), (65, 2), (66, 3), (5, 4), (5, 5), (67, 6), (68, 7), (69, 8), (70, 9), (71, 10)], 11, some (.agg [.int .u64, .int .u64, .int .u32, .int .u8, .int .u8, .int .u8, .int .u8, .func, .ptr, .int .i32, .int .i32]), some [.int .u64 0, .int .u64 0, .int .u32 0, .int .u8 0, .int .u8 0, .int .u8 0, .int .u8 0, .nilFunc, .pointer none, .int .i32 0, .int .i32 0]⟩
def ti_74 : TI := ⟨.other, 1, none, none⟩
def fi_0 : Option RT := none
def fi_1 : Option RT := none
def fi_2 : Option RT := some (.tup [])
def fi_3 : Option RT := some (.one (.one (.bool)))
def fi_4 : Option RT := some (.one (.one (.bool)))
def fi_5 : Option RT := some (.one (.one (.bool)))
def fi_6 : Option RT := some (.one (.one (.bool)))
def fi_7 : Option RT := some (.one (.one (.bool)))
def fi_8 : Option RT := some (.one (.one (.bool)))
def fi_9 : Option RT := some (.one (.one (.bool)))
def fi_10 : Option RT := some (.one (.one (.ptr)))
def fi_11 : Option RT := some (.one (.one (.int .i64)))
def fi_12 : Option RT := some (.one (.one (.int .i64)))
def fi_13 : Option RT := some (.tup [(.one (.int .i64)), (.one (.bool))])
def fi_14 : Option RT := some (.one (.one (.int .i64)))
def fi_15 : Option RT := some (.one (.one (.bool)))
def fi_16 : Option RT := some (.one (.one (.slice)))
def fi_17 : Option RT := some (.one (.one (.slice)))
def fi_18 : Option RT := some (.one (.one (.ptr)))
def fi_19 : Option RT := some (.tup [(.one (.int .i64)), (.one (.bool))])
def fi_20 : Option RT := some (.one (.one (.slice)))
def fi_21 : Option RT := some (.one (.one (.int .i64)))
def fi_22 : Option RT := some (.one (.one (.int .i64)))
def fi_23 : Option RT := some (.one (.one (.slice)))
def fi_24 : Option RT := some (.one (.one (.bool)))
def fi_25 : Option RT := some (.one (.one (.func)))
def fi_26 : Option RT := some (.one (.one (.slice)))
def fi_27 : Option RT := some (.tup [])
def fi_28 : Option RT := some (.one (.one (.slice)))
def fi_29 : Option RT := none
def fi_30 : Option RT := none
def fi_31 : Option RT := none
def fi_32 : Option RT := none
def fi_33 : Option RT := none
def fi_34 : Option RT := none
def fi_35 : Option RT := none
def fi_36 : Option RT := none
def fi_37 : Option RT := none
def fi_38 : Option RT := none
def fi_39 : Option RT := none
def fi_40 : Option RT := none
def fi_41 : Option RT := none
def fi_42 : Option RT := none
def fi_43 : Option RT := none
def fi_44 : Option RT := none
def fi_45 : Option RT := none
def Dt : Tb := ⟨75, 46, (.node ti_0 (.node ti_1 (.node ti_3 (.node ti_7 (.node ti_15 (.node ti_31 (.node ti_63 .nil .nil) .nil) (.node ti_47 .nil .nil)) (.node ti_23 (.node ti_39 (.node ti_71 .nil .nil) .nil) (.node ti_55 .nil .nil))) (.node ti_11 (.node ti_19 (.node ti_35 (.node ti_67 .nil .nil) .nil) (.node ti_51 .nil .nil)) (.node ti_27 (.node ti_43 .nil .nil) (.node ti_59 .nil .nil)))) (.node ti_5 (.node ti_9 (.node ti_17 (.node ti_33 (.node ti_65 .nil .nil) .nil) (.node ti_49 .nil .nil)) (.node ti_25 (.node ti_41 (.node ti_73 .nil .nil) .nil) (.node ti_57 .nil .nil))) (.node ti_13 (.node ti_21 (.node ti_37 (.node ti_69 .nil .nil) .nil) (.node ti_53 .nil .nil)) (.node ti_29 (.node ti_45 .nil .nil) (.node ti_61 .nil .nil))))) (.node ti_2 (.node ti_4 (.node ti_8 (.node ti_16 (.node ti_32 (.node ti_64 .nil .nil) .nil) (.node ti_48 .nil .nil)) (.node ti_24 (.node ti_40 (.node ti_72 .nil .nil) .nil) (.node ti_56 .nil .nil))) (.node ti_12 (.node ti_20 (.node ti_36 (.node ti_68 .nil .nil) .nil) (.node ti_52 .nil .nil)) (.node ti_28 (.node ti_44 .nil .nil) (.node ti_60 .nil .nil)))) (.node ti_6 (.node ti_10 (.node ti_18 (.node ti_34 (.node ti_66 .nil .nil) .nil) (.node ti_50 .nil .nil)) (.node ti_26 (.node ti_42 (.node ti_74 .nil .nil) .nil) (.node ti_58 .nil .nil))) (.node ti_14 (.node ti_22 (.node ti_38 (.node ti_70 .nil .nil) .nil) (.node ti_54 .nil .nil)) (.node ti_30 (.node ti_46 .nil .nil) (.node ti_62 .nil .nil)))))), (.node fi_0 (.node fi_1 (.node fi_3 (.node fi_7 (.node fi_15 (.node fi_31 .nil .nil) .nil) (.node fi_23 (.node fi_39 .nil .nil) .nil)) (.node fi_11 (.node fi_19 (.node fi_35 .nil .nil) .nil) (.node fi_27 (.node fi_43 .nil .nil) .nil))) (.node fi_5 (.node fi_9 (.node fi_17 (.node fi_33 .nil .nil) .nil) (.node fi_25 (.node fi_41 .nil .nil) .nil)) (.node fi_13 (.node fi_21 (.node fi_37 .nil .nil) .nil) (.node fi_29 (.node fi_45 .nil .nil) .nil)))) (.node fi_2 (.node fi_4 (.node fi_8 (.node fi_16 (.node fi_32 .nil .nil) .nil) (.node fi_24 (.node fi_40 .nil .nil) .nil)) (.node fi_12 (.node fi_20 (.node fi_36 .nil .nil) .nil) (.node fi_28 (.node fi_44 .nil .nil) .nil))) (.node fi_6 (.node fi_10 (.node fi_18 (.node fi_34 .nil .nil) .nil) (.node fi_26 (.node fi_42 .nil .nil) .nil)) (.node fi_14 (.node fi_22 (.node fi_38 .nil .nil) .nil) (.node fi_30 .nil .nil)))))⟩
theorem Tok : TbOk Pr Dt := tbOk_of (by kernel_rfl) (by kernel_rfl) (by kernel_rfl)

def A_damperlaw8_WaitMix : Ann := (.seq .auto (.seq .auto (.seq .auto (.seq .auto (.seq .auto (.seq (.seq .auto (.one [(4, (.one (.int .i64))), (5, (.one (.int .i64))), (6, (.one (.int .i64)))] (.seq (.seq .auto (.cond .auto .auto) none) (.seq (.seq .auto (.seq .auto (.seq (.seq .auto (.cond .auto .auto) none) .auto (some [])) none) none) .auto (some [(4, (.one (.int .i64))), (5, (.one (.int .i64)))])) none)) none) .auto (some [(4, (.one (.int .i64))), (5, (.one (.int .i64)))])) none) none) none) none) none)
/-- damper/damperlaw8.WaitMix -/
def F_damperlaw8_WaitMix (p0 : Sl) (K : Value → PT) : PT :=
  L.call Pr n_damperlaw8_known [] (.one (.one (.bool))) fun (x1 : Bool) =>
  L.ite (!x1) (
    K (.bool false)) <|
  L.call Pr n_wait_New [.int .i64 8] (.one (.one (.ptr))) fun (x2 : Option Addr) =>
  L.ite ((x2).isNone) (
    K (.bool false)) <|
  L.join (Y := Int × Int × Unit) (fun k3 =>
    L.loop (Y := Int × Int × Int × Unit) (1, 1, 0, ()) fun y5 again6 =>
    L.ite (decide (y5.2.2.1 < ((p0.len : Nat) : Int))) (
      L.ite (decide (y5.2.2.1 < 80)) (
        L.join (Y := Int × Int × Unit) (fun k7 =>
          L.idx p0.a y5.2.2.1 p0.len 1 fun a9 =>
          L.load (.one (.int .i64)) a9 fun (x10 : Int) =>
          L.call Pr n_damperlaw8_within [.int .i64 x10, .int .i64 2] (.one (.one (.int .i64))) fun (x11 : Int) =>
          L.ite (x11 == 0) (
            L.call Pr n_wait_Line_Push [.pointer x2, .int .i64 y5.1, .int .i64 9] (.one (.one (.int .i64))) fun (x12 : Int) =>
            L.ite (!((x12 == 8) == (decide ((IntKind.wrap .i64 (y5.1 - y5.2.1)) ≥ 8)))) (
              K (.bool false)) <|
            L.ite (!(decide ((IntKind.wrap .i64 (y5.1 - y5.2.1)) ≥ 8))) (
              k7 (IntKind.wrap .i64 (y5.1 + 1), y5.2.1, ())) <|
            k7 (y5.1, y5.2.1, ())) <|
          L.call Pr n_wait_Line_Pop [.pointer x2] (.tup [(.one (.int .i64)), (.one (.bool))]) fun (x13 : Int × Bool × Unit) =>
          L.join (Y := Unit) (fun k14 =>
            L.ite (!(x13.2.1 == (decide (y5.2.1 < y5.1)))) (
              K (.bool false)) <|
            L.ite x13.2.1 (
              L.ite (x13.1 != y5.2.1) (
                K (.bool false)) <|
              k14 (())) <|
            k14 (())) fun z15 =>
          L.ite x13.2.1 (
            k7 (y5.1, IntKind.wrap .i64 (y5.2.1 + 1), ())) <|
          k7 (y5.1, y5.2.1, ())) fun z8 =>
        again6 (z8.1, z8.2.1, IntKind.wrap .i64 (y5.2.2.1 + 1), ())) <|
      k3 (y5.1, y5.2.1, ())) <|
    k3 (y5.1, y5.2.1, ())) fun z4 =>
  L.call Pr n_wait_Line_Len [.pointer x2] (.one (.one (.int .i64))) fun (x16 : Int) =>
  K (.bool (x16 == (IntKind.wrap .i64 (z4.1 - z4.2.1))))
theorem D_damperlaw8_WaitMix (p0 : Sl) (K : Value → PT) : denF Pr Dt Try.f3 A_damperlaw8_WaitMix [.v (.slice p0.a p0.len p0.cap)] K = F_damperlaw8_WaitMix p0 K := by kernel_rfl
theorem C_damperlaw8_WaitMix (p0 : Sl) {K : Value → PT} {w : World} (h : F_damperlaw8_WaitMix p0 K w) : Calls Pr n_damperlaw8_WaitMix [.slice p0.a p0.len p0.cap].toArray w fun e w2 => ∃ v, e = .returned v ∧ K v w2 :=
  denF_ok Tok (f := 3) (fn := Try.f3) (an := A_damperlaw8_WaitMix) (args := [.v (.slice p0.a p0.len p0.cap)]) (by kernel_rfl) (by kernel_rfl) ((congrFun (D_damperlaw8_WaitMix p0 K) w).mpr h)
theorem E_damperlaw8_WaitMix : Enters Pr n_damperlaw8_WaitMix := enters_of_B (by kernel_rfl)

def A_damperlaw8_WaitRoom : Ann := (.seq .auto (.seq .auto (.seq .auto (.seq .auto (.seq .auto (.seq .auto (.seq (.seq .auto (.one [(7, (.one (.slice))), (8, (.one (.int .i64)))] (.seq (.seq .auto (.cond .auto .auto) none) (.seq (.seq .auto (.seq .auto (.seq (.seq .auto (.one [(10, (.one (.bool))), (11, (.one (.int .i64)))] (.seq .auto (.seq .auto .auto (some [(10, (.one (.bool)))])) none)) none) (.seq .auto (.seq .auto (.seq .auto (.seq .auto (.cond .auto .auto) none) none) (some [(7, (.one (.slice))), (12, (.one (.int .i64)))])) none) none) none) none) .auto (some [(7, (.one (.slice)))])) none)) none) .auto (some [])) none) none) none) none) none) none)
/-- damper/damperlaw8.WaitRoom -/
def F_damperlaw8_WaitRoom (p0 : Int) (p1 : Sl) (K : Value → PT) : PT :=
  L.call Pr n_damperlaw8_known [] (.one (.one (.bool))) fun (x1 : Bool) =>
  L.ite (!x1) (
    K (.bool false)) <|
  L.call Pr n_damperlaw8_within [.int .i64 p0, .int .i64 9] (.one (.one (.int .i64))) fun (x2 : Int) =>
  L.call Pr n_wait_New [.int .i64 x2] (.one (.one (.ptr))) fun (x3 : Option Addr) =>
  L.ite ((x3).isNone) (
    K (.bool false)) <|
  L.join (Y := Unit) (fun k4 =>
    L.loop (Y := Sl × Int × Unit) (⟨none, 0, 0⟩, 0, ()) fun y6 again7 =>
    L.ite (decide (y6.2.1 < ((p1.len : Nat) : Int))) (
      L.ite (decide (y6.2.1 < 60)) (
        L.join (Y := Sl × Unit) (fun k8 =>
          L.idx p1.a y6.2.1 p1.len 1 fun a10 =>
          L.load (.one (.int .i64)) a10 fun (x11 : Int) =>
          L.call Pr n_damperlaw8_within [.int .i64 x11, .int .i64 12] (.one (.one (.int .i64))) fun (x12 : Int) =>
          L.loop (Y := Bool × Int × Unit) (false, 0, ()) fun y13 again14 =>
          L.ite (decide (y13.2.1 < ((y6.1.len : Nat) : Int))) (
            L.join (Y := Bool × Unit) (fun k15 =>
              L.ite y13.1 (
                k15 (true, ())) <|
              L.idx y6.1.a y13.2.1 y6.1.len 1 fun a17 =>
              L.load (.one (.int .i64)) a17 fun (x18 : Int) =>
              k15 (x18 == (IntKind.wrap .i64 (1 + x12)), ())) fun z16 =>
            again14 (z16.1, IntKind.wrap .i64 (y13.2.1 + 1), ())) <|
          L.join (Y := Sl × Int × Unit) (fun k19 =>
            L.ite y13.1 (
              k19 (⟨y6.1.a, y6.1.len, y6.1.cap⟩, 5, ())) <|
            L.ite (decide (((y6.1.len : Nat) : Int) ≥ x2)) (
              k19 (⟨y6.1.a, y6.1.len, y6.1.cap⟩, 8, ())) <|
            L.new [.int .i64 (IntKind.wrap .i64 (1 + x12))] T_int fun b21 =>
            L.sem Pr (.one (.one .slice)) (Builtin.append_ #[T_s_int, T_s_int] T_s_int #[.slice y6.1.a y6.1.len y6.1.cap, .slice (some ⟨b21, 0, none⟩) 1 1]) fun (s22 : Sl) =>
            k19 (⟨s22.a, s22.len, s22.cap⟩, 0, ())) fun z20 =>
          L.call Pr n_wait_Line_Push [.pointer x3, .int .i64 (IntKind.wrap .i64 (1 + x12)), .int .i64 5] (.one (.one (.int .i64))) fun (x23 : Int) =>
          L.ite (x23 != z20.2.1) (
            K (.bool false)) <|
          L.call Pr n_wait_Line_All [.pointer x3] (.one (.one (.slice))) fun (x24 : Sl) =>
          L.call Pr n_damperlaw8_Ints [.slice x24.a x24.len x24.cap, .slice z20.1.a z20.1.len z20.1.cap] (.one (.one (.bool))) fun (x25 : Bool) =>
          L.ite (!x25) (
            K (.bool false)) <|
          L.idx p1.a y6.2.1 p1.len 1 fun a26 =>
          L.load (.one (.int .i64)) a26 fun (x27 : Int) =>
          L.guard (12 ≠ (0 : Int)) <|
          L.call Pr n_damperlaw8_within [.int .i64 (IntKind.wrap .i64 (Int.tdiv x27 12)), .int .i64 3] (.one (.one (.int .i64))) fun (x28 : Int) =>
          L.ite (x28 == 0) (
            L.ite (decide (((z20.1.len : Nat) : Int) > 0)) (
              L.call Pr n_wait_Line_Pop [.pointer x3] (.tup [(.one (.int .i64)), (.one (.bool))]) fun (x29 : Int × Bool × Unit) =>
              L.ite (!x29.2.1) (
                K (.bool false)) <|
              L.idx z20.1.a 0 z20.1.len 1 fun a30 =>
              L.load (.one (.int .i64)) a30 fun (x31 : Int) =>
              L.ite (x29.1 != x31) (
                K (.bool false)) <|
              L.guard (0 ≤ (1 : Int) ∧ (1 : Int) ≤ ((z20.1.len : Nat) : Int) ∧ ((z20.1.len : Nat) : Int) ≤ ((z20.1.cap : Nat) : Int) ∧ ((z20.1.cap : Nat) : Int) ≤ z20.1.cap) <|
              k8 (⟨if Int.toNat ((z20.1.cap : Nat) : Int) = Int.toNat (1 : Int) then z20.1.a else Option.map (fun a : Addr => a.add (Int.toNat (1 : Int) * 1)) z20.1.a, Int.toNat ((z20.1.len : Nat) : Int) - Int.toNat (1 : Int), Int.toNat ((z20.1.cap : Nat) : Int) - Int.toNat (1 : Int)⟩, ())) <|
            k8 (⟨z20.1.a, z20.1.len, z20.1.cap⟩, ())) <|
          k8 (⟨z20.1.a, z20.1.len, z20.1.cap⟩, ())) fun z9 =>
        again7 (⟨z9.1.a, z9.1.len, z9.1.cap⟩, IntKind.wrap .i64 (y6.2.1 + 1), ())) <|
      k4 (())) <|
    k4 (())) fun z5 =>
  K (.bool true)
theorem D_damperlaw8_WaitRoom (p0 : Int) (p1 : Sl) (K : Value → PT) : denF Pr Dt Try.f4 A_damperlaw8_WaitRoom [.v (.int .i64 p0), .v (.slice p1.a p1.len p1.cap)] K = F_damperlaw8_WaitRoom p0 p1 K := by kernel_rfl
theorem C_damperlaw8_WaitRoom (p0 : Int) (p1 : Sl) {K : Value → PT} {w : World} (h : F_damperlaw8_WaitRoom p0 p1 K w) : Calls Pr n_damperlaw8_WaitRoom [.int .i64 p0, .slice p1.a p1.len p1.cap].toArray w fun e w2 => ∃ v, e = .returned v ∧ K v w2 :=
  denF_ok Tok (f := 4) (fn := Try.f4) (an := A_damperlaw8_WaitRoom) (args := [.v (.int .i64 p0), .v (.slice p1.a p1.len p1.cap)]) (by kernel_rfl) (by kernel_rfl) ((congrFun (D_damperlaw8_WaitRoom p0 p1 K) w).mpr h)
theorem E_damperlaw8_WaitRoom : Enters Pr n_damperlaw8_WaitRoom := enters_of_B (by kernel_rfl)

def A_damperlaw8_WaitOrder : Ann := (.seq .auto (.seq .auto (.seq .auto (.seq .auto (.seq .auto (.seq .auto (.seq (.seq .auto (.one [(7, (.one (.slice))), (8, (.one (.slice))), (9, (.one (.int .i64)))] (.seq (.seq .auto (.cond .auto .auto) none) (.seq .auto .auto (some [(7, (.one (.slice))), (8, (.one (.slice)))])) none)) none) (.seq .auto (.seq (.seq .auto (.one [(11, (.one (.int .i64)))] .auto) none) .auto none) none) (some [(7, (.one (.slice))), (8, (.one (.slice)))])) none) none) none) none) none) none)
/-- damper/damperlaw8.WaitOrder -/
def F_damperlaw8_WaitOrder (p0 : Sl) (p1 : Int) (K : Value → PT) : PT :=
  L.call Pr n_damperlaw8_known [] (.one (.one (.bool))) fun (x1 : Bool) =>
  L.ite (!x1) (
    K (.bool false)) <|
  L.call Pr n_wait_New [.int .i64 8] (.one (.one (.ptr))) fun (x2 : Option Addr) =>
  L.ite ((x2).isNone) (
    K (.bool false)) <|
  L.call Pr n_damperlaw8_within [.int .i64 p1, .int .i64 20] (.one (.one (.int .i64))) fun (x3 : Int) =>
  L.join (Y := Sl × Sl × Unit) (fun k4 =>
    L.loop (Y := Sl × Sl × Int × Unit) (⟨none, 0, 0⟩, ⟨none, 0, 0⟩, 0, ()) fun y6 again7 =>
    L.ite (decide (y6.2.2.1 < ((p0.len : Nat) : Int))) (
      L.ite (decide (y6.2.2.1 < 8)) (
        L.join (Y := Sl × Sl × Unit) (fun k8 =>
          L.idx p0.a y6.2.2.1 p0.len 1 fun a10 =>
          L.load (.one (.int .i64)) a10 fun (x11 : Int) =>
          L.call Pr n_damperlaw8_within [.int .i64 x11, .int .i64 20] (.one (.one (.int .i64))) fun (x12 : Int) =>
          L.call Pr n_wait_Line_Push [.pointer x2, .int .i64 (IntKind.wrap .i64 (100 - y6.2.2.1)), .int .i64 x12] (.one (.one (.int .i64))) fun (x13 : Int) =>
          L.ite (x13 != 0) (
            K (.bool false)) <|
          L.ite (decide (x12 ≤ x3)) (
            L.new [.int .i64 (IntKind.wrap .i64 (100 - y6.2.2.1))] T_int fun b14 =>
            L.sem Pr (.one (.one .slice)) (Builtin.append_ #[T_s_int, T_s_int] T_s_int #[.slice y6.1.a y6.1.len y6.1.cap, .slice (some ⟨b14, 0, none⟩) 1 1]) fun (s15 : Sl) =>
            k8 (⟨s15.a, s15.len, s15.cap⟩, ⟨y6.2.1.a, y6.2.1.len, y6.2.1.cap⟩, ())) <|
          L.new [.int .i64 (IntKind.wrap .i64 (100 - y6.2.2.1))] T_int fun b16 =>
          L.sem Pr (.one (.one .slice)) (Builtin.append_ #[T_s_int, T_s_int] T_s_int #[.slice y6.2.1.a y6.2.1.len y6.2.1.cap, .slice (some ⟨b16, 0, none⟩) 1 1]) fun (s17 : Sl) =>
          k8 (⟨y6.1.a, y6.1.len, y6.1.cap⟩, ⟨s17.a, s17.len, s17.cap⟩, ())) fun z9 =>
        again7 (⟨z9.1.a, z9.1.len, z9.1.cap⟩, ⟨z9.2.1.a, z9.2.1.len, z9.2.1.cap⟩, IntKind.wrap .i64 (y6.2.2.1 + 1), ())) <|
      k4 (⟨y6.1.a, y6.1.len, y6.1.cap⟩, ⟨y6.2.1.a, y6.2.1.len, y6.2.1.cap⟩, ())) <|
    k4 (⟨y6.1.a, y6.1.len, y6.1.cap⟩, ⟨y6.2.1.a, y6.2.1.len, y6.2.1.cap⟩, ())) fun z5 =>
  L.call Pr n_wait_Line_Late [.pointer x2, .int .i64 x3] (.one (.one (.slice))) fun (x18 : Sl) =>
  L.call Pr n_damperlaw8_Ints [.slice x18.a x18.len x18.cap, .slice z5.1.a z5.1.len z5.1.cap] (.one (.one (.bool))) fun (x19 : Bool) =>
  L.ite (!x19) (
    K (.bool false)) <|
  L.call Pr n_wait_Line_Late [.pointer x2, .int .i64 x3] (.one (.one (.slice))) fun (x20 : Sl) =>
  L.ite (((x20.len : Nat) : Int) != 0) (
    K (.bool false)) <|
  L.call Pr n_wait_Line_Len [.pointer x2] (.one (.one (.int .i64))) fun (x21 : Int) =>
  L.ite (x21 != ((z5.2.1.len : Nat) : Int)) (
    K (.bool false)) <|
  L.loop (Y := Int × Unit) (0, ()) fun y22 again23 =>
  L.ite (decide (y22.1 < ((z5.2.1.len : Nat) : Int))) (
    L.call Pr n_wait_Line_Pop [.pointer x2] (.tup [(.one (.int .i64)), (.one (.bool))]) fun (x24 : Int × Bool × Unit) =>
    L.ite (!x24.2.1) (
      K (.bool false)) <|
    L.idx z5.2.1.a y22.1 z5.2.1.len 1 fun a25 =>
    L.load (.one (.int .i64)) a25 fun (x26 : Int) =>
    L.ite (x24.1 != x26) (
      K (.bool false)) <|
    L.call Pr n_wait_Line_Len [.pointer x2] (.one (.one (.int .i64))) fun (x27 : Int) =>
    L.ite (x27 != (IntKind.wrap .i64 ((IntKind.wrap .i64 (((z5.2.1.len : Nat) : Int) - y22.1)) - 1))) (
      K (.bool false)) <|
    again23 (IntKind.wrap .i64 (y22.1 + 1), ())) <|
  L.call Pr n_wait_Line_Pop [.pointer x2] (.tup [(.one (.int .i64)), (.one (.bool))]) fun (x28 : Int × Bool × Unit) =>
  K (.bool (!x28.2.1))
theorem D_damperlaw8_WaitOrder (p0 : Sl) (p1 : Int) (K : Value → PT) : denF Pr Dt Try.f5 A_damperlaw8_WaitOrder [.v (.slice p0.a p0.len p0.cap), .v (.int .i64 p1)] K = F_damperlaw8_WaitOrder p0 p1 K := by kernel_rfl
theorem C_damperlaw8_WaitOrder (p0 : Sl) (p1 : Int) {K : Value → PT} {w : World} (h : F_damperlaw8_WaitOrder p0 p1 K w) : Calls Pr n_damperlaw8_WaitOrder [.slice p0.a p0.len p0.cap, .int .i64 p1].toArray w fun e w2 => ∃ v, e = .returned v ∧ K v w2 :=
  denF_ok Tok (f := 5) (fn := Try.f5) (an := A_damperlaw8_WaitOrder) (args := [.v (.slice p0.a p0.len p0.cap), .v (.int .i64 p1)]) (by kernel_rfl) (by kernel_rfl) ((congrFun (D_damperlaw8_WaitOrder p0 p1 K) w).mpr h)
theorem E_damperlaw8_WaitOrder : Enters Pr n_damperlaw8_WaitOrder := enters_of_B (by kernel_rfl)

def A_damperlaw8_WaitPlays : Ann := (.seq .auto (.seq .auto (.seq .auto (.seq .auto (.seq .auto (.seq (.seq .auto (.one [(8, (.one (.int .i64)))] (.seq (.seq .auto (.cond .auto .auto) none) (.seq (.seq .auto (.seq (.seq .auto (.seq .auto .auto (some [(61, (.one (.bool)))])) none) .auto (some [])) none) .auto none) none)) none) .auto (some [])) none) none) none) none) none)
/-- damper/damperlaw8.WaitPlays -/
def F_damperlaw8_WaitPlays (p0 : Int) (p1 : Sl) (K : Value → PT) : PT :=
  L.call Pr n_damperlaw8_known [] (.one (.one (.bool))) fun (x1 : Bool) =>
  L.ite (!x1) (
    K (.bool false)) <|
  L.call Pr n_damperlaw8_within [.int .i64 p0, .int .i64 9] (.one (.one (.int .i64))) fun (x2 : Int) =>
  L.call Pr n_wait_New [.int .i64 x2] (.one (.one (.ptr))) fun (x3 : Option Addr) =>
  L.call Pr n_damperref8_New [.int .i64 x2] (.one (.one (.ptr))) fun (x4 : Option Addr) =>
  L.ite ((x3).isNone) (
    K (.bool false)) <|
  L.join (Y := Unit) (fun k5 =>
    L.loop (Y := Int × Unit) (0, ()) fun y7 again8 =>
    L.ite (decide (y7.1 < ((p1.len : Nat) : Int))) (
      L.ite (decide (y7.1 < 80)) (
        L.idx p1.a y7.1 p1.len 1 fun a9 =>
        L.load (.one (.int .i64)) a9 fun (x10 : Int) =>
        L.guard (8 ≠ (0 : Int)) <|
        L.join (Y := Unit) (fun k11 =>
          L.idx p1.a y7.1 p1.len 1 fun a13 =>
          L.load (.one (.int .i64)) a13 fun (x14 : Int) =>
          L.call Pr n_damperlaw8_within [.int .i64 x14, .int .i64 8] (.one (.one (.int .i64))) fun (x15 : Int) =>
          L.join (Y := Bool × Unit) (fun k16 =>
            L.ite (x15 == 0) (
              k16 (x15 == 0, ())) <|
            k16 (x15 == 1, ())) fun z17 =>
          L.ite z17.1 (
            L.call Pr n_wait_Line_Pop [.pointer x3] (.tup [(.one (.int .i64)), (.one (.bool))]) fun (x18 : Int × Bool × Unit) =>
            L.call Pr n_damperref8_Line_Pop [.pointer x4] (.tup [(.one (.int .i64)), (.one (.bool))]) fun (x19 : Int × Bool × Unit) =>
            L.ite (x18.1 != x19.1) (
              K (.bool false)) <|
            L.ite (!(x18.2.1 == x19.2.1)) (
              K (.bool false)) <|
            k11 (())) <|
          L.ite (x15 == 2) (
            L.call Pr n_damperlaw8_within [.int .i64 (IntKind.wrap .i64 (Int.tdiv x10 8)), .int .i64 30] (.one (.one (.int .i64))) fun (x20 : Int) =>
            L.call Pr n_wait_Line_Late [.pointer x3, .int .i64 x20] (.one (.one (.slice))) fun (x21 : Sl) =>
            L.call Pr n_damperlaw8_within [.int .i64 (IntKind.wrap .i64 (Int.tdiv x10 8)), .int .i64 30] (.one (.one (.int .i64))) fun (x22 : Int) =>
            L.call Pr n_damperref8_Line_Late [.pointer x4, .int .i64 x22] (.one (.one (.slice))) fun (x23 : Sl) =>
            L.call Pr n_damperlaw8_Ints [.slice x21.a x21.len x21.cap, .slice x23.a x23.len x23.cap] (.one (.one (.bool))) fun (x24 : Bool) =>
            L.ite (!x24) (
              K (.bool false)) <|
            k11 (())) <|
          L.call Pr n_damperlaw8_within [.int .i64 (IntKind.wrap .i64 (Int.tdiv x10 8)), .int .i64 20] (.one (.one (.int .i64))) fun (x25 : Int) =>
          L.guard (20 ≠ (0 : Int)) <|
          L.call Pr n_damperlaw8_within [.int .i64 (IntKind.wrap .i64 (Int.tdiv (IntKind.wrap .i64 (Int.tdiv x10 8)) 20)), .int .i64 30] (.one (.one (.int .i64))) fun (x26 : Int) =>
          L.call Pr n_wait_Line_Push [.pointer x3, .int .i64 (IntKind.wrap .i64 (1 + x25)), .int .i64 x26] (.one (.one (.int .i64))) fun (x27 : Int) =>
          L.call Pr n_damperref8_Line_Push [.pointer x4, .int .i64 (IntKind.wrap .i64 (1 + x25)), .int .i64 x26] (.one (.one (.int .i64))) fun (x28 : Int) =>
          L.ite (x27 != x28) (
            K (.bool false)) <|
          k11 (())) fun z12 =>
        L.call Pr n_wait_Line_Len [.pointer x3] (.one (.one (.int .i64))) fun (x29 : Int) =>
        L.call Pr n_damperref8_Line_Len [.pointer x4] (.one (.one (.int .i64))) fun (x30 : Int) =>
        L.ite (x29 != x30) (
          K (.bool false)) <|
        L.call Pr n_wait_Line_All [.pointer x3] (.one (.one (.slice))) fun (x31 : Sl) =>
        L.call Pr n_damperref8_Line_All [.pointer x4] (.one (.one (.slice))) fun (x32 : Sl) =>
        L.call Pr n_damperlaw8_Ints [.slice x31.a x31.len x31.cap, .slice x32.a x32.len x32.cap] (.one (.one (.bool))) fun (x33 : Bool) =>
        L.ite (!x33) (
          K (.bool false)) <|
        again8 (IntKind.wrap .i64 (y7.1 + 1), ())) <|
      k5 (())) <|
    k5 (())) fun z6 =>
  K (.bool true)
theorem D_damperlaw8_WaitPlays (p0 : Int) (p1 : Sl) (K : Value → PT) : denF Pr Dt Try.f6 A_damperlaw8_WaitPlays [.v (.int .i64 p0), .v (.slice p1.a p1.len p1.cap)] K = F_damperlaw8_WaitPlays p0 p1 K := by kernel_rfl
theorem C_damperlaw8_WaitPlays (p0 : Int) (p1 : Sl) {K : Value → PT} {w : World} (h : F_damperlaw8_WaitPlays p0 p1 K w) : Calls Pr n_damperlaw8_WaitPlays [.int .i64 p0, .slice p1.a p1.len p1.cap].toArray w fun e w2 => ∃ v, e = .returned v ∧ K v w2 :=
  denF_ok Tok (f := 6) (fn := Try.f6) (an := A_damperlaw8_WaitPlays) (args := [.v (.int .i64 p0), .v (.slice p1.a p1.len p1.cap)]) (by kernel_rfl) (by kernel_rfl) ((congrFun (D_damperlaw8_WaitPlays p0 p1 K) w).mpr h)
theorem E_damperlaw8_WaitPlays : Enters Pr n_damperlaw8_WaitPlays := enters_of_B (by kernel_rfl)

def A_damperlaw8_WaitLate : Ann := (.seq .auto (.seq .auto (.seq .auto (.seq .auto (.seq (.seq .auto (.one [(7, (.one (.int .i64)))] (.seq (.seq .auto (.cond .auto .auto) none) .auto none)) none) (.seq .auto (.seq (.seq .auto (.one [(8, (.one (.int .i64))), (9, (.one (.int .i64)))] (.seq (.seq .auto (.cond .auto .auto) none) .auto none)) none) .auto (some [])) none) (some [])) none) none) none) none)
/-- damper/damperlaw8.WaitLate -/
def F_damperlaw8_WaitLate (p0 : Sl) (p1 : Sl) (K : Value → PT) : PT :=
  L.call Pr n_damperlaw8_known [] (.one (.one (.bool))) fun (x1 : Bool) =>
  L.ite (!x1) (
    K (.bool false)) <|
  L.call Pr n_wait_New [.int .i64 8] (.one (.one (.ptr))) fun (x2 : Option Addr) =>
  L.call Pr n_damperref8_New [.int .i64 8] (.one (.one (.ptr))) fun (x3 : Option Addr) =>
  L.ite ((x2).isNone) (
    K (.bool false)) <|
  L.join (Y := Unit) (fun k4 =>
    L.loop (Y := Int × Unit) (0, ()) fun y6 again7 =>
    L.ite (decide (y6.1 < ((p0.len : Nat) : Int))) (
      L.ite (decide (y6.1 < 8)) (
        L.idx p0.a y6.1 p0.len 1 fun a8 =>
        L.load (.one (.int .i64)) a8 fun (x9 : Int) =>
        L.call Pr n_damperlaw8_within [.int .i64 x9, .int .i64 30] (.one (.one (.int .i64))) fun (x10 : Int) =>
        L.call Pr n_wait_Line_Push [.pointer x2, .int .i64 (IntKind.wrap .i64 (y6.1 + 1)), .int .i64 x10] (.one (.one (.int .i64))) fun (x11 : Int) =>
        L.idx p0.a y6.1 p0.len 1 fun a12 =>
        L.load (.one (.int .i64)) a12 fun (x13 : Int) =>
        L.call Pr n_damperlaw8_within [.int .i64 x13, .int .i64 30] (.one (.one (.int .i64))) fun (x14 : Int) =>
        L.call Pr n_damperref8_Line_Push [.pointer x3, .int .i64 (IntKind.wrap .i64 (y6.1 + 1)), .int .i64 x14] (.one (.one (.int .i64))) fun (x15 : Int) =>
        again7 (IntKind.wrap .i64 (y6.1 + 1), ())) <|
      k4 (())) <|
    k4 (())) fun z5 =>
  L.join (Y := Unit) (fun k16 =>
    L.loop (Y := Int × Int × Unit) (0, 0, ()) fun y18 again19 =>
    L.ite (decide (y18.2.1 < ((p1.len : Nat) : Int))) (
      L.ite (decide (y18.2.1 < 12)) (
        L.idx p1.a y18.2.1 p1.len 1 fun a20 =>
        L.load (.one (.int .i64)) a20 fun (x21 : Int) =>
        L.call Pr n_damperlaw8_within [.int .i64 x21, .int .i64 6] (.one (.one (.int .i64))) fun (x22 : Int) =>
        L.call Pr n_wait_Line_Late [.pointer x2, .int .i64 (IntKind.wrap .i64 (y18.1 + x22))] (.one (.one (.slice))) fun (x23 : Sl) =>
        L.call Pr n_damperref8_Line_Late [.pointer x3, .int .i64 (IntKind.wrap .i64 (y18.1 + x22))] (.one (.one (.slice))) fun (x24 : Sl) =>
        L.call Pr n_damperlaw8_Ints [.slice x23.a x23.len x23.cap, .slice x24.a x24.len x24.cap] (.one (.one (.bool))) fun (x25 : Bool) =>
        L.ite (!x25) (
          K (.bool false)) <|
        L.call Pr n_wait_Line_Late [.pointer x2, .int .i64 (IntKind.wrap .i64 (y18.1 + x22))] (.one (.one (.slice))) fun (x26 : Sl) =>
        L.ite (((x26.len : Nat) : Int) != 0) (
          K (.bool false)) <|
        L.call Pr n_wait_Line_All [.pointer x2] (.one (.one (.slice))) fun (x27 : Sl) =>
        L.call Pr n_damperref8_Line_All [.pointer x3] (.one (.one (.slice))) fun (x28 : Sl) =>
        L.call Pr n_damperlaw8_Ints [.slice x27.a x27.len x27.cap, .slice x28.a x28.len x28.cap] (.one (.one (.bool))) fun (x29 : Bool) =>
        L.ite (!x29) (
          K (.bool false)) <|
        again19 (IntKind.wrap .i64 (y18.1 + x22), IntKind.wrap .i64 (y18.2.1 + 1), ())) <|
      k16 (())) <|
    k16 (())) fun z17 =>
  L.call Pr n_wait_Line_Len [.pointer x2] (.one (.one (.int .i64))) fun (x30 : Int) =>
  L.call Pr n_damperref8_Line_Len [.pointer x3] (.one (.one (.int .i64))) fun (x31 : Int) =>
  K (.bool (x30 == x31))
theorem D_damperlaw8_WaitLate (p0 : Sl) (p1 : Sl) (K : Value → PT) : denF Pr Dt Try.f7 A_damperlaw8_WaitLate [.v (.slice p0.a p0.len p0.cap), .v (.slice p1.a p1.len p1.cap)] K = F_damperlaw8_WaitLate p0 p1 K := by kernel_rfl
theorem C_damperlaw8_WaitLate (p0 : Sl) (p1 : Sl) {K : Value → PT} {w : World} (h : F_damperlaw8_WaitLate p0 p1 K w) : Calls Pr n_damperlaw8_WaitLate [.slice p0.a p0.len p0.cap, .slice p1.a p1.len p1.cap].toArray w fun e w2 => ∃ v, e = .returned v ∧ K v w2 :=
  denF_ok Tok (f := 7) (fn := Try.f7) (an := A_damperlaw8_WaitLate) (args := [.v (.slice p0.a p0.len p0.cap), .v (.slice p1.a p1.len p1.cap)]) (by kernel_rfl) (by kernel_rfl) ((congrFun (D_damperlaw8_WaitLate p0 p1 K) w).mpr h)
theorem E_damperlaw8_WaitLate : Enters Pr n_damperlaw8_WaitLate := enters_of_B (by kernel_rfl)

def A_damperlaw8_WaitNone : Ann := (.seq .auto (.seq .auto (.seq .auto (.seq .auto (.seq (.seq .auto (.one [(6, (.one (.int .i64)))] (.seq (.seq .auto (.cond .auto .auto) none) .auto none)) none) .auto (some [])) none) none) none) none)
/-- damper/damperlaw8.WaitNone -/
def F_damperlaw8_WaitNone (p0 : Sl) (p1 : Int) (K : Value → PT) : PT :=
  L.call Pr n_damperlaw8_known [] (.one (.one (.bool))) fun (x1 : Bool) =>
  L.ite (!x1) (
    K (.bool false)) <|
  L.call Pr n_wait_New [.int .i64 0] (.one (.one (.ptr))) fun (x2 : Option Addr) =>
  L.ite ((x2).isNone) (
    K (.bool false)) <|
  L.join (Y := Unit) (fun k3 =>
    L.loop (Y := Int × Unit) (0, ()) fun y5 again6 =>
    L.ite (decide (y5.1 < ((p0.len : Nat) : Int))) (
      L.ite (decide (y5.1 < 20)) (
        L.idx p0.a y5.1 p0.len 1 fun a7 =>
        L.load (.one (.int .i64)) a7 fun (x8 : Int) =>
        L.call Pr n_damperlaw8_within [.int .i64 x8, .int .i64 9] (.one (.one (.int .i64))) fun (x9 : Int) =>
        L.call Pr n_damperlaw8_within [.int .i64 p1, .int .i64 9] (.one (.one (.int .i64))) fun (x10 : Int) =>
        L.call Pr n_wait_Line_Push [.pointer x2, .int .i64 (IntKind.wrap .i64 (1 + x9)), .int .i64 x10] (.one (.one (.int .i64))) fun (x11 : Int) =>
        L.ite (x11 != 8) (
          K (.bool false)) <|
        L.call Pr n_wait_Line_Len [.pointer x2] (.one (.one (.int .i64))) fun (x12 : Int) =>
        L.ite (x12 != 0) (
          K (.bool false)) <|
        again6 (IntKind.wrap .i64 (y5.1 + 1), ())) <|
      k3 (())) <|
    k3 (())) fun z4 =>
  L.call Pr n_wait_Line_Pop [.pointer x2] (.tup [(.one (.int .i64)), (.one (.bool))]) fun (x13 : Int × Bool × Unit) =>
  L.ite (!x13.2.1) (
    L.call Pr n_wait_Line_All [.pointer x2] (.one (.one (.slice))) fun (x14 : Sl) =>
    L.ite (((x14.len : Nat) : Int) == 0) (
      L.call Pr n_wait_Line_Late [.pointer x2, .int .i64 1099511627776] (.one (.one (.slice))) fun (x15 : Sl) =>
      K (.bool (((x15.len : Nat) : Int) == 0))) <|
    K (.bool false)) <|
  K (.bool false)
theorem D_damperlaw8_WaitNone (p0 : Sl) (p1 : Int) (K : Value → PT) : denF Pr Dt Try.f8 A_damperlaw8_WaitNone [.v (.slice p0.a p0.len p0.cap), .v (.int .i64 p1)] K = F_damperlaw8_WaitNone p0 p1 K := by kernel_rfl
theorem C_damperlaw8_WaitNone (p0 : Sl) (p1 : Int) {K : Value → PT} {w : World} (h : F_damperlaw8_WaitNone p0 p1 K w) : Calls Pr n_damperlaw8_WaitNone [.slice p0.a p0.len p0.cap, .int .i64 p1].toArray w fun e w2 => ∃ v, e = .returned v ∧ K v w2 :=
  denF_ok Tok (f := 8) (fn := Try.f8) (an := A_damperlaw8_WaitNone) (args := [.v (.slice p0.a p0.len p0.cap), .v (.int .i64 p1)]) (by kernel_rfl) (by kernel_rfl) ((congrFun (D_damperlaw8_WaitNone p0 p1 K) w).mpr h)
theorem E_damperlaw8_WaitNone : Enters Pr n_damperlaw8_WaitNone := enters_of_B (by kernel_rfl)

def A_damperlaw8_known : Ann := .auto
/-- damper/damperlaw8.known -/
def F_damperlaw8_known  (K : Value → PT) : PT :=
  L.call Pr n_wait_New [.int .i64 1] (.one (.one (.ptr))) fun (x1 : Option Addr) =>
  L.ite ((x1).isNone) (
    K (.bool false)) <|
  L.call Pr n_wait_Line_Pop [.pointer x1] (.tup [(.one (.int .i64)), (.one (.bool))]) fun (x2 : Int × Bool × Unit) =>
  L.ite (!x2.2.1) (
    L.call Pr n_wait_Line_Push [.pointer x1, .int .i64 3, .int .i64 9] (.one (.one (.int .i64))) fun (x3 : Int) =>
    L.ite (x3 == 0) (
      L.call Pr n_wait_Line_Len [.pointer x1] (.one (.one (.int .i64))) fun (x4 : Int) =>
      L.ite (x4 == 1) (
        L.call Pr n_wait_Line_Push [.pointer x1, .int .i64 4, .int .i64 9] (.one (.one (.int .i64))) fun (x5 : Int) =>
        K (.bool (x5 == 8))) <|
      K (.bool false)) <|
    K (.bool false)) <|
  K (.bool false)
theorem D_damperlaw8_known  (K : Value → PT) : denF Pr Dt Try.f9 A_damperlaw8_known [] K = F_damperlaw8_known  K := by kernel_rfl
theorem C_damperlaw8_known  {K : Value → PT} {w : World} (h : F_damperlaw8_known  K w) : Calls Pr n_damperlaw8_known [].toArray w fun e w2 => ∃ v, e = .returned v ∧ K v w2 :=
  denF_ok Tok (f := 9) (fn := Try.f9) (an := A_damperlaw8_known) (args := []) (by kernel_rfl) (by kernel_rfl) ((congrFun (D_damperlaw8_known  K) w).mpr h)
theorem E_damperlaw8_known : Enters Pr n_damperlaw8_known := enters_of_B (by kernel_rfl)

def A_wait_New : Ann := .auto
/-- damper/wait.New -/
def F_wait_New (p0 : Int) (K : Value → PT) : PT :=
  L.new [.slice none 0 0, .int .i64 p0] T_wait_Line fun b1 =>
  K (.pointer (some (⟨b1, 0, none⟩)))
theorem D_wait_New (p0 : Int) (K : Value → PT) : denF Pr Dt Try.f10 A_wait_New [.v (.int .i64 p0)] K = F_wait_New p0 K := by kernel_rfl
theorem C_wait_New (p0 : Int) {K : Value → PT} {w : World} (h : F_wait_New p0 K w) : Calls Pr n_wait_New [.int .i64 p0].toArray w fun e w2 => ∃ v, e = .returned v ∧ K v w2 :=
  denF_ok Tok (f := 10) (fn := Try.f10) (an := A_wait_New) (args := [.v (.int .i64 p0)]) (by kernel_rfl) (by kernel_rfl) ((congrFun (D_wait_New p0 K) w).mpr h)
theorem E_wait_New : Enters Pr n_wait_New := enters_of_B (by kernel_rfl)

def A_damperlaw8_within : Ann := (.seq .auto (.seq .auto (.seq .auto .auto (some [(5, (.one (.int .i64)))])) none) none)
/-- damper/damperlaw8.within -/
def F_damperlaw8_within (p0 : Int) (p1 : Int) (K : Value → PT) : PT :=
  L.guard (p1 ≠ (0 : Int)) <|
  L.join (Y := Int × Unit) (fun k1 =>
    L.ite (decide ((Int.tmod p0 p1) < 0)) (
      k1 (IntKind.wrap .i64 ((Int.tmod p0 p1) + p1), ())) <|
    k1 (Int.tmod p0 p1, ())) fun z2 =>
  K (.int .i64 z2.1)
theorem D_damperlaw8_within (p0 : Int) (p1 : Int) (K : Value → PT) : denF Pr Dt Try.f11 A_damperlaw8_within [.v (.int .i64 p0), .v (.int .i64 p1)] K = F_damperlaw8_within p0 p1 K := by kernel_rfl
theorem C_damperlaw8_within (p0 : Int) (p1 : Int) {K : Value → PT} {w : World} (h : F_damperlaw8_within p0 p1 K w) : Calls Pr n_damperlaw8_within [.int .i64 p0, .int .i64 p1].toArray w fun e w2 => ∃ v, e = .returned v ∧ K v w2 :=
  denF_ok Tok (f := 11) (fn := Try.f11) (an := A_damperlaw8_within) (args := [.v (.int .i64 p0), .v (.int .i64 p1)]) (by kernel_rfl) (by kernel_rfl) ((congrFun (D_damperlaw8_within p0 p1 K) w).mpr h)
theorem E_damperlaw8_within : Enters Pr n_damperlaw8_within := enters_of_B (by kernel_rfl)

def A_wait_Line_Push : Ann := .auto
/-- (*damper/wait.Line).Push -/
def F_wait_Line_Push (p0 : Option Addr) (p1 : Int) (p2 : Int) (K : Value → PT) : PT :=
  L.nonnil p0 fun a1 =>
  L.call Pr n_wait_row_int_has [.pointer (some (a1.add 0)), .int .i64 p1] (.one (.one (.bool))) fun (x2 : Bool) =>
  L.ite x2 (
    K (.int .i64 5)) <|
  L.draw <|
  L.nonnil p0 fun a3 =>
  L.load (.one (.int .i64)) (a3.add 1) fun (x4 : Int) =>
  L.call Pr n_wait_Line_Len [.pointer p0] (.one (.one (.int .i64))) fun (x5 : Int) =>
  L.chk (a3.add 1) [.int .i64 x4] <|
  L.ite (decide (x5 ≥ x4)) (
    K (.int .i64 8)) <|
  L.nonnil p0 fun a6 =>
  L.load (.one (.slice)) ((a6.add 0).add 0) fun (x7 : Sl) =>
  L.new [.int .i64 p1, .int .i64 p2] T_wait_held_int fun b8 =>
  L.sem Pr (.one (.one .slice)) (Builtin.append_ #[T_s_wait_held_int, T_s_wait_held_int] T_s_wait_held_int #[.slice x7.a x7.len x7.cap, .slice (some ⟨b8, 0, none⟩) 1 1]) fun (s9 : Sl) =>
  L.nonnil p0 fun a10 =>
  L.store ((a10.add 0).add 0) [.slice s9.a s9.len s9.cap] <|
  K (.int .i64 0)
theorem D_wait_Line_Push (p0 : Option Addr) (p1 : Int) (p2 : Int) (K : Value → PT) : denF Pr Dt Try.f12 A_wait_Line_Push [.v (.pointer p0), .v (.int .i64 p1), .v (.int .i64 p2)] K = F_wait_Line_Push p0 p1 p2 K := by kernel_rfl
theorem C_wait_Line_Push (p0 : Option Addr) (p1 : Int) (p2 : Int) {K : Value → PT} {w : World} (h : F_wait_Line_Push p0 p1 p2 K w) : Calls Pr n_wait_Line_Push [.pointer p0, .int .i64 p1, .int .i64 p2].toArray w fun e w2 => ∃ v, e = .returned v ∧ K v w2 :=
  denF_ok Tok (f := 12) (fn := Try.f12) (an := A_wait_Line_Push) (args := [.v (.pointer p0), .v (.int .i64 p1), .v (.int .i64 p2)]) (by kernel_rfl) (by kernel_rfl) ((congrFun (D_wait_Line_Push p0 p1 p2 K) w).mpr h)
theorem E_wait_Line_Push : Enters Pr n_wait_Line_Push := enters_of_B (by kernel_rfl)

def A_wait_Line_Pop : Ann := (.seq .auto (.seq (.seq .auto (.seq .auto .auto (some [(9, (.one (.int .i64))), (10, (.one (.int .i64)))])) none) .auto none) none)
/-- (*damper/wait.Line).Pop -/
def F_wait_Line_Pop (p0 : Option Addr) (K : Value → PT) : PT :=
  L.new [.pointer p0] T_p_wait_Line fun b1 =>
  L.new [.int .i64 0] T_int fun b2 =>
  L.new [.bool false] T_bool fun b3 =>
  L.load (.one (.ptr)) (⟨b1, 0, none⟩) fun (x4 : Option Addr) =>
  L.nonnil x4 fun a5 =>
  L.call Pr n_wait_row_int_each [.pointer (some (a5.add 0))] (.one (.one (.func))) fun (x6 : FV) =>
  L.range Pr none (.func x6.fn x6.fs x6.cs) [(.one (.int .i64)), (.one (.int .i64))] (fun l7 (y8 : Int × Int × Unit) R9 =>
    L.begin Pr l7 <|
    L.draw <|
    L.load (.one (.ptr)) (⟨b1, 0, none⟩) fun (x12 : Option Addr) =>
    L.load (.one (.ptr)) (⟨b1, 0, none⟩) fun (x13 : Option Addr) =>
    L.nonnil x13 fun a14 =>
    L.load (.one (.slice)) ((a14.add 0).add 0) fun (x15 : Sl) =>
    L.guard (0 ≤ (1 : Int) ∧ (1 : Int) ≤ ((x15.len : Nat) : Int) ∧ ((x15.len : Nat) : Int) ≤ ((x15.cap : Nat) : Int) ∧ ((x15.cap : Nat) : Int) ≤ x15.cap) <|
    L.nonnil x12 fun a16 =>
    L.store ((a16.add 0).add 0) [.slice (if Int.toNat ((x15.cap : Nat) : Int) = Int.toNat (1 : Int) then x15.a else Option.map (fun a : Addr => a.add (Int.toNat (1 : Int) * 2)) x15.a) (Int.toNat ((x15.len : Nat) : Int) - Int.toNat (1 : Int)) (Int.toNat ((x15.cap : Nat) : Int) - Int.toNat (1 : Int))] <|
    L.store (⟨b2, 0, none⟩) [.int .i64 y8.1] <|
    L.store (⟨b3, 0, none⟩) [.bool true] <|
    L.endRound Pr l7 (some .ret) R9) fun d10 j11 =>
  L.jump j11 (
    L.store (⟨b2, 0, none⟩) [.int .i64 0] <|
    L.store (⟨b3, 0, none⟩) [.bool false] <|
    L.unmark Pr (d10 ++ []) <|
    L.load (.one (.int .i64)) (⟨b2, 0, none⟩) fun (x17 : Int) =>
    L.load (.one (.bool)) (⟨b3, 0, none⟩) fun (x18 : Bool) =>
    K (.tuple #[.int .i64 x17, .bool x18])) (
    L.unmark Pr (d10 ++ []) <|
    L.load (.one (.int .i64)) (⟨b2, 0, none⟩) fun (x19 : Int) =>
    L.load (.one (.bool)) (⟨b3, 0, none⟩) fun (x20 : Bool) =>
    K (.tuple #[.int .i64 x19, .bool x20])) []
theorem D_wait_Line_Pop (p0 : Option Addr) (K : Value → PT) : denF Pr Dt Try.f13 A_wait_Line_Pop [.v (.pointer p0)] K = F_wait_Line_Pop p0 K := by kernel_rfl
theorem C_wait_Line_Pop (p0 : Option Addr) {K : Value → PT} {w : World} (h : F_wait_Line_Pop p0 K w) : Calls Pr n_wait_Line_Pop [.pointer p0].toArray w fun e w2 => ∃ v, e = .returned v ∧ K v w2 :=
  denF_ok Tok (f := 13) (fn := Try.f13) (an := A_wait_Line_Pop) (args := [.v (.pointer p0)]) (by kernel_rfl) (by kernel_rfl) ((congrFun (D_wait_Line_Pop p0 K) w).mpr h)
theorem E_wait_Line_Pop : Enters Pr n_wait_Line_Pop := enters_of_B (by kernel_rfl)

def A_wait_Line_Len : Ann := .auto
/-- (*damper/wait.Line).Len -/
def F_wait_Line_Len (p0 : Option Addr) (K : Value → PT) : PT :=
  L.nonnil p0 fun a1 =>
  L.load (.one (.slice)) ((a1.add 0).add 0) fun (x2 : Sl) =>
  K (.int .i64 ((x2.len : Nat) : Int))
theorem D_wait_Line_Len (p0 : Option Addr) (K : Value → PT) : denF Pr Dt Try.f14 A_wait_Line_Len [.v (.pointer p0)] K = F_wait_Line_Len p0 K := by kernel_rfl
theorem C_wait_Line_Len (p0 : Option Addr) {K : Value → PT} {w : World} (h : F_wait_Line_Len p0 K w) : Calls Pr n_wait_Line_Len [.pointer p0].toArray w fun e w2 => ∃ v, e = .returned v ∧ K v w2 :=
  denF_ok Tok (f := 14) (fn := Try.f14) (an := A_wait_Line_Len) (args := [.v (.pointer p0)]) (by kernel_rfl) (by kernel_rfl) ((congrFun (D_wait_Line_Len p0 K) w).mpr h)
theorem E_wait_Line_Len : Enters Pr n_wait_Line_Len := enters_of_B (by kernel_rfl)

def A_damperlaw8_Ints : Ann := (.seq .auto (.seq .auto (.seq (.seq .auto (.one [(5, (.one (.int .i64)))] .auto) none) .auto none) none) none)
/-- damper/damperlaw8.Ints -/
def F_damperlaw8_Ints (p0 : Sl) (p1 : Sl) (K : Value → PT) : PT :=
  L.ite (((p0.len : Nat) : Int) != ((p1.len : Nat) : Int)) (
    K (.bool false)) <|
  L.loop (Y := Int × Unit) (0, ()) fun y1 again2 =>
  L.ite (decide (y1.1 < ((p0.len : Nat) : Int))) (
    L.draw <|
    L.idx p0.a y1.1 p0.len 1 fun a3 =>
    L.load (.one (.int .i64)) a3 fun (x4 : Int) =>
    L.idx p1.a y1.1 p1.len 1 fun a5 =>
    L.load (.one (.int .i64)) a5 fun (x6 : Int) =>
    L.ite (x4 != x6) (
      K (.bool false)) <|
    again2 (IntKind.wrap .i64 (y1.1 + 1), ())) <|
  K (.bool true)
theorem D_damperlaw8_Ints (p0 : Sl) (p1 : Sl) (K : Value → PT) : denF Pr Dt Try.f15 A_damperlaw8_Ints [.v (.slice p0.a p0.len p0.cap), .v (.slice p1.a p1.len p1.cap)] K = F_damperlaw8_Ints p0 p1 K := by kernel_rfl
theorem C_damperlaw8_Ints (p0 : Sl) (p1 : Sl) {K : Value → PT} {w : World} (h : F_damperlaw8_Ints p0 p1 K w) : Calls Pr n_damperlaw8_Ints [.slice p0.a p0.len p0.cap, .slice p1.a p1.len p1.cap].toArray w fun e w2 => ∃ v, e = .returned v ∧ K v w2 :=
  denF_ok Tok (f := 15) (fn := Try.f15) (an := A_damperlaw8_Ints) (args := [.v (.slice p0.a p0.len p0.cap), .v (.slice p1.a p1.len p1.cap)]) (by kernel_rfl) (by kernel_rfl) ((congrFun (D_damperlaw8_Ints p0 p1 K) w).mpr h)
theorem E_damperlaw8_Ints : Enters Pr n_damperlaw8_Ints := enters_of_B (by kernel_rfl)

def A_wait_Line_All : Ann := (.seq .auto (.seq .auto (.seq (.seq .auto (.seq .auto .auto (some [(12, (.one (.int .i64))), (13, (.one (.int .i64)))])) none) .auto none) none) none)
/-- (*damper/wait.Line).All -/
def F_wait_Line_All (p0 : Option Addr) (K : Value → PT) : PT :=
  L.call Pr n_wait_Line_Len [.pointer p0] (.one (.one (.int .i64))) fun (x1 : Int) =>
  L.sem Pr (.one (.one .slice)) (Instr.makeSlice T_s_int (.int .i64 0) (.int .i64 x1)) fun (s2 : Sl) =>
  L.new [.slice none 0 0] T_s_int fun b3 =>
  L.store (⟨b3, 0, none⟩) [.slice s2.a s2.len s2.cap] <|
  L.nonnil p0 fun a4 =>
  L.call Pr n_wait_row_int_each [.pointer (some (a4.add 0))] (.one (.one (.func))) fun (x5 : FV) =>
  L.range Pr none (.func x5.fn x5.fs x5.cs) [(.one (.int .i64)), (.one (.int .i64))] (fun l6 (y7 : Int × Int × Unit) R8 =>
    L.begin Pr l6 <|
    L.load (.one (.slice)) (⟨b3, 0, none⟩) fun (x11 : Sl) =>
    L.new [.int .i64 y7.1] T_int fun b12 =>
    L.sem Pr (.one (.one .slice)) (Builtin.append_ #[T_s_int, T_s_int] T_s_int #[.slice x11.a x11.len x11.cap, .slice (some ⟨b12, 0, none⟩) 1 1]) fun (s13 : Sl) =>
    L.store (⟨b3, 0, none⟩) [.slice s13.a s13.len s13.cap] <|
    L.endRound Pr l6 none R8) fun d9 j10 =>
  L.jump j10 (
    L.load (.one (.slice)) (⟨b3, 0, none⟩) fun (x14 : Sl) =>
    L.unmark Pr (d9 ++ []) <|
    K (.slice x14.a x14.len x14.cap)) (
    L.unmark Pr (d9 ++ []) <|
    K (.slice none 0 0)) []
theorem D_wait_Line_All (p0 : Option Addr) (K : Value → PT) : denF Pr Dt Try.f16 A_wait_Line_All [.v (.pointer p0)] K = F_wait_Line_All p0 K := by kernel_rfl
theorem C_wait_Line_All (p0 : Option Addr) {K : Value → PT} {w : World} (h : F_wait_Line_All p0 K w) : Calls Pr n_wait_Line_All [.pointer p0].toArray w fun e w2 => ∃ v, e = .returned v ∧ K v w2 :=
  denF_ok Tok (f := 16) (fn := Try.f16) (an := A_wait_Line_All) (args := [.v (.pointer p0)]) (by kernel_rfl) (by kernel_rfl) ((congrFun (D_wait_Line_All p0 K) w).mpr h)
theorem E_wait_Line_All : Enters Pr n_wait_Line_All := enters_of_B (by kernel_rfl)

def A_wait_Line_Late : Ann := .auto
/-- (*damper/wait.Line).Late -/
def F_wait_Line_Late (p0 : Option Addr) (p1 : Int) (K : Value → PT) : PT :=
  L.nonnil p0 fun a1 =>
  L.call Pr n_wait_row_int_part [.pointer (some (a1.add 0)), .int .i64 p1] (.one (.one (.slice))) fun (x2 : Sl) =>
  K (.slice x2.a x2.len x2.cap)
theorem D_wait_Line_Late (p0 : Option Addr) (p1 : Int) (K : Value → PT) : denF Pr Dt Try.f17 A_wait_Line_Late [.v (.pointer p0), .v (.int .i64 p1)] K = F_wait_Line_Late p0 p1 K := by kernel_rfl
theorem C_wait_Line_Late (p0 : Option Addr) (p1 : Int) {K : Value → PT} {w : World} (h : F_wait_Line_Late p0 p1 K w) : Calls Pr n_wait_Line_Late [.pointer p0, .int .i64 p1].toArray w fun e w2 => ∃ v, e = .returned v ∧ K v w2 :=
  denF_ok Tok (f := 17) (fn := Try.f17) (an := A_wait_Line_Late) (args := [.v (.pointer p0), .v (.int .i64 p1)]) (by kernel_rfl) (by kernel_rfl) ((congrFun (D_wait_Line_Late p0 p1 K) w).mpr h)
theorem E_wait_Line_Late : Enters Pr n_wait_Line_Late := enters_of_B (by kernel_rfl)

def A_damperref8_New : Ann := .auto
/-- damper/damperref8.New -/
def F_damperref8_New (p0 : Int) (K : Value → PT) : PT :=
  L.new [.int .i64 p0, .slice none 0 0] T_damperref8_Line fun b1 =>
  K (.pointer (some (⟨b1, 0, none⟩)))
theorem D_damperref8_New (p0 : Int) (K : Value → PT) : denF Pr Dt Try.f18 A_damperref8_New [.v (.int .i64 p0)] K = F_damperref8_New p0 K := by kernel_rfl
theorem C_damperref8_New (p0 : Int) {K : Value → PT} {w : World} (h : F_damperref8_New p0 K w) : Calls Pr n_damperref8_New [.int .i64 p0].toArray w fun e w2 => ∃ v, e = .returned v ∧ K v w2 :=
  denF_ok Tok (f := 18) (fn := Try.f18) (an := A_damperref8_New) (args := [.v (.int .i64 p0)]) (by kernel_rfl) (by kernel_rfl) ((congrFun (D_damperref8_New p0 K) w).mpr h)
theorem E_damperref8_New : Enters Pr n_damperref8_New := enters_of_B (by kernel_rfl)

def A_damperref8_Line_Pop : Ann := .auto
/-- (*damper/damperref8.Line).Pop -/
def F_damperref8_Line_Pop (p0 : Option Addr) (K : Value → PT) : PT :=
  L.nonnil p0 fun a1 =>
  L.load (.one (.slice)) (a1.add 1) fun (x2 : Sl) =>
  L.ite (((x2.len : Nat) : Int) == 0) (
    K (.tuple #[.int .i64 0, .bool false])) <|
  L.nonnil p0 fun a3 =>
  L.load (.one (.slice)) (a3.add 1) fun (x4 : Sl) =>
  L.idx x4.a 0 x4.len 2 fun a5 =>
  L.load (.one (.int .i64)) (a5.add 0) fun (x6 : Int) =>
  L.nonnil p0 fun a7 =>
  L.load (.one (.slice)) (a7.add 1) fun (x8 : Sl) =>
  L.guard (0 ≤ (1 : Int) ∧ (1 : Int) ≤ ((x8.len : Nat) : Int) ∧ ((x8.len : Nat) : Int) ≤ ((x8.cap : Nat) : Int) ∧ ((x8.cap : Nat) : Int) ≤ x8.cap) <|
  L.nonnil p0 fun a9 =>
  L.store (a9.add 1) [.slice (if Int.toNat ((x8.cap : Nat) : Int) = Int.toNat (1 : Int) then x8.a else Option.map (fun a : Addr => a.add (Int.toNat (1 : Int) * 2)) x8.a) (Int.toNat ((x8.len : Nat) : Int) - Int.toNat (1 : Int)) (Int.toNat ((x8.cap : Nat) : Int) - Int.toNat (1 : Int))] <|
  K (.tuple #[.int .i64 x6, .bool true])
theorem D_damperref8_Line_Pop (p0 : Option Addr) (K : Value → PT) : denF Pr Dt Try.f19 A_damperref8_Line_Pop [.v (.pointer p0)] K = F_damperref8_Line_Pop p0 K := by kernel_rfl
theorem C_damperref8_Line_Pop (p0 : Option Addr) {K : Value → PT} {w : World} (h : F_damperref8_Line_Pop p0 K w) : Calls Pr n_damperref8_Line_Pop [.pointer p0].toArray w fun e w2 => ∃ v, e = .returned v ∧ K v w2 :=
  denF_ok Tok (f := 19) (fn := Try.f19) (an := A_damperref8_Line_Pop) (args := [.v (.pointer p0)]) (by kernel_rfl) (by kernel_rfl) ((congrFun (D_damperref8_Line_Pop p0 K) w).mpr h)
theorem E_damperref8_Line_Pop : Enters Pr n_damperref8_Line_Pop := enters_of_B (by kernel_rfl)

def A_damperref8_Line_Late : Ann := (.seq .auto (.seq .auto (.seq .auto (.seq (.seq .auto (.one [(5, (.one (.slice))), (6, (.one (.slice))), (7, (.one (.int .i64)))] (.seq .auto (.seq .auto .auto (some [(5, (.one (.slice))), (6, (.one (.slice)))])) none)) none) .auto none) none) none) none)
/-- (*damper/damperref8.Line).Late -/
def F_damperref8_Line_Late (p0 : Option Addr) (p1 : Int) (K : Value → PT) : PT :=
  L.loop (Y := Sl × Sl × Int × Unit) (⟨none, 0, 0⟩, ⟨none, 0, 0⟩, 0, ()) fun y1 again2 =>
  L.nonnil p0 fun a3 =>
  L.load (.one (.slice)) (a3.add 1) fun (x4 : Sl) =>
  L.ite (decide (y1.2.2.1 < ((x4.len : Nat) : Int))) (
    L.join (Y := Sl × Sl × Unit) (fun k5 =>
      L.nonnil p0 fun a7 =>
      L.load (.one (.slice)) (a7.add 1) fun (x8 : Sl) =>
      L.idx x8.a y1.2.2.1 x8.len 2 fun a9 =>
      L.load (.one (.int .i64)) (a9.add 1) fun (x10 : Int) =>
      L.ite (decide (x10 ≤ p1)) (
        L.nonnil p0 fun a11 =>
        L.load (.one (.slice)) (a11.add 1) fun (x12 : Sl) =>
        L.idx x12.a y1.2.2.1 x12.len 2 fun a13 =>
        L.load (.one (.int .i64)) (a13.add 0) fun (x14 : Int) =>
        L.new [.int .i64 x14] T_int fun b15 =>
        L.sem Pr (.one (.one .slice)) (Builtin.append_ #[T_s_int, T_s_int] T_s_int #[.slice y1.1.a y1.1.len y1.1.cap, .slice (some ⟨b15, 0, none⟩) 1 1]) fun (s16 : Sl) =>
        k5 (⟨s16.a, s16.len, s16.cap⟩, ⟨y1.2.1.a, y1.2.1.len, y1.2.1.cap⟩, ())) <|
      L.nonnil p0 fun a17 =>
      L.load (.one (.slice)) (a17.add 1) fun (x18 : Sl) =>
      L.idx x18.a y1.2.2.1 x18.len 2 fun a19 =>
      L.load (.agg [.int .i64, .int .i64]) a19 fun (x20 : Int × Int × Unit) =>
      L.new [.int .i64 x20.1, .int .i64 x20.2.1] T_damperref8_one fun b21 =>
      L.sem Pr (.one (.one .slice)) (Builtin.append_ #[T_s_damperref8_one, T_s_damperref8_one] T_s_damperref8_one #[.slice y1.2.1.a y1.2.1.len y1.2.1.cap, .slice (some ⟨b21, 0, none⟩) 1 1]) fun (s22 : Sl) =>
      k5 (⟨y1.1.a, y1.1.len, y1.1.cap⟩, ⟨s22.a, s22.len, s22.cap⟩, ())) fun z6 =>
    again2 (⟨z6.1.a, z6.1.len, z6.1.cap⟩, ⟨z6.2.1.a, z6.2.1.len, z6.2.1.cap⟩, IntKind.wrap .i64 (y1.2.2.1 + 1), ())) <|
  L.nonnil p0 fun a23 =>
  L.store (a23.add 1) [.slice y1.2.1.a y1.2.1.len y1.2.1.cap] <|
  K (.slice y1.1.a y1.1.len y1.1.cap)
theorem D_damperref8_Line_Late (p0 : Option Addr) (p1 : Int) (K : Value → PT) : denF Pr Dt Try.f20 A_damperref8_Line_Late [.v (.pointer p0), .v (.int .i64 p1)] K = F_damperref8_Line_Late p0 p1 K := by kernel_rfl
theorem C_damperref8_Line_Late (p0 : Option Addr) (p1 : Int) {K : Value → PT} {w : World} (h : F_damperref8_Line_Late p0 p1 K w) : Calls Pr n_damperref8_Line_Late [.pointer p0, .int .i64 p1].toArray w fun e w2 => ∃ v, e = .returned v ∧ K v w2 :=
  denF_ok Tok (f := 20) (fn := Try.f20) (an := A_damperref8_Line_Late) (args := [.v (.pointer p0), .v (.int .i64 p1)]) (by kernel_rfl) (by kernel_rfl) ((congrFun (D_damperref8_Line_Late p0 p1 K) w).mpr h)
theorem E_damperref8_Line_Late : Enters Pr n_damperref8_Line_Late := enters_of_B (by kernel_rfl)

def A_damperref8_Line_Push : Ann := (.seq .auto (.seq (.seq .auto (.one [(7, (.one (.int .i64)))] .auto) none) .auto none) none)
/-- (*damper/damperref8.Line).Push -/
def F_damperref8_Line_Push (p0 : Option Addr) (p1 : Int) (p2 : Int) (K : Value → PT) : PT :=
  L.loop (Y := Int × Unit) (0, ()) fun y1 again2 =>
  L.nonnil p0 fun a3 =>
  L.load (.one (.slice)) (a3.add 1) fun (x4 : Sl) =>
  L.ite (decide (y1.1 < ((x4.len : Nat) : Int))) (
    L.nonnil p0 fun a5 =>
    L.load (.one (.slice)) (a5.add 1) fun (x6 : Sl) =>
    L.idx x6.a y1.1 x6.len 2 fun a7 =>
    L.load (.one (.int .i64)) (a7.add 0) fun (x8 : Int) =>
    L.ite (x8 == p1) (
      K (.int .i64 5)) <|
    again2 (IntKind.wrap .i64 (y1.1 + 1), ())) <|
  L.draw <|
  L.nonnil p0 fun a9 =>
  L.load (.one (.slice)) (a9.add 1) fun (x10 : Sl) =>
  L.nonnil p0 fun a11 =>
  L.load (.one (.int .i64)) (a11.add 0) fun (x12 : Int) =>
  L.ite (decide (((x10.len : Nat) : Int) ≥ x12)) (
    K (.int .i64 8)) <|
  L.nonnil p0 fun a13 =>
  L.load (.one (.slice)) (a13.add 1) fun (x14 : Sl) =>
  L.new [.int .i64 p1, .int .i64 p2] T_damperref8_one fun b15 =>
  L.sem Pr (.one (.one .slice)) (Builtin.append_ #[T_s_damperref8_one, T_s_damperref8_one] T_s_damperref8_one #[.slice x14.a x14.len x14.cap, .slice (some ⟨b15, 0, none⟩) 1 1]) fun (s16 : Sl) =>
  L.nonnil p0 fun a17 =>
  L.store (a17.add 1) [.slice s16.a s16.len s16.cap] <|
  K (.int .i64 0)
theorem D_damperref8_Line_Push (p0 : Option Addr) (p1 : Int) (p2 : Int) (K : Value → PT) : denF Pr Dt Try.f21 A_damperref8_Line_Push [.v (.pointer p0), .v (.int .i64 p1), .v (.int .i64 p2)] K = F_damperref8_Line_Push p0 p1 p2 K := by kernel_rfl
theorem C_damperref8_Line_Push (p0 : Option Addr) (p1 : Int) (p2 : Int) {K : Value → PT} {w : World} (h : F_damperref8_Line_Push p0 p1 p2 K w) : Calls Pr n_damperref8_Line_Push [.pointer p0, .int .i64 p1, .int .i64 p2].toArray w fun e w2 => ∃ v, e = .returned v ∧ K v w2 :=
  denF_ok Tok (f := 21) (fn := Try.f21) (an := A_damperref8_Line_Push) (args := [.v (.pointer p0), .v (.int .i64 p1), .v (.int .i64 p2)]) (by kernel_rfl) (by kernel_rfl) ((congrFun (D_damperref8_Line_Push p0 p1 p2 K) w).mpr h)
theorem E_damperref8_Line_Push : Enters Pr n_damperref8_Line_Push := enters_of_B (by kernel_rfl)

def A_damperref8_Line_Len : Ann := .auto
/-- (*damper/damperref8.Line).Len -/
def F_damperref8_Line_Len (p0 : Option Addr) (K : Value → PT) : PT :=
  L.nonnil p0 fun a1 =>
  L.load (.one (.slice)) (a1.add 1) fun (x2 : Sl) =>
  K (.int .i64 ((x2.len : Nat) : Int))
theorem D_damperref8_Line_Len (p0 : Option Addr) (K : Value → PT) : denF Pr Dt Try.f22 A_damperref8_Line_Len [.v (.pointer p0)] K = F_damperref8_Line_Len p0 K := by kernel_rfl
theorem C_damperref8_Line_Len (p0 : Option Addr) {K : Value → PT} {w : World} (h : F_damperref8_Line_Len p0 K w) : Calls Pr n_damperref8_Line_Len [.pointer p0].toArray w fun e w2 => ∃ v, e = .returned v ∧ K v w2 :=
  denF_ok Tok (f := 22) (fn := Try.f22) (an := A_damperref8_Line_Len) (args := [.v (.pointer p0)]) (by kernel_rfl) (by kernel_rfl) ((congrFun (D_damperref8_Line_Len p0 K) w).mpr h)
theorem E_damperref8_Line_Len : Enters Pr n_damperref8_Line_Len := enters_of_B (by kernel_rfl)

def A_damperref8_Line_All : Ann := (.seq .auto (.seq .auto (.seq (.seq .auto (.one [(3, (.one (.slice))), (4, (.one (.int .i64)))] .auto) none) .auto none) none) none)
/-- (*damper/damperref8.Line).All -/
def F_damperref8_Line_All (p0 : Option Addr) (K : Value → PT) : PT :=
  L.loop (Y := Sl × Int × Unit) (⟨none, 0, 0⟩, 0, ()) fun y1 again2 =>
  L.nonnil p0 fun a3 =>
  L.load (.one (.slice)) (a3.add 1) fun (x4 : Sl) =>
  L.ite (decide (y1.2.1 < ((x4.len : Nat) : Int))) (
    L.nonnil p0 fun a5 =>
    L.load (.one (.slice)) (a5.add 1) fun (x6 : Sl) =>
    L.idx x6.a y1.2.1 x6.len 2 fun a7 =>
    L.load (.one (.int .i64)) (a7.add 0) fun (x8 : Int) =>
    L.new [.int .i64 x8] T_int fun b9 =>
    L.sem Pr (.one (.one .slice)) (Builtin.append_ #[T_s_int, T_s_int] T_s_int #[.slice y1.1.a y1.1.len y1.1.cap, .slice (some ⟨b9, 0, none⟩) 1 1]) fun (s10 : Sl) =>
    again2 (⟨s10.a, s10.len, s10.cap⟩, IntKind.wrap .i64 (y1.2.1 + 1), ())) <|
  K (.slice y1.1.a y1.1.len y1.1.cap)
theorem D_damperref8_Line_All (p0 : Option Addr) (K : Value → PT) : denF Pr Dt Try.f23 A_damperref8_Line_All [.v (.pointer p0)] K = F_damperref8_Line_All p0 K := by kernel_rfl
theorem C_damperref8_Line_All (p0 : Option Addr) {K : Value → PT} {w : World} (h : F_damperref8_Line_All p0 K w) : Calls Pr n_damperref8_Line_All [.pointer p0].toArray w fun e w2 => ∃ v, e = .returned v ∧ K v w2 :=
  denF_ok Tok (f := 23) (fn := Try.f23) (an := A_damperref8_Line_All) (args := [.v (.pointer p0)]) (by kernel_rfl) (by kernel_rfl) ((congrFun (D_damperref8_Line_All p0 K) w).mpr h)
theorem E_damperref8_Line_All : Enters Pr n_damperref8_Line_All := enters_of_B (by kernel_rfl)

def A_wait_row_int_has : Ann := (.seq .auto (.seq (.seq .auto (.seq .auto .auto (some [(8, (.one (.int .i64))), (9, (.one (.int .i64)))])) none) .auto none) none)
/-- (*damper/wait.row[int]).has -/
def F_wait_row_int_has (p0 : Option Addr) (p1 : Int) (K : Value → PT) : PT :=
  L.new [.int .i64 p1] T_int fun b1 =>
  L.new [.bool false] T_bool fun b2 =>
  L.call Pr n_wait_row_int_each [.pointer p0] (.one (.one (.func))) fun (x3 : FV) =>
  L.range Pr none (.func x3.fn x3.fs x3.cs) [(.one (.int .i64)), (.one (.int .i64))] (fun l4 (y5 : Int × Int × Unit) R6 =>
    L.begin Pr l4 <|
    L.load (.one (.int .i64)) (⟨b1, 0, none⟩) fun (x9 : Int) =>
    L.ite (y5.1 == x9) (
      L.store (⟨b2, 0, none⟩) [.bool true] <|
      L.endRound Pr l4 (some .ret) R6) <|
    L.endRound Pr l4 none R6) fun d7 j8 =>
  L.jump j8 (
    L.store (⟨b2, 0, none⟩) [.bool false] <|
    L.unmark Pr (d7 ++ []) <|
    L.load (.one (.bool)) (⟨b2, 0, none⟩) fun (x10 : Bool) =>
    K (.bool x10)) (
    L.unmark Pr (d7 ++ []) <|
    L.load (.one (.bool)) (⟨b2, 0, none⟩) fun (x11 : Bool) =>
    K (.bool x11)) []
theorem D_wait_row_int_has (p0 : Option Addr) (p1 : Int) (K : Value → PT) : denF Pr Dt Try.f24 A_wait_row_int_has [.v (.pointer p0), .v (.int .i64 p1)] K = F_wait_row_int_has p0 p1 K := by kernel_rfl
theorem C_wait_row_int_has (p0 : Option Addr) (p1 : Int) {K : Value → PT} {w : World} (h : F_wait_row_int_has p0 p1 K w) : Calls Pr n_wait_row_int_has [.pointer p0, .int .i64 p1].toArray w fun e w2 => ∃ v, e = .returned v ∧ K v w2 :=
  denF_ok Tok (f := 24) (fn := Try.f24) (an := A_wait_row_int_has) (args := [.v (.pointer p0), .v (.int .i64 p1)]) (by kernel_rfl) (by kernel_rfl) ((congrFun (D_wait_row_int_has p0 p1 K) w).mpr h)
theorem E_wait_row_int_has : Enters Pr n_wait_row_int_has := enters_of_B (by kernel_rfl)

def A_wait_row_int_each : Ann := .auto
/-- (*damper/wait.row[int]).each -/
def F_wait_row_int_each (p0 : Option Addr) (K : Value → PT) : PT :=
  L.new [.pointer p0] T_p_wait_row_int fun b1 =>
  K (.func (.func n_wait_row_int_each_1) #[] #[.pointer (some (⟨b1, 0, none⟩))])
theorem D_wait_row_int_each (p0 : Option Addr) (K : Value → PT) : denF Pr Dt Try.f25 A_wait_row_int_each [.v (.pointer p0)] K = F_wait_row_int_each p0 K := by kernel_rfl
theorem C_wait_row_int_each (p0 : Option Addr) {K : Value → PT} {w : World} (h : F_wait_row_int_each p0 K w) : Calls Pr n_wait_row_int_each [.pointer p0].toArray w fun e w2 => ∃ v, e = .returned v ∧ K v w2 :=
  denF_ok Tok (f := 25) (fn := Try.f25) (an := A_wait_row_int_each) (args := [.v (.pointer p0)]) (by kernel_rfl) (by kernel_rfl) ((congrFun (D_wait_row_int_each p0 K) w).mpr h)
theorem E_wait_row_int_each : Enters Pr n_wait_row_int_each := enters_of_B (by kernel_rfl)

def A_wait_row_int_part : Ann := (.seq .auto (.seq .auto (.seq .auto (.seq (.seq .auto (.seq .auto .auto (some [(11, (.one (.int .i64))), (12, (.one (.int .i64)))])) none) .auto none) none) none) none)
/-- (*damper/wait.row[int]).part -/
def F_wait_row_int_part (p0 : Option Addr) (p1 : Int) (K : Value → PT) : PT :=
  L.new [.int .i64 p1] T_int fun b1 =>
  L.new [.slice none 0 0] T_s_int fun b2 =>
  L.new [.slice none 0 0] T_s_wait_held_int fun b3 =>
  L.call Pr n_wait_row_int_each [.pointer p0] (.one (.one (.func))) fun (x4 : FV) =>
  L.range Pr none (.func x4.fn x4.fs x4.cs) [(.one (.int .i64)), (.one (.int .i64))] (fun l5 (y6 : Int × Int × Unit) R7 =>
    L.begin Pr l5 <|
    L.load (.one (.int .i64)) (⟨b1, 0, none⟩) fun (x10 : Int) =>
    L.ite (decide (y6.2.1 ≤ x10)) (
      L.load (.one (.slice)) (⟨b2, 0, none⟩) fun (x11 : Sl) =>
      L.new [.int .i64 y6.1] T_int fun b12 =>
      L.sem Pr (.one (.one .slice)) (Builtin.append_ #[T_s_int, T_s_int] T_s_int #[.slice x11.a x11.len x11.cap, .slice (some ⟨b12, 0, none⟩) 1 1]) fun (s13 : Sl) =>
      L.store (⟨b2, 0, none⟩) [.slice s13.a s13.len s13.cap] <|
      L.endRound Pr l5 none R7) <|
    L.load (.one (.slice)) (⟨b3, 0, none⟩) fun (x14 : Sl) =>
    L.new [.int .i64 y6.1, .int .i64 y6.2.1] T_wait_held_int fun b15 =>
    L.sem Pr (.one (.one .slice)) (Builtin.append_ #[T_s_wait_held_int, T_s_wait_held_int] T_s_wait_held_int #[.slice x14.a x14.len x14.cap, .slice (some ⟨b15, 0, none⟩) 1 1]) fun (s16 : Sl) =>
    L.store (⟨b3, 0, none⟩) [.slice s16.a s16.len s16.cap] <|
    L.endRound Pr l5 none R7) fun d8 j9 =>
  L.jump j9 (
    L.load (.one (.slice)) (⟨b3, 0, none⟩) fun (x17 : Sl) =>
    L.nonnil p0 fun a18 =>
    L.store (a18.add 0) [.slice x17.a x17.len x17.cap] <|
    L.load (.one (.slice)) (⟨b2, 0, none⟩) fun (x19 : Sl) =>
    L.call Pr n_slices_Clone_int_int [.slice x19.a x19.len x19.cap] (.one (.one (.slice))) fun (x20 : Sl) =>
    L.unmark Pr (d8 ++ []) <|
    K (.slice x20.a x20.len x20.cap)) (
    L.unmark Pr (d8 ++ []) <|
    K (.slice none 0 0)) []
theorem D_wait_row_int_part (p0 : Option Addr) (p1 : Int) (K : Value → PT) : denF Pr Dt Try.f26 A_wait_row_int_part [.v (.pointer p0), .v (.int .i64 p1)] K = F_wait_row_int_part p0 p1 K := by kernel_rfl
theorem C_wait_row_int_part (p0 : Option Addr) (p1 : Int) {K : Value → PT} {w : World} (h : F_wait_row_int_part p0 p1 K w) : Calls Pr n_wait_row_int_part [.pointer p0, .int .i64 p1].toArray w fun e w2 => ∃ v, e = .returned v ∧ K v w2 :=
  denF_ok Tok (f := 26) (fn := Try.f26) (an := A_wait_row_int_part) (args := [.v (.pointer p0), .v (.int .i64 p1)]) (by kernel_rfl) (by kernel_rfl) ((congrFun (D_wait_row_int_part p0 p1 K) w).mpr h)
theorem E_wait_row_int_part : Enters Pr n_wait_row_int_part := enters_of_B (by kernel_rfl)

def A_wait_row_int_each_1 : Ann := (.seq .auto (.one [(10, (.one (.int .i64)))] .auto) none)
/-- (*damper/wait.row[int]).each$1 -/
def F_wait_row_int_each_1 (p0 : FV) (c0 : Addr) (K : Value → PT) : PT :=
  L.load (.one (.ptr)) c0 fun (x1 : Option Addr) =>
  L.nonnil x1 fun a2 =>
  L.load (.one (.slice)) (a2.add 0) fun (x3 : Sl) =>
  L.loop (Y := Int × Unit) (0, ()) fun y4 again5 =>
  L.ite (decide (y4.1 < ((x3.len : Nat) : Int))) (
    L.idx x3.a y4.1 x3.len 2 fun a6 =>
    L.load (.agg [.int .i64, .int .i64]) a6 fun (x7 : Int × Int × Unit) =>
    L.new [.int .i64 0, .int .i64 0] T_wait_held_int fun b8 =>
    L.store (⟨b8, 0, none⟩) [.int .i64 x7.1, .int .i64 x7.2.1] <|
    L.load (.one (.int .i64)) ((⟨b8, 0, none⟩ : Addr).add 0) fun (x9 : Int) =>
    L.load (.one (.int .i64)) ((⟨b8, 0, none⟩ : Addr).add 1) fun (x10 : Int) =>
    L.callV Pr (.func p0.fn p0.fs p0.cs) [.int .i64 x9, .int .i64 x10] (.one (.one (.bool))) fun (x11 : Bool) =>
    L.ite (!x11) (
      K (.tuple #[])) <|
    again5 (IntKind.wrap .i64 (y4.1 + 1), ())) <|
  K (.tuple #[])
theorem D_wait_row_int_each_1 (p0 : FV) (c0 : Addr) (K : Value → PT) : denF Pr Dt Try.f27 A_wait_row_int_each_1 [.v (.func p0.fn p0.fs p0.cs), .v (.pointer (some c0))] K = F_wait_row_int_each_1 p0 c0 K := by kernel_rfl
theorem C_wait_row_int_each_1 (p0 : FV) (c0 : Addr) {K : Value → PT} {w : World} (h : F_wait_row_int_each_1 p0 c0 K w) : Calls Pr n_wait_row_int_each_1 [.func p0.fn p0.fs p0.cs, .pointer (some c0)].toArray w fun e w2 => ∃ v, e = .returned v ∧ K v w2 :=
  denF_ok Tok (f := 27) (fn := Try.f27) (an := A_wait_row_int_each_1) (args := [.v (.func p0.fn p0.fs p0.cs), .v (.pointer (some c0))]) (by kernel_rfl) (by kernel_rfl) ((congrFun (D_wait_row_int_each_1 p0 c0 K) w).mpr h)
theorem E_wait_row_int_each_1 : Enters Pr n_wait_row_int_each_1 := enters_of_B (by kernel_rfl)

def A_slices_Clone_int_int : Ann := .auto
/-- slices.Clone[[]int,int] -/
def F_slices_Clone_int_int (p0 : Sl) (K : Value → PT) : PT :=
  L.ite ((p0.a).isNone) (
    K (.slice none 0 0)) <|
  L.new [] T_int fun b1 =>
  L.sem Pr (.one (.one .slice)) (Builtin.append_ #[T_s_int, T_s_int] T_s_int #[.slice (some ⟨b1, 0, none⟩) 0 0, .slice p0.a p0.len p0.cap]) fun (s2 : Sl) =>
  K (.slice s2.a s2.len s2.cap)
theorem D_slices_Clone_int_int (p0 : Sl) (K : Value → PT) : denF Pr Dt Try.f28 A_slices_Clone_int_int [.v (.slice p0.a p0.len p0.cap)] K = F_slices_Clone_int_int p0 K := by kernel_rfl
theorem C_slices_Clone_int_int (p0 : Sl) {K : Value → PT} {w : World} (h : F_slices_Clone_int_int p0 K w) : Calls Pr n_slices_Clone_int_int [.slice p0.a p0.len p0.cap].toArray w fun e w2 => ∃ v, e = .returned v ∧ K v w2 :=
  denF_ok Tok (f := 28) (fn := Try.f28) (an := A_slices_Clone_int_int) (args := [.v (.slice p0.a p0.len p0.cap)]) (by kernel_rfl) (by kernel_rfl) ((congrFun (D_slices_Clone_int_int p0 K) w).mpr h)
theorem E_slices_Clone_int_int : Enters Pr n_slices_Clone_int_int := enters_of_B (by kernel_rfl)

end Go.Proofs.Ytkccfgdgblkljaa
