/- the functions of the program, read as predicates, each with its contract. No conditions beyond those its theorems state. -/
import Derived.Test.YtlikldnigjnpeaaDen18
import Derived.Test.YtlikldnigjnpeaaProg
set_option maxRecDepth 100000
namespace Go.Proofs.Ytlikldnigjnpeaa
open Go.Dm
noncomputable abbrev Pr : Program := Try.prog
abbrev n_main_main : Nat := 0
abbrev n_gosem_cut : Nat := 1
abbrev n_gosem_cut_init : Nat := 2
abbrev n_damperlaw9_GaugePlays : Nat := 3
abbrev n_damperlaw9_GaugeSums : Nat := 4
abbrev n_damperlaw9_GaugeIdle : Nat := 5
abbrev n_damperlaw9_GaugeKnown : Nat := 6
abbrev n_damperlaw9_GaugeApart : Nat := 7
abbrev n_damperlaw9_GaugeFar : Nat := 8
abbrev n_damperlaw9_known : Nat := 9
abbrev n_gauge_New : Nat := 10
abbrev n_damperlaw9_within : Nat := 11
abbrev n_gauge_Gauge_Add : Nat := 12
abbrev n_damperref9_Gauge_Add : Nat := 13
abbrev n_gauge_Gauge_Last : Nat := 14
abbrev n_damperref9_Gauge_Last : Nat := 15
abbrev n_gauge_Gauge_Idle : Nat := 16
abbrev n_damperref9_Gauge_Idle : Nat := 17
abbrev n_gauge_ring_int_add : Nat := 18
abbrev n_gauge_ring_int_back : Nat := 19
abbrev n_gauge_ring_int_back_1 : Nat := 20
abbrev n_runtime_boundsError_Error : Nat := 21
abbrev n_runtime_boundsError_RuntimeError : Nat := 22
abbrev n_runtime_errorString_Error : Nat := 23
abbrev n_runtime_errorString_RuntimeError : Nat := 24
abbrev n_runtime_plainError_Error : Nat := 25
abbrev n_runtime_plainError_RuntimeError : Nat := 26
abbrev n_runtime_errorAddressString_Error : Nat := 27
abbrev n_runtime_errorAddressString_RuntimeError : Nat := 28
abbrev n_runtime_TypeAssertionError_Error : Nat := 29
abbrev n_runtime_TypeAssertionError_RuntimeError : Nat := 30
abbrev n_runtime_PanicNilError_Error : Nat := 31
abbrev n_runtime_PanicNilError_RuntimeError : Nat := 32
abbrev n_internal_abi_Type_Align : Nat := 33
abbrev n_internal_runtime_maps_unhashableTypeError_Error : Nat := 34
abbrev n_internal_runtime_maps_unhashableTypeError_RuntimeError : Nat := 35
abbrev n_internal_abi_Kind_String : Nat := 36
abbrev T_ : Nat := 0
abbrev T_func : Nat := 1
abbrev T_int64 : Nat := 2
abbrev T_int : Nat := 3
abbrev T_bool : Nat := 4
abbrev T_uint8 : Nat := 5
abbrev T_abi_BoundsErrorCode : Nat := 6
abbrev T_struct_x_int64_y_int_signed_bo_10ef : Nat := 7
abbrev T_runtime_boundsError : Nat := 8
abbrev T_string : Nat := 9
abbrev T_runtime_errorString : Nat := 10
abbrev T_runtime_plainError : Nat := 11
abbrev T_uintptr : Nat := 12
abbrev T_struct_msg_string_addr_uintptr : Nat := 13
abbrev T_runtime_errorAddressString : Nat := 14
abbrev T_p_runtime_TypeAssertionError : Nat := 15
abbrev T_p_runtime_PanicNilError : Nat := 16
abbrev T_p_abi_Type : Nat := 17
abbrev T_struct_typ_p_abi_Type : Nat := 18
abbrev T_maps_unhashableTypeError : Nat := 19
abbrev T_interface : Nat := 20
abbrev T_int32 : Nat := 21
abbrev T_s_int : Nat := 22
abbrev T_func_bool : Nat := 23
abbrev T_p_gauge_Gauge : Nat := 24
abbrev T_func_p_gauge_Gauge : Nat := 25
abbrev T_p_damperref9_Gauge : Nat := 26
abbrev T_struct_L_s_int : Nat := 27
abbrev T_damperref9_Gauge : Nat := 28
abbrev T_func_int_int_int : Nat := 29
abbrev T_func_int : Nat := 30
abbrev T_int_int : Nat := 31
abbrev T_func_int_int_int_1 : Nat := 32
abbrev T_func_int_1 : Nat := 33
abbrev T_func_s_int_int_s_int_bool : Nat := 34
abbrev T_func_s_int_int_bool : Nat := 35
abbrev T_func_s_int_bool : Nat := 36
abbrev T_func_int_bool : Nat := 37
abbrev T_func_s_int_s_int_bool : Nat := 38
abbrev T_func_s_int_s_int_int_bool : Nat := 39
abbrev T_60_int : Nat := 40
abbrev T_struct_l_60_int_n_int : Nat := 41
abbrev T_gauge_ring_int : Nat := 42
abbrev T_struct_ring_gauge_ring_int_idle_int : Nat := 43
abbrev T_gauge_Gauge : Nat := 44
abbrev T_func_func_int_bool : Nat := 45
abbrev T_iter_Seq_int : Nat := 46
abbrev T_func_iter_Seq_int : Nat := 47
abbrev T_p_gauge_ring_int : Nat := 48
abbrev T_func_string : Nat := 49
abbrev T_struct__interface_p_abi_Type_c_b8d5 : Nat := 50
abbrev T_runtime_TypeAssertionError : Nat := 51
abbrev T_0_p_runtime_PanicNilError : Nat := 52
abbrev T_struct___0_p_runtime_PanicNilError : Nat := 53
abbrev T_runtime_PanicNilError : Nat := 54
abbrev T_uint32 : Nat := 55
abbrev T_abi_TFlag : Nat := 56
abbrev T_abi_Kind : Nat := 57
abbrev T_func_unsafe_Pointer_unsafe_Pointer_bool : Nat := 58
abbrev T_p_uint8 : Nat := 59
abbrev T_abi_NameOff : Nat := 60
abbrev T_abi_TypeOff : Nat := 61
abbrev T_struct_Size__uintptr_PtrBytes__b10b : Nat := 62
abbrev T_abi_Type : Nat := 63
abbrev T_unsafe_Pointer : Nat := 64
def s_ : ByteArray := ⟨#[]⟩
def ti_0 : TI := ⟨.tuple [], 1, none, none⟩
def ti_1 : TI := ⟨.func, 1, some (.one (.func)), some [.nilFunc]⟩
def ti_2 : TI := ⟨.int .i64, 1, some (.one (.int .i64)), some [.int .i64 0]⟩
def ti_3 : TI := ⟨.int .i64, 1, some (.one (.int .i64)), some [.int .i64 0]⟩
def ti_4 : TI := ⟨.bool, 1, some (.one (.bool)), some [.bool false]⟩
def ti_5 : TI := ⟨.int .u8, 1, some (.one (.int .u8)), some [.int .u8 0]⟩
def ti_6 : TI := ⟨.int .u8, 1, some (.one (.int .u8)), some [.int .u8 0]⟩
def ti_7 : TI := ⟨.struct [(2, 0), (3, 1), (4, 2), (6, 3)], 4, some (.agg [.int .i64, .int .i64, .bool, .int .u8]), some [.int .i64 0, .int .i64 0, .bool false, .int .u8 0]⟩
def ti_8 : TI := ⟨.struct [(2, 0), (3, 1), (4, 2), (6, 3)], 4, some (.agg [.int .i64, .int .i64, .bool, .int .u8]), some [.int .i64 0, .int .i64 0, .bool false, .int .u8 0]⟩
def ti_9 : TI := ⟨.str, 1, some (.one (.str)), some [.string s_]⟩
def ti_10 : TI := ⟨.str, 1, some (.one (.str)), some [.string s_]⟩
def ti_11 : TI := ⟨.str, 1, some (.one (.str)), some [.string s_]⟩
def ti_12 : TI := ⟨.int .u64, 1, some (.one (.int .u64)), some [.int .u64 0]⟩
def ti_13 : TI := ⟨.struct [(9, 0), (12, 1)], 2, some (.agg [.str, .int .u64]), some [.string s_, .int .u64 0]⟩
def ti_14 : TI := ⟨.struct [(9, 0), (12, 1)], 2, some (.agg [.str, .int .u64]), some [.string s_, .int .u64 0]⟩
def ti_15 : TI := ⟨.ptr, 1, some (.one (.ptr)), some [.pointer none]⟩
def ti_16 : TI := ⟨.ptr, 1, some (.one (.ptr)), some [.pointer none]⟩
def ti_17 : TI := ⟨.ptr, 1, some (.one (.ptr)), some [.pointer none]⟩
def ti_18 : TI := ⟨.struct [(17, 0)], 1, some (.agg [.ptr]), some [.pointer none]⟩
def ti_19 : TI := ⟨.struct [(17, 0)], 1, some (.agg [.ptr]), some [.pointer none]⟩
def ti_20 : TI := ⟨.iface, 1, some (.one (.iface)), some [.nilIface]⟩
def ti_21 : TI := ⟨.int .i32, 1, some (.one (.int .i32)), some [.int .i32 0]⟩
def ti_22 : TI := ⟨.slice 3, 1, some (.one (.slice)), some [.slice none 0 0]⟩
def ti_23 : TI := ⟨.func, 1, some (.one (.func)), some [.nilFunc]⟩
def ti_24 : TI := ⟨.ptr, 1, some (.one (.ptr)), some [.pointer none]⟩
def ti_25 : TI := ⟨.func, 1, some (.one (.func)), some [.nilFunc]⟩
def ti_26 : TI := ⟨.ptr, 1, some (.one (.ptr)), some [.pointer none]⟩
def ti_27 : TI := ⟨.struct [(22, 0)], 1, some (.agg [.slice]), some [.slice none 0 0]⟩
def ti_28 : TI := ⟨.struct [(22, 0)], 1, some (.agg [.slice]), some [.slice none 0 0]⟩
def ti_29 : TI := ⟨.func, 1, some (.one (.func)), some [.nilFunc]⟩
def ti_30 : TI := ⟨.func, 1, some (.one (.func)), some [.nilFunc]⟩
def ti_31 : TI := ⟨.tuple [3, 3], 1, none, none⟩
def ti_32 : TI := ⟨.func, 1, some (.one (.func)), some [.nilFunc]⟩
def ti_33 : TI := ⟨.func, 1, some (.one (.func)), some [.nilFunc]⟩
def ti_34 : TI := ⟨.func, 1, some (.one (.func)), some [.nilFunc]⟩
def ti_35 : TI := ⟨.func, 1, some (.one (.func)), some [.nilFunc]⟩
def ti_36 : TI := ⟨.func, 1, some (.one (.func)), some [.nilFunc]⟩
def ti_37 : TI := ⟨.func, 1, some (.one (.func)), some [.nilFunc]⟩
def ti_38 : TI := ⟨.func, 1, some (.one (.func)), some [.nilFunc]⟩
def ti_39 : TI := ⟨.func, 1, some (.one (.func)), some [.nilFunc]⟩
def ti_40 : TI := ⟨.arr 60 3, 60, some (.agg [.int .i64, .int .i64, .int .i64, .int .i64, .int .i64, .int .i64, .int .i64, .int .i64, .int .i64, .int .i64, .int .i64, .int .i64, .int .i64, .int .i64, .int .i64, .int .i64, .int .i64, .int .i64, .int .i64, .int .i64, .int .i64, .int .i64, .int .i64, .int .i64, .int .i64, .int .i64, .int .i64, .int .i64, .int .i64, .int .i64, .int .i64, .int .i64, .int .i64, .int .i64, .int .i64, .int .i64, .int .i64, .int .i64, .int .i64, .int .i64, .int .i64, .int .i64, .int .i64, .int .i64, .int .i64, .int .i64, .int .i64, .int .i64, .int .i64, .int .i64, .int .i64, .int .i64, .int .i64, .int .i64, .int .i64, .int .i64, .int .i64, .int .i64, .int .i64, .int .i64]), some [.int .i64 0, .int .i64 0, .int .i64 0, .int .i64 0, .int .i64 0, .int .i64 0, .int .i64 0, .int .i64 0, .int .i64 0, .int .i64 0, .int .i64 0, .int .i64 0, .int .i64 0, .int .i64 0, .int .i64 0, .int .i64 0, .int .i64 0, .int .i64 0, .int .i64 0, .int .i64 0, .int .i64 0, .int .i64 0, .int .i64 0, .int .i64 0, .int .i64 0, .int .i64 0, .int .i64 0, .int .i64 0, .int .i64 0, .int .i64 0, .int .i64 0, .int .i64 0, .int .i64 0, .int .i64 0, .int .i64 0, .int .i64 0, .int .i64 0, .int .i64 0, .int .i64 0, .int .i64 0, .int .i64 0, .int .i64 0, .int .i64 0, .int .i64 0, .int .i64 0, .int .i64 0, .int .i64 0, .int .i64 0, .int .i64 0, .int .i64 0, .int .i64 0, .int .i64 0, .int .i64 0, .int .i64 0, .int .i64 0, .int .i64 0, .int .i64 0, .int .i64 0, .int .i64 0, .int .i64 0]⟩
def ti_41 : TI := ⟨.struct [(40, 0), (3, 60)], 61, some (.agg [.int .i64, .int .i64, .int .i64, .int .i64, .int .i64, .int .i64, .int .i64, .int .i64, .int .i64, .int .i64, .int .i64, .int .i64, .int .i64, .int .i64, .int .i64, .int .i64, .int .i64, .int .i64, .int .i64, .int .i64, .int .i64, .int .i64, .int .i64, .int .i64, .int .i64, .int .i64, .int .i64, .int .i64, .int .i64, .int .i64, .int .i64, .int .i64, .int .i64, .int .i64, .int .i64, .int .i64, .int .i64, .int .i64, .int .i64, .int .i64, .int .i64, .int .i64, .int .i64, .int .i64, .int .i64, .int .i64, .int .i64, .int .i64, .int .i64, .int .i64, .int .i64, .int .i64, .int .i64, .int .i64, .int .i64, .int .i64, .int .i64, .int .i64, .int .i64, .int .i64, .int .i64]), some [.int .i64 0, .int .i64 0, .int .i64 0, .int .i64 0, .int .i64 0, .int .i64 0, .int .i64 0, .int .i64 0, .int .i64 0, .int .i64 0, .int .i64 0, .int .i64 0, .int .i64 0, .int .i64 0, .int .i64 0, .int .i64 0, .int .i64 0, .int .i64 0, .int .i64 0, .int .i64 0, .int .i64 0, .int .i64 0, .int .i64 0, .int .i64 0, .int .i64 0, .int .i64 0, .int .i64 0, .int .i64 0, .int .i64 0, .int .i64 0, .int .i64 0, .int .i64 0, .int .i64 0, .int .i64 0, .int .i64 0, .int .i64 0, .int .i64 0, .int .i64 0, .int .i64 0, .int .i64 0, .int .i64 0, .int .i64 0, .int .i64 0, .int .i64 0, .int .i64 0, .int .i64 0, .int .i64 0, .int .i64 0, .int .i64 0, .int .i64 0, .int .i64 0, .int .i64 0, .int .i64 0, .int .i64 0, .int .i64 0, .int .i64 0, .int .i64 0, .int .i64 0, .int .i64 0, .int .i64 0, .int .i64 0]⟩
def ti_42 : TI := ⟨.struct [(40, 0), (3, 60)], 61, some (.agg [.int .i64, .int .i64, .int .i64, .int .i64, .int .i64, .int .i64, .int .i64, .int .i64, .int .i64, .int .i64, .int .i64, .int .i64, .int .i64, .int .i64, .int .i64, .int .i64, .int .i64, .int .i64, .int .i64, .int .i64, .int .i64, .int .i64, .int .i64, .int .i64, .int .i64, .int .i64, .int .i64, .int .i64, .int .i64, .int .i64, .int .i64, .int .i64, .int .i64, .int .i64, .int .i64, .int .i64, .int .i64, .int .i64, .int .i64, .int .i64, .int .i64, .int .i64, .int .i64, .int .i64, .int .i64, .int .i64, .int .i64, .int .i64, .int .i64, .int .i64, .int .i64, .int .i64, .int .i64, .int .i64, .int .i64, .int .i64, .int .i64, .int .i64, .int .i64, .int .i64, .int .i64]), some [.int .i64 0, .int .i64 0, .int .i64 0, .int .i64 0, .int .i64 0, .int .i64 0, .int .i64 0, .int .i64 0, .int .i64 0, .int .i64 0, .int .i64 0, .int .i64 0, .int .i64 0, .int .i64 0, .int .i64 0, .int .i64 0, .int .i64 0, .int .i64 0, .int .i64 0, .int .i64 0, .int .i64 0, .int .i64 0, .int .i64 0, .int .i64 0, .int .i64 0, .int .i64 0, .int .i64 0, .int .i64 0, .int .i64 0, .int .i64 0, .int .i64 0, .int .i64 0, .int .i64 0, .int .i64 0, .int .i64 0, .int .i64 0, .int .i64 0, .int .i64 0, .int .i64 0, .int .i64 0, .int .i64 0, .int .i64 0, .int .i64 0, .int .i64 0, .int .i64 0, .int .i64 0, .int .i64 0, .int .i64 0, .int .i64 0, .int .i64 0, .int .i64 0, .int .i64 0, .int .i64 0, .int .i64 0, .int .i64 0, .int .i64 0, .int .i64 0, .int .i64 0, .int .i64 0, .int .i64 0, .int .i64 0]⟩
def ti_43 : TI := ⟨.struct [(42, 0), (3, 61)], 62, some (.agg [.int .i64, .int .i64, .int .i64, .int .i64, .int .i64, .int .i64, .int .i64, .int .i64, .int .i64, .int .i64, .int .i64, .int .i64, .int .i64, .int .i64, .int .i64, .int .i64, .int .i64, .int .i64, .int .i64, .int .i64, .int .i64, .int .i64, .int .i64, .int .i64, .int .i64, .int .i64, .int .i64, .int .i64, .int .i64, .int .i64, .int .i64, .int .i64, .int .i64, .int .i64, .int .i64, .int .i64, .int .i64, .int .i64, .int .i64, .int .i64, .int .i64, .int .i64, .int .i64, .int .i64, .int .i64, .int .i64, .int .i64, .int .i64, .int .i64, .int .i64, .int .i64, .int .i64, .int .i64, .int .i64, .int .i64, .int .i64, .int .i64, .int .i64, .int .i64, .int .i64, .int .i64, .int .i64]), some [.int .i64 0, .int .i64 0, .int .i64 0, .int .i64 0, .int .i64 0, .int .i64 0, .int .i64 0, .int .i64 0, .int .i64 0, .int .i64 0, .int .i64 0, .int .i64 0, .int .i64 0, .int .i64 0, .int .i64 0, .int .i64 0, .int .i64 0, .int .i64 0, .int .i64 0, .int .i64 0, .int .i64 0, .int .i64 0, .int .i64 0, .int .i64 0, .int .i64 0, .int .i64 0, .int .i64 0, .int .i64 0, .int .i64 0, .int .i64 0, .int .i64 0, .int .i64 0, .int .i64 0, .int .i64 0, .int .i64 0, .int .i64 0, .int .i64 0, .int .i64 0, .int .i64 0, .int .i64 0, .int .i64 0, .int .i64 0, .int .i64 0, .int .i64 0, .int .i64 0, .int .i64 0, .int .i64 0, .int .i64 0, .int .i64 0, .int .i64 0, .int .i64 0, .int .i64 0, .int .i64 0, .int .i64 0, .int .i64 0, .int .i64 0, .int .i64 0, .int .i64 0, .int .i64 0, .int .i64 0, .int .i64 0, .int .i64 0]⟩
def ti_44 : TI := ⟨.struct [(42, 0), (3, 61)], 62, some (.agg [.int .i64, .int .i64, .int .i64, .int .i64, .int .i64, .int .i64, .int .i64, .int .i64, .int .i64, .int .i64, .int .i64, .int .i64, .int .i64, .int .i64, .int .i64, .int .i64, .int .i64, .int .i64, .int .i64, .int .i64, .int .i64, .int .i64, .int .i64, .int .i64, .int .i64, .int .i64, .int .i64, .int .i64, .int .i64, .int .i64, .int .i64, .int .i64, .int .i64, .int .i64, .int .i64, .int .i64, .int .i64, .int .i64, .int .i64, .int .i64, .int .i64, .int .i64, .int .i64, .int .i64, .int .i64, .int .i64, .int .i64, .int .i64, .int .i64, .int .i64, .int .i64, .int .i64, .int .i64, .int .i64, .int .i64, .int .i64, .int .i64, .int .i64, .int .i64, .int .i64, .int .i64, .int .i64]), some [.int .i64 0, .int .i64 0, .int .i64 0, .int .i64 0, .int .i64 0, .int .i64 0, .int .i64 0, .int .i64 0, .int .i64 0, .int .i64 0, .int .i64 0, .int .i64 0, .int .i64 0, .int .i64 0, .int .i64 0, .int .i64 0, .int .i64 0, .int .i64 0, .int .i64 0, .int .i64 0, .int .i64 0, .int .i64 0, .int .i64 0, .int .i64 0, .int .i64 0, .int .i64 0, .int .i64 0, .int .i64 0, .int .i64 0, .int .i64 0, .int .i64 0, .int .i64 0, .int .i64 0, .int .i64 0, .int .i64 0, .int .i64 0, .int .i64 0, .int .i64 0, .int .i64 0, .int .i64 0, .int .i64 0, .int .i64 0, .int .i64 0, .int .i64 0, .int .i64 0, .int .i64 0, .int .i64 0, .int .i64 0, .int .i64 0, .int .i64 0, .int .i64 0, .int .i64 0, .int .i64 0, .int .i64 0, .int .i64 0, .int .i64 0, .int .i64 0, .int .i64 0, .int .i64 0, .int .i64 0, .int .i64 0, .int .i64 0]⟩
def ti_45 : TI := ⟨.func, 1, some (.one (.func)), some [.nilFunc]⟩
def ti_46 : TI := ⟨.func, 1, some (.one (.func)), some [.nilFunc]⟩
def ti_47 : TI := ⟨.func, 1, some (.one (.func)), some [.nilFunc]⟩
def ti_48 : TI := ⟨.ptr, 1, some (.one (.ptr)), some [.pointer none]⟩
def ti_49 : TI := ⟨.func, 1, some (.one (.func)), some [.nilFunc]⟩
def ti_50 : TI := ⟨.struct [(17, 0), (17, 1), (17, 2), (9, 3)], 4, some (.agg [.ptr, .ptr, .ptr, .str]), some [.pointer none, .pointer none, .pointer none, .string s_]⟩
def ti_51 : TI := ⟨.struct [(17, 0), (17, 1), (17, 2), (9, 3)], 4, some (.agg [.ptr, .ptr, .ptr, .str]), some [.pointer none, .pointer none, .pointer none, .string s_]⟩
def ti_52 : TI := ⟨.arr 0 16, 0, some (.agg []), some []⟩
def ti_53 : TI := ⟨.struct [(52, 0)], 0, some (.agg []), some []⟩
def ti_54 : TI := ⟨.struct [(52, 0)], 0, some (.agg []), some []⟩
def ti_55 : TI := ⟨.int .u32, 1, some (.one (.int .u32)), some [.int .u32 0]⟩
def ti_56 : TI := ⟨.int .u8, 1, some (.one (.int .u8)), some [.int .u8 0]⟩
def ti_57 : TI := ⟨.int .u8, 1, some (.one (.int .u8)), some [.int .u8 0]⟩
def ti_58 : TI := ⟨.func, 1, some (.one (.func)), some [.nilFunc]⟩
def ti_59 : TI := ⟨.ptr, 1, some (.one (.ptr)), some [.pointer none]⟩
def ti_60 : TI := ⟨.int .i32, 1, some (.one (.int .i32)), some [.int .i32 0]⟩
def ti_61 : TI := ⟨.int .i32, 1, some (.one (.int .i32)), some [.int .i32 0]⟩
def ti_62 : TI := ⟨.struct [(12, 0), (12, 1), (55, 2), (56, 3), (5, 4), (5, 5), (57, 6), (58, 7), (59, 8), (60, 9), (61, 10)], 11, some (.agg [.int .u64, .int .u64, .int .u32, .int .u8, .int .u8, .int .u8, .int .u8, .func, .ptr, .int .i32, .int .i32]), some [.int .u64 0, .int .u64 0, .int .u32 0, .int .u8 0, .int .u8 0, .int .u8 0, .int .u8 0, .nilFunc, .pointer none, .int .i32 0, .int .i32 0]⟩
def ti_63 : TI := ⟨.struct [(12, 0), (12, 1), (55, 2), (56, 3), (5, 4), (5, 5), (57, 6), (58, 7), (59, 8), (60, 9), (61, 10)], 11, some (.agg [.int .u64, .int .u64, .int .u32, .int .u8, .int .u8, .int .u8, .int .u8, .func, .ptr, .int .i32, .int .i32]), some [.int .u64 0, .int .u64 0, .int .u32 0, .int .u8 0, .int .u8 0, .int .u8 0, .int .u8 0, .nilFunc, .pointer none, .int .i32 0, .int .i32 0]⟩
def ti_64 : TI := ⟨.other, 1, none, none⟩
def fi_0 : Option RT := none
def fi_1 : Option RT := none
def fi_2 : Option RT := some (.tup [])
def fi_3 : Option RT := some (.one (.one (.bool)))
def fi_4 : Option RT := some (.one (.one (.bool)))
def fi_5 : Option RT := some (.one (.one (.bool)))
def fi_6 : Option RT := some (.one (.one (.bool)))
def fi_7 : Option RT := some (.one (.one (.bool)))
def fi_8 : Option RT := some (.one (.one (.bool)))
def fi_9 : Option RT := some (.one (.one (.bool)))
def fi_10 : Option RT := some (.one (.one (.ptr)))
def fi_11 : Option RT := some (.one (.one (.int .i64)))
def fi_12 : Option RT := some (.tup [])
def fi_13 : Option RT := some (.tup [])
def fi_14 : Option RT := some (.tup [(.one (.int .i64)), (.one (.int .i64))])
def fi_15 : Option RT := some (.tup [(.one (.int .i64)), (.one (.int .i64))])
def fi_16 : Option RT := some (.one (.one (.int .i64)))
def fi_17 : Option RT := some (.one (.one (.int .i64)))
def fi_18 : Option RT := some (.tup [])
def fi_19 : Option RT := some (.one (.one (.func)))
def fi_20 : Option RT := some (.tup [])
def fi_21 : Option RT := none
def fi_22 : Option RT := none
def fi_23 : Option RT := none
def fi_24 : Option RT := none
def fi_25 : Option RT := none
def fi_26 : Option RT := none
def fi_27 : Option RT := none
def fi_28 : Option RT := none
def fi_29 : Option RT := none
def fi_30 : Option RT := none
def fi_31 : Option RT := none
def fi_32 : Option RT := none
def fi_33 : Option RT := none
def fi_34 : Option RT := none
def fi_35 : Option RT := none
def fi_36 : Option RT := none
def Dt : Tb := ⟨65, 37, (.node ti_0 (.node ti_1 (.node ti_3 (.node ti_7 (.node ti_15 (.node ti_31 (.node ti_63 .nil .nil) .nil) (.node ti_47 .nil .nil)) (.node ti_23 (.node ti_39 .nil .nil) (.node ti_55 .nil .nil))) (.node ti_11 (.node ti_19 (.node ti_35 .nil .nil) (.node ti_51 .nil .nil)) (.node ti_27 (.node ti_43 .nil .nil) (.node ti_59 .nil .nil)))) (.node ti_5 (.node ti_9 (.node ti_17 (.node ti_33 .nil .nil) (.node ti_49 .nil .nil)) (.node ti_25 (.node ti_41 .nil .nil) (.node ti_57 .nil .nil))) (.node ti_13 (.node ti_21 (.node ti_37 .nil .nil) (.node ti_53 .nil .nil)) (.node ti_29 (.node ti_45 .nil .nil) (.node ti_61 .nil .nil))))) (.node ti_2 (.node ti_4 (.node ti_8 (.node ti_16 (.node ti_32 (.node ti_64 .nil .nil) .nil) (.node ti_48 .nil .nil)) (.node ti_24 (.node ti_40 .nil .nil) (.node ti_56 .nil .nil))) (.node ti_12 (.node ti_20 (.node ti_36 .nil .nil) (.node ti_52 .nil .nil)) (.node ti_28 (.node ti_44 .nil .nil) (.node ti_60 .nil .nil)))) (.node ti_6 (.node ti_10 (.node ti_18 (.node ti_34 .nil .nil) (.node ti_50 .nil .nil)) (.node ti_26 (.node ti_42 .nil .nil) (.node ti_58 .nil .nil))) (.node ti_14 (.node ti_22 (.node ti_38 .nil .nil) (.node ti_54 .nil .nil)) (.node ti_30 (.node ti_46 .nil .nil) (.node ti_62 .nil .nil)))))), (.node fi_0 (.node fi_1 (.node fi_3 (.node fi_7 (.node fi_15 (.node fi_31 .nil .nil) .nil) (.node fi_23 .nil .nil)) (.node fi_11 (.node fi_19 (.node fi_35 .nil .nil) .nil) (.node fi_27 .nil .nil))) (.node fi_5 (.node fi_9 (.node fi_17 (.node fi_33 .nil .nil) .nil) (.node fi_25 .nil .nil)) (.node fi_13 (.node fi_21 .nil .nil) (.node fi_29 .nil .nil)))) (.node fi_2 (.node fi_4 (.node fi_8 (.node fi_16 (.node fi_32 .nil .nil) .nil) (.node fi_24 .nil .nil)) (.node fi_12 (.node fi_20 (.node fi_36 .nil .nil) .nil) (.node fi_28 .nil .nil))) (.node fi_6 (.node fi_10 (.node fi_18 (.node fi_34 .nil .nil) .nil) (.node fi_26 .nil .nil)) (.node fi_14 (.node fi_22 .nil .nil) (.node fi_30 .nil .nil)))))⟩
theorem Tok : TbOk Pr Dt := tbOk_of (by kernel_rfl) (by kernel_rfl) (by kernel_rfl)

def A_damperlaw9_GaugePlays : Ann := (.seq .auto (.seq .auto (.seq .auto (.seq .auto (.seq (.seq .auto (.one [(9, (.one (.int .i64)))] (.seq (.seq .auto (.cond .auto .auto) none) (.seq (.seq .auto (.seq .auto (.seq .auto (.seq .auto (.seq .auto (.seq .auto (.seq (.seq .auto (.one [(12, (.one (.int .i64)))] .auto) none) .auto none) (some [(11, (.one (.slice)))])) none) none) none) (some [(10, (.one (.int .i64)))])) none) .auto none) none)) none) .auto (some [])) none) none) none) none)
/-- damper/damperlaw9.GaugePlays -/
def F_damperlaw9_GaugePlays (p0 : Sl) (p1 : Int) (p2 : Sl) (K : Value → PT) : PT :=
  L.call Pr n_damperlaw9_known [] (.one (.one (.bool))) fun x1 =>
  L.ite (!x1) (
    K (.bool false)) <|
  L.call Pr n_gauge_New [] (.one (.one (.ptr))) fun x2 =>
  L.new [.slice none 0 0] T_damperref9_Gauge fun b3 =>
  L.ite ((x2).isNone) (
    K (.bool false)) <|
  L.join (Y := TJ []) (fun k4 =>
    L.loop (Y := TJ [(9, (.one (.int .i64)))]) (0, ()) fun y6 again7 =>
    L.ite (decide (y6.1 < ((p0.len : Nat) : Int))) (
      L.ite (decide (y6.1 < 90)) (
        L.idx p0.a y6.1 p0.len 1 fun a8 =>
        L.load (.one (.int .i64)) a8 fun x9 =>
        L.call Pr n_damperlaw9_within [.int .i64 x9, .int .i64 40] (.one (.one (.int .i64))) fun x10 =>
        L.join (Y := TJ [(10, (.one (.int .i64)))]) (fun k11 =>
          L.idx p0.a y6.1 p0.len 1 fun a13 =>
          L.load (.one (.int .i64)) a13 fun x14 =>
          L.guard (40 ≠ (0 : Int)) <|
          L.call Pr n_damperlaw9_within [.int .i64 (IntKind.wrap .i64 (Int.tdiv x14 40)), .int .i64 3] (.one (.one (.int .i64))) fun x15 =>
          L.ite (x15 == 0) (
            k11 (0, ())) <|
          k11 (IntKind.wrap .i64 (x10 - 5), ())) fun z12 =>
        L.call Pr n_gauge_Gauge_Add [.pointer x2, .int .i64 z12.1] (.tup []) fun x16 =>
        L.call Pr n_damperref9_Gauge_Add [.pointer (some (⟨b3, 0, none⟩)), .int .i64 z12.1] (.tup []) fun x17 =>
        L.new [.int .i64 1, .int .i64 2, .int .i64 6, .int .i64 60, .int .i64 61, .int .i64 y6.1, .int .i64 (IntKind.wrap .i64 (y6.1 + 1)), .int .i64 p1, .int .i64 0, .int .i64 (-1), .int .i64 9223372036854775807, .int .i64 (-9223372036854775808)] T_int fun b18 =>
        L.join (Y := TJ [(11, (.one (.slice)))]) (fun k19 =>
          L.ite (decide (y6.1 < ((p2.len : Nat) : Int))) (
            L.idx p2.a y6.1 p2.len 1 fun a21 =>
            L.load (.one (.int .i64)) a21 fun x22 =>
            L.call Pr n_damperlaw9_within [.int .i64 x22, .int .i64 70] (.one (.one (.int .i64))) fun x23 =>
            L.new [.int .i64 x23] T_int fun b24 =>
            L.sem Pr (.one (.one .slice)) (Builtin.append_ #[T_s_int, T_s_int] T_s_int #[.slice (some ⟨b18, 0, none⟩) 12 12, .slice (some ⟨b24, 0, none⟩) 1 1]) fun s25 =>
            k19 (⟨s25.a, s25.len, s25.cap⟩, ())) <|
          k19 (⟨some ⟨b18, 0, none⟩, 12, 12⟩, ())) fun z20 =>
        L.loop (Y := TJ [(12, (.one (.int .i64)))]) (0, ()) fun y26 again27 =>
        L.ite (decide (y26.1 < ((z20.1.len : Nat) : Int))) (
          L.idx z20.1.a y26.1 z20.1.len 1 fun a28 =>
          L.load (.one (.int .i64)) a28 fun x29 =>
          L.call Pr n_gauge_Gauge_Last [.pointer x2, .int .i64 x29] (.tup [(.one (.int .i64)), (.one (.int .i64))]) fun x30 =>
          L.idx z20.1.a y26.1 z20.1.len 1 fun a31 =>
          L.load (.one (.int .i64)) a31 fun x32 =>
          L.call Pr n_damperref9_Gauge_Last [.pointer (some (⟨b3, 0, none⟩)), .int .i64 x32] (.tup [(.one (.int .i64)), (.one (.int .i64))]) fun x33 =>
          L.ite (x30.1 != x33.1) (
            K (.bool false)) <|
          L.ite (x30.2.1 != x33.2.1) (
            K (.bool false)) <|
          again27 (IntKind.wrap .i64 (y26.1 + 1), ())) <|
        L.call Pr n_gauge_Gauge_Idle [.pointer x2] (.one (.one (.int .i64))) fun x34 =>
        L.call Pr n_damperref9_Gauge_Idle [.pointer (some (⟨b3, 0, none⟩))] (.one (.one (.int .i64))) fun x35 =>
        L.ite (x34 != x35) (
          K (.bool false)) <|
        again7 (IntKind.wrap .i64 (y6.1 + 1), ())) <|
      k4 (())) <|
    k4 (())) fun z5 =>
  K (.bool true)
theorem D_damperlaw9_GaugePlays (p0 : Sl) (p1 : Int) (p2 : Sl) (K : Value → PT) : denF Pr Dt Try.f3 A_damperlaw9_GaugePlays [.v (.slice p0.a p0.len p0.cap), .v (.int .i64 p1), .v (.slice p2.a p2.len p2.cap)] K = F_damperlaw9_GaugePlays p0 p1 p2 K := by kernel_rfl
theorem C_damperlaw9_GaugePlays (p0 : Sl) (p1 : Int) (p2 : Sl) {K : Value → PT} {w : World} (h : F_damperlaw9_GaugePlays p0 p1 p2 K w) : Calls Pr n_damperlaw9_GaugePlays [.slice p0.a p0.len p0.cap, .int .i64 p1, .slice p2.a p2.len p2.cap].toArray w fun e w2 => ∃ v, e = .returned v ∧ K v w2 :=
  denF_ok Tok (f := 3) (fn := Try.f3) (an := A_damperlaw9_GaugePlays) (args := [.v (.slice p0.a p0.len p0.cap), .v (.int .i64 p1), .v (.slice p2.a p2.len p2.cap)]) (by kernel_rfl) (by kernel_rfl) ((congrFun (D_damperlaw9_GaugePlays p0 p1 p2 K) w).mpr h)
theorem E_damperlaw9_GaugePlays : Enters Pr n_damperlaw9_GaugePlays := enters_of_B (by kernel_rfl)

def A_damperlaw9_GaugeSums : Ann := (.seq .auto (.seq .auto (.seq .auto (.seq .auto (.seq .auto (.seq (.seq .auto (.one [(7, (.one (.int .i64)))] .auto) none) (.seq .auto (.seq .auto (.seq .auto (.seq .auto (.seq .auto (.seq .auto (.seq .auto (.seq (.seq .auto (.one [(16, (.one (.int .i64))), (17, (.one (.int .i64)))] .auto) none) .auto none) none) none) (some [(13, (.one (.int .i64)))])) none) none) none) none) none) none) none) none) none) none)
/-- damper/damperlaw9.GaugeSums -/
def F_damperlaw9_GaugeSums (p0 : Sl) (p1 : Int) (K : Value → PT) : PT :=
  L.call Pr n_damperlaw9_known [] (.one (.one (.bool))) fun x1 =>
  L.ite (!x1) (
    K (.bool false)) <|
  L.call Pr n_gauge_New [] (.one (.one (.ptr))) fun x2 =>
  L.ite ((x2).isNone) (
    K (.bool false)) <|
  L.loop (Y := TJ [(7, (.one (.int .i64)))]) (0, ()) fun y3 again4 =>
  L.ite (decide (y3.1 < (if 55 < ((p0.len : Nat) : Int) then 55 else ((p0.len : Nat) : Int)))) (
    L.idx p0.a y3.1 p0.len 1 fun a5 =>
    L.load (.one (.int .i64)) a5 fun x6 =>
    L.call Pr n_damperlaw9_within [.int .i64 x6, .int .i64 1000] (.one (.one (.int .i64))) fun x7 =>
    L.call Pr n_gauge_Gauge_Add [.pointer x2, .int .i64 x7] (.tup []) fun x8 =>
    again4 (IntKind.wrap .i64 (y3.1 + 1), ())) <|
  L.call Pr n_damperlaw9_within [.int .i64 p1, .int .i64 60] (.one (.one (.int .i64))) fun x9 =>
  L.call Pr n_gauge_Gauge_Last [.pointer x2, .int .i64 (IntKind.wrap .i64 (1 + x9))] (.tup [(.one (.int .i64)), (.one (.int .i64))]) fun x10 =>
  L.call Pr n_gauge_Gauge_Last [.pointer x2, .int .i64 (IntKind.wrap .i64 ((IntKind.wrap .i64 (1 + x9)) - 1))] (.tup [(.one (.int .i64)), (.one (.int .i64))]) fun x11 =>
  L.join (Y := TJ [(13, (.one (.int .i64)))]) (fun k12 =>
    L.ite (decide ((IntKind.wrap .i64 (1 + x9)) ≤ (if 55 < ((p0.len : Nat) : Int) then 55 else ((p0.len : Nat) : Int)))) (
      L.idx p0.a (IntKind.wrap .i64 ((if 55 < ((p0.len : Nat) : Int) then 55 else ((p0.len : Nat) : Int)) - (IntKind.wrap .i64 (1 + x9)))) p0.len 1 fun a14 =>
      L.load (.one (.int .i64)) a14 fun x15 =>
      L.call Pr n_damperlaw9_within [.int .i64 x15, .int .i64 1000] (.one (.one (.int .i64))) fun x16 =>
      k12 (x16, ())) <|
    k12 (0, ())) fun z13 =>
  L.call Pr n_gauge_Gauge_Last [.pointer x2, .int .i64 60] (.tup [(.one (.int .i64)), (.one (.int .i64))]) fun x17 =>
  L.loop (Y := TJ [(16, (.one (.int .i64))), (17, (.one (.int .i64)))]) (0, 0, ()) fun y18 again19 =>
  L.ite (decide (y18.2.1 < (if 55 < ((p0.len : Nat) : Int) then 55 else ((p0.len : Nat) : Int)))) (
    L.idx p0.a y18.2.1 p0.len 1 fun a20 =>
    L.load (.one (.int .i64)) a20 fun x21 =>
    L.call Pr n_damperlaw9_within [.int .i64 x21, .int .i64 1000] (.one (.one (.int .i64))) fun x22 =>
    again19 (IntKind.wrap .i64 (y18.1 + x22), IntKind.wrap .i64 (y18.2.1 + 1), ())) <|
  L.ite ((IntKind.wrap .i64 (x10.1 - x11.1)) == z13.1) (
    L.ite (x10.2.1 == (if (if 55 < ((p0.len : Nat) : Int) then 55 else ((p0.len : Nat) : Int)) < (IntKind.wrap .i64 (1 + x9)) then (if 55 < ((p0.len : Nat) : Int) then 55 else ((p0.len : Nat) : Int)) else (IntKind.wrap .i64 (1 + x9)))) (
      L.ite (x11.2.1 == (if (if 55 < ((p0.len : Nat) : Int) then 55 else ((p0.len : Nat) : Int)) < (IntKind.wrap .i64 ((IntKind.wrap .i64 (1 + x9)) - 1)) then (if 55 < ((p0.len : Nat) : Int) then 55 else ((p0.len : Nat) : Int)) else (IntKind.wrap .i64 ((IntKind.wrap .i64 (1 + x9)) - 1)))) (
        L.ite (x17.1 == y18.1) (
          K (.bool (x17.2.1 == (if 55 < ((p0.len : Nat) : Int) then 55 else ((p0.len : Nat) : Int))))) <|
        K (.bool false)) <|
      K (.bool false)) <|
    K (.bool false)) <|
  K (.bool false)
theorem D_damperlaw9_GaugeSums (p0 : Sl) (p1 : Int) (K : Value → PT) : denF Pr Dt Try.f4 A_damperlaw9_GaugeSums [.v (.slice p0.a p0.len p0.cap), .v (.int .i64 p1)] K = F_damperlaw9_GaugeSums p0 p1 K := by kernel_rfl
theorem C_damperlaw9_GaugeSums (p0 : Sl) (p1 : Int) {K : Value → PT} {w : World} (h : F_damperlaw9_GaugeSums p0 p1 K w) : Calls Pr n_damperlaw9_GaugeSums [.slice p0.a p0.len p0.cap, .int .i64 p1].toArray w fun e w2 => ∃ v, e = .returned v ∧ K v w2 :=
  denF_ok Tok (f := 4) (fn := Try.f4) (an := A_damperlaw9_GaugeSums) (args := [.v (.slice p0.a p0.len p0.cap), .v (.int .i64 p1)]) (by kernel_rfl) (by kernel_rfl) ((congrFun (D_damperlaw9_GaugeSums p0 p1 K) w).mpr h)
theorem E_damperlaw9_GaugeSums : Enters Pr n_damperlaw9_GaugeSums := enters_of_B (by kernel_rfl)

def A_damperlaw9_GaugeIdle : Ann := (.seq .auto (.seq .auto (.seq .auto (.seq .auto (.seq .auto (.seq (.seq .auto (.one [(4, (.one (.int .i64))), (5, (.one (.int .i64)))] (.seq (.seq .auto (.cond .auto .auto) none) (.seq (.seq .auto (.seq .auto .auto (some [(4, (.one (.int .i64)))])) none) .auto none) none)) none) .auto (some [])) none) none) none) none) none)
/-- damper/damperlaw9.GaugeIdle -/
def F_damperlaw9_GaugeIdle (p0 : Sl) (K : Value → PT) : PT :=
  L.call Pr n_damperlaw9_known [] (.one (.one (.bool))) fun x1 =>
  L.ite (!x1) (
    K (.bool false)) <|
  L.call Pr n_gauge_New [] (.one (.one (.ptr))) fun x2 =>
  L.ite ((x2).isNone) (
    K (.bool false)) <|
  L.join (Y := TJ []) (fun k3 =>
    L.loop (Y := TJ [(4, (.one (.int .i64))), (5, (.one (.int .i64)))]) (0, 0, ()) fun y5 again6 =>
    L.ite (decide (y5.2.1 < ((p0.len : Nat) : Int))) (
      L.ite (decide (y5.2.1 < 150)) (
        L.idx p0.a y5.2.1 p0.len 1 fun a7 =>
        L.load (.one (.int .i64)) a7 fun x8 =>
        L.call Pr n_damperlaw9_within [.int .i64 x8, .int .i64 12] (.one (.one (.int .i64))) fun x9 =>
        L.join (Y := TJ [(4, (.one (.int .i64)))]) (fun k10 =>
          L.ite ((if 0 > (IntKind.wrap .i64 (x9 - 10)) then 0 else (IntKind.wrap .i64 (x9 - 10))) == 0) (
            L.new [.int .i64 0, .int .i64 (-7)] T_int fun b12 =>
            L.guard (2 ≠ (0 : Int)) <|
            L.idx (some ⟨b12, 0, none⟩) (Int.tmod y5.2.1 2) 2 1 fun a13 =>
            L.load (.one (.int .i64)) a13 fun x14 =>
            L.call Pr n_gauge_Gauge_Add [.pointer x2, .int .i64 x14] (.tup []) fun x15 =>
            k10 (IntKind.wrap .i64 (y5.1 + 1), ())) <|
          L.call Pr n_gauge_Gauge_Add [.pointer x2, .int .i64 (if 0 > (IntKind.wrap .i64 (x9 - 10)) then 0 else (IntKind.wrap .i64 (x9 - 10)))] (.tup []) fun x16 =>
          k10 (0, ())) fun z11 =>
        L.call Pr n_gauge_Gauge_Idle [.pointer x2] (.one (.one (.int .i64))) fun x17 =>
        L.ite (x17 != z11.1) (
          K (.bool false)) <|
        again6 (z11.1, IntKind.wrap .i64 (y5.2.1 + 1), ())) <|
      k3 (())) <|
    k3 (())) fun z4 =>
  K (.bool true)
theorem D_damperlaw9_GaugeIdle (p0 : Sl) (K : Value → PT) : denF Pr Dt Try.f5 A_damperlaw9_GaugeIdle [.v (.slice p0.a p0.len p0.cap)] K = F_damperlaw9_GaugeIdle p0 K := by kernel_rfl
theorem C_damperlaw9_GaugeIdle (p0 : Sl) {K : Value → PT} {w : World} (h : F_damperlaw9_GaugeIdle p0 K w) : Calls Pr n_damperlaw9_GaugeIdle [.slice p0.a p0.len p0.cap].toArray w fun e w2 => ∃ v, e = .returned v ∧ K v w2 :=
  denF_ok Tok (f := 5) (fn := Try.f5) (an := A_damperlaw9_GaugeIdle) (args := [.v (.slice p0.a p0.len p0.cap)]) (by kernel_rfl) (by kernel_rfl) ((congrFun (D_damperlaw9_GaugeIdle p0 K) w).mpr h)
theorem E_damperlaw9_GaugeIdle : Enters Pr n_damperlaw9_GaugeIdle := enters_of_B (by kernel_rfl)

def A_damperlaw9_GaugeKnown : Ann := (.seq .auto (.seq .auto (.seq .auto (.seq .auto (.seq (.seq .auto (.one [(4, (.one (.int .i64)))] .auto) none) .auto none) none) none) none) none)
/-- damper/damperlaw9.GaugeKnown -/
def F_damperlaw9_GaugeKnown (p0 : Int) (K : Value → PT) : PT :=
  L.call Pr n_damperlaw9_known [] (.one (.one (.bool))) fun x1 =>
  L.ite (!x1) (
    K (.bool false)) <|
  L.call Pr n_gauge_New [] (.one (.one (.ptr))) fun x2 =>
  L.ite ((x2).isNone) (
    K (.bool false)) <|
  L.loop (Y := TJ [(4, (.one (.int .i64)))]) (1, ()) fun y3 again4 =>
  L.ite (decide (y3.1 ≤ 70)) (
    L.call Pr n_gauge_Gauge_Add [.pointer x2, .int .i64 y3.1] (.tup []) fun x5 =>
    again4 (IntKind.wrap .i64 (y3.1 + 1), ())) <|
  L.call Pr n_gauge_Gauge_Last [.pointer x2, .int .i64 2] (.tup [(.one (.int .i64)), (.one (.int .i64))]) fun x6 =>
  L.call Pr n_gauge_Gauge_Last [.pointer x2, .int .i64 6] (.tup [(.one (.int .i64)), (.one (.int .i64))]) fun x7 =>
  L.call Pr n_gauge_Gauge_Last [.pointer x2, .int .i64 60] (.tup [(.one (.int .i64)), (.one (.int .i64))]) fun x8 =>
  L.call Pr n_damperlaw9_within [.int .i64 p0, .int .i64 100] (.one (.one (.int .i64))) fun x9 =>
  L.call Pr n_gauge_Gauge_Last [.pointer x2, .int .i64 (IntKind.wrap .i64 (61 + x9))] (.tup [(.one (.int .i64)), (.one (.int .i64))]) fun x10 =>
  L.call Pr n_gauge_Gauge_Last [.pointer x2, .int .i64 0] (.tup [(.one (.int .i64)), (.one (.int .i64))]) fun x11 =>
  L.call Pr n_gauge_Gauge_Add [.pointer x2, .int .i64 0] (.tup []) fun x12 =>
  L.call Pr n_gauge_Gauge_Add [.pointer x2, .int .i64 (-3)] (.tup []) fun x13 =>
  L.call Pr n_gauge_Gauge_Last [.pointer x2, .int .i64 3] (.tup [(.one (.int .i64)), (.one (.int .i64))]) fun x14 =>
  L.ite (x6.1 == 139) (
    L.ite (x6.2.1 == 2) (
      L.ite (x7.1 == 405) (
        L.ite (x7.2.1 == 6) (
          L.ite (x8.1 == 2430) (
            L.ite (x8.2.1 == 60) (
              L.ite (x10.1 == 2430) (
                L.ite (x10.2.1 == 60) (
                  L.ite (x11.1 == 0) (
                    L.ite (x11.2.1 == 0) (
                      L.ite (x14.1 == 70) (
                        L.ite (x14.2.1 == 3) (
                          L.call Pr n_gauge_Gauge_Idle [.pointer x2] (.one (.one (.int .i64))) fun x15 =>
                          K (.bool (x15 == 2))) <|
                        K (.bool false)) <|
                      K (.bool false)) <|
                    K (.bool false)) <|
                  K (.bool false)) <|
                K (.bool false)) <|
              K (.bool false)) <|
            K (.bool false)) <|
          K (.bool false)) <|
        K (.bool false)) <|
      K (.bool false)) <|
    K (.bool false)) <|
  K (.bool false)
theorem D_damperlaw9_GaugeKnown (p0 : Int) (K : Value → PT) : denF Pr Dt Try.f6 A_damperlaw9_GaugeKnown [.v (.int .i64 p0)] K = F_damperlaw9_GaugeKnown p0 K := by kernel_rfl
theorem C_damperlaw9_GaugeKnown (p0 : Int) {K : Value → PT} {w : World} (h : F_damperlaw9_GaugeKnown p0 K w) : Calls Pr n_damperlaw9_GaugeKnown [.int .i64 p0].toArray w fun e w2 => ∃ v, e = .returned v ∧ K v w2 :=
  denF_ok Tok (f := 6) (fn := Try.f6) (an := A_damperlaw9_GaugeKnown) (args := [.v (.int .i64 p0)]) (by kernel_rfl) (by kernel_rfl) ((congrFun (D_damperlaw9_GaugeKnown p0 K) w).mpr h)
theorem E_damperlaw9_GaugeKnown : Enters Pr n_damperlaw9_GaugeKnown := enters_of_B (by kernel_rfl)

def A_damperlaw9_GaugeApart : Ann := (.seq .auto (.seq .auto (.seq .auto (.seq .auto (.seq (.seq .auto (.one [(8, (.one (.int .i64)))] (.seq (.seq .auto (.cond .auto .auto) none) (.seq .auto .auto (some [])) none)) none) .auto (some [])) none) none) none) none)
/-- damper/damperlaw9.GaugeApart -/
def F_damperlaw9_GaugeApart (p0 : Sl) (p1 : Sl) (K : Value → PT) : PT :=
  L.call Pr n_damperlaw9_known [] (.one (.one (.bool))) fun x1 =>
  L.ite (!x1) (
    K (.bool false)) <|
  L.call Pr n_gauge_New [] (.one (.one (.ptr))) fun x2 =>
  L.call Pr n_gauge_New [] (.one (.one (.ptr))) fun x3 =>
  L.new [.slice none 0 0] T_damperref9_Gauge fun b4 =>
  L.ite ((x2).isNone) (
    K (.bool false)) <|
  L.ite ((x3).isNone) (
    K (.bool false)) <|
  L.join (Y := TJ []) (fun k5 =>
    L.loop (Y := TJ [(8, (.one (.int .i64)))]) (0, ()) fun y7 again8 =>
    L.ite (decide (y7.1 < ((p0.len : Nat) : Int))) (
      L.ite (decide (y7.1 < 40)) (
        L.join (Y := TJ []) (fun k9 =>
          L.idx p0.a y7.1 p0.len 1 fun a11 =>
          L.load (.one (.int .i64)) a11 fun x12 =>
          L.call Pr n_damperlaw9_within [.int .i64 x12, .int .i64 9] (.one (.one (.int .i64))) fun x13 =>
          L.call Pr n_gauge_Gauge_Add [.pointer x2, .int .i64 (IntKind.wrap .i64 (x13 - 2))] (.tup []) fun x14 =>
          L.idx p0.a y7.1 p0.len 1 fun a15 =>
          L.load (.one (.int .i64)) a15 fun x16 =>
          L.call Pr n_damperlaw9_within [.int .i64 x16, .int .i64 9] (.one (.one (.int .i64))) fun x17 =>
          L.call Pr n_damperref9_Gauge_Add [.pointer (some (⟨b4, 0, none⟩)), .int .i64 (IntKind.wrap .i64 (x17 - 2))] (.tup []) fun x18 =>
          L.ite (decide (y7.1 < ((p1.len : Nat) : Int))) (
            L.idx p1.a y7.1 p1.len 1 fun a19 =>
            L.load (.one (.int .i64)) a19 fun x20 =>
            L.call Pr n_damperlaw9_within [.int .i64 x20, .int .i64 100] (.one (.one (.int .i64))) fun x21 =>
            L.call Pr n_gauge_Gauge_Add [.pointer x3, .int .i64 x21] (.tup []) fun x22 =>
            k9 (())) <|
          k9 (())) fun z10 =>
        again8 (IntKind.wrap .i64 (y7.1 + 1), ())) <|
      k5 (())) <|
    k5 (())) fun z6 =>
  L.call Pr n_gauge_Gauge_Last [.pointer x2, .int .i64 20] (.tup [(.one (.int .i64)), (.one (.int .i64))]) fun x23 =>
  L.call Pr n_damperref9_Gauge_Last [.pointer (some (⟨b4, 0, none⟩)), .int .i64 20] (.tup [(.one (.int .i64)), (.one (.int .i64))]) fun x24 =>
  L.ite (x23.1 == x24.1) (
    L.ite (x23.2.1 == x24.2.1) (
      L.call Pr n_gauge_Gauge_Idle [.pointer x2] (.one (.one (.int .i64))) fun x25 =>
      L.call Pr n_damperref9_Gauge_Idle [.pointer (some (⟨b4, 0, none⟩))] (.one (.one (.int .i64))) fun x26 =>
      K (.bool (x25 == x26))) <|
    K (.bool false)) <|
  K (.bool false)
theorem D_damperlaw9_GaugeApart (p0 : Sl) (p1 : Sl) (K : Value → PT) : denF Pr Dt Try.f7 A_damperlaw9_GaugeApart [.v (.slice p0.a p0.len p0.cap), .v (.slice p1.a p1.len p1.cap)] K = F_damperlaw9_GaugeApart p0 p1 K := by kernel_rfl
theorem C_damperlaw9_GaugeApart (p0 : Sl) (p1 : Sl) {K : Value → PT} {w : World} (h : F_damperlaw9_GaugeApart p0 p1 K w) : Calls Pr n_damperlaw9_GaugeApart [.slice p0.a p0.len p0.cap, .slice p1.a p1.len p1.cap].toArray w fun e w2 => ∃ v, e = .returned v ∧ K v w2 :=
  denF_ok Tok (f := 7) (fn := Try.f7) (an := A_damperlaw9_GaugeApart) (args := [.v (.slice p0.a p0.len p0.cap), .v (.slice p1.a p1.len p1.cap)]) (by kernel_rfl) (by kernel_rfl) ((congrFun (D_damperlaw9_GaugeApart p0 p1 K) w).mpr h)
theorem E_damperlaw9_GaugeApart : Enters Pr n_damperlaw9_GaugeApart := enters_of_B (by kernel_rfl)

def A_damperlaw9_GaugeFar : Ann := (.seq .auto (.seq .auto (.seq .auto (.seq .auto (.seq (.seq .auto (.one [(9, (.one (.int .i64)))] (.seq (.seq .auto (.cond .auto .auto) none) .auto none)) none) (.seq .auto (.seq (.seq .auto (.one [(11, (.one (.int .i64)))] .auto) none) .auto none) none) (some [])) none) none) none) none)
/-- damper/damperlaw9.GaugeFar -/
def F_damperlaw9_GaugeFar (p0 : Sl) (p1 : Sl) (p2 : Int) (K : Value → PT) : PT :=
  L.call Pr n_damperlaw9_known [] (.one (.one (.bool))) fun x1 =>
  L.ite (!x1) (
    K (.bool false)) <|
  L.call Pr n_gauge_New [] (.one (.one (.ptr))) fun x2 =>
  L.call Pr n_gauge_New [] (.one (.one (.ptr))) fun x3 =>
  L.ite ((x2).isNone) (
    K (.bool false)) <|
  L.ite ((x3).isNone) (
    K (.bool false)) <|
  L.join (Y := TJ []) (fun k4 =>
    L.loop (Y := TJ [(9, (.one (.int .i64)))]) (0, ()) fun y6 again7 =>
    L.ite (decide (y6.1 < ((p1.len : Nat) : Int))) (
      L.ite (decide (y6.1 < 70)) (
        L.idx p1.a y6.1 p1.len 1 fun a8 =>
        L.load (.one (.int .i64)) a8 fun x9 =>
        L.call Pr n_damperlaw9_within [.int .i64 x9, .int .i64 50] (.one (.one (.int .i64))) fun x10 =>
        L.call Pr n_gauge_Gauge_Add [.pointer x2, .int .i64 x10] (.tup []) fun x11 =>
        again7 (IntKind.wrap .i64 (y6.1 + 1), ())) <|
      k4 (())) <|
    k4 (())) fun z5 =>
  L.loop (Y := TJ [(11, (.one (.int .i64)))]) (0, ()) fun y12 again13 =>
  L.ite (decide (y12.1 < (if 50 < ((p0.len : Nat) : Int) then 50 else ((p0.len : Nat) : Int)))) (
    L.idx p0.a y12.1 p0.len 1 fun a14 =>
    L.load (.one (.int .i64)) a14 fun x15 =>
    L.call Pr n_damperlaw9_within [.int .i64 x15, .int .i64 50] (.one (.one (.int .i64))) fun x16 =>
    L.call Pr n_gauge_Gauge_Add [.pointer x2, .int .i64 x16] (.tup []) fun x17 =>
    L.idx p0.a y12.1 p0.len 1 fun a18 =>
    L.load (.one (.int .i64)) a18 fun x19 =>
    L.call Pr n_damperlaw9_within [.int .i64 x19, .int .i64 50] (.one (.one (.int .i64))) fun x20 =>
    L.call Pr n_gauge_Gauge_Add [.pointer x3, .int .i64 x20] (.tup []) fun x21 =>
    again13 (IntKind.wrap .i64 (y12.1 + 1), ())) <|
  L.call Pr n_damperlaw9_within [.int .i64 p2, .int .i64 (IntKind.wrap .i64 ((if 50 < ((p0.len : Nat) : Int) then 50 else ((p0.len : Nat) : Int)) + 1))] (.one (.one (.int .i64))) fun x22 =>
  L.call Pr n_gauge_Gauge_Last [.pointer x2, .int .i64 x22] (.tup [(.one (.int .i64)), (.one (.int .i64))]) fun x23 =>
  L.call Pr n_gauge_Gauge_Last [.pointer x3, .int .i64 x22] (.tup [(.one (.int .i64)), (.one (.int .i64))]) fun x24 =>
  L.ite (x23.1 == x24.1) (
    L.ite (x23.2.1 == x24.2.1) (
      K (.bool (x23.2.1 == x22))) <|
    K (.bool false)) <|
  K (.bool false)
theorem D_damperlaw9_GaugeFar (p0 : Sl) (p1 : Sl) (p2 : Int) (K : Value → PT) : denF Pr Dt Try.f8 A_damperlaw9_GaugeFar [.v (.slice p0.a p0.len p0.cap), .v (.slice p1.a p1.len p1.cap), .v (.int .i64 p2)] K = F_damperlaw9_GaugeFar p0 p1 p2 K := by kernel_rfl
theorem C_damperlaw9_GaugeFar (p0 : Sl) (p1 : Sl) (p2 : Int) {K : Value → PT} {w : World} (h : F_damperlaw9_GaugeFar p0 p1 p2 K w) : Calls Pr n_damperlaw9_GaugeFar [.slice p0.a p0.len p0.cap, .slice p1.a p1.len p1.cap, .int .i64 p2].toArray w fun e w2 => ∃ v, e = .returned v ∧ K v w2 :=
  denF_ok Tok (f := 8) (fn := Try.f8) (an := A_damperlaw9_GaugeFar) (args := [.v (.slice p0.a p0.len p0.cap), .v (.slice p1.a p1.len p1.cap), .v (.int .i64 p2)]) (by kernel_rfl) (by kernel_rfl) ((congrFun (D_damperlaw9_GaugeFar p0 p1 p2 K) w).mpr h)
theorem E_damperlaw9_GaugeFar : Enters Pr n_damperlaw9_GaugeFar := enters_of_B (by kernel_rfl)

def A_damperlaw9_known : Ann := .auto
/-- damper/damperlaw9.known -/
def F_damperlaw9_known  (K : Value → PT) : PT :=
  L.call Pr n_gauge_New [] (.one (.one (.ptr))) fun x1 =>
  L.ite ((x1).isNone) (
    K (.bool false)) <|
  L.call Pr n_gauge_Gauge_Last [.pointer x1, .int .i64 9] (.tup [(.one (.int .i64)), (.one (.int .i64))]) fun x2 =>
  L.call Pr n_gauge_Gauge_Add [.pointer x1, .int .i64 4] (.tup []) fun x3 =>
  L.call Pr n_gauge_Gauge_Last [.pointer x1, .int .i64 9] (.tup [(.one (.int .i64)), (.one (.int .i64))]) fun x4 =>
  L.ite (x2.1 == 0) (
    L.ite (x2.2.1 == 0) (
      L.ite (x4.1 == 4) (
        L.ite (x4.2.1 == 1) (
          L.call Pr n_gauge_Gauge_Idle [.pointer x1] (.one (.one (.int .i64))) fun x5 =>
          K (.bool (x5 == 0))) <|
        K (.bool false)) <|
      K (.bool false)) <|
    K (.bool false)) <|
  K (.bool false)
theorem D_damperlaw9_known  (K : Value → PT) : denF Pr Dt Try.f9 A_damperlaw9_known [] K = F_damperlaw9_known  K := by kernel_rfl
theorem C_damperlaw9_known  {K : Value → PT} {w : World} (h : F_damperlaw9_known  K w) : Calls Pr n_damperlaw9_known [].toArray w fun e w2 => ∃ v, e = .returned v ∧ K v w2 :=
  denF_ok Tok (f := 9) (fn := Try.f9) (an := A_damperlaw9_known) (args := []) (by kernel_rfl) (by kernel_rfl) ((congrFun (D_damperlaw9_known  K) w).mpr h)
theorem E_damperlaw9_known : Enters Pr n_damperlaw9_known := enters_of_B (by kernel_rfl)

def A_gauge_New : Ann := .auto
/-- damper/gauge.New -/
def F_gauge_New  (K : Value → PT) : PT :=
  L.new [.int .i64 0, .int .i64 0, .int .i64 0, .int .i64 0, .int .i64 0, .int .i64 0, .int .i64 0, .int .i64 0, .int .i64 0, .int .i64 0, .int .i64 0, .int .i64 0, .int .i64 0, .int .i64 0, .int .i64 0, .int .i64 0, .int .i64 0, .int .i64 0, .int .i64 0, .int .i64 0, .int .i64 0, .int .i64 0, .int .i64 0, .int .i64 0, .int .i64 0, .int .i64 0, .int .i64 0, .int .i64 0, .int .i64 0, .int .i64 0, .int .i64 0, .int .i64 0, .int .i64 0, .int .i64 0, .int .i64 0, .int .i64 0, .int .i64 0, .int .i64 0, .int .i64 0, .int .i64 0, .int .i64 0, .int .i64 0, .int .i64 0, .int .i64 0, .int .i64 0, .int .i64 0, .int .i64 0, .int .i64 0, .int .i64 0, .int .i64 0, .int .i64 0, .int .i64 0, .int .i64 0, .int .i64 0, .int .i64 0, .int .i64 0, .int .i64 0, .int .i64 0, .int .i64 0, .int .i64 0, .int .i64 0, .int .i64 0] T_gauge_Gauge fun b1 =>
  K (.pointer (some (⟨b1, 0, none⟩)))
theorem D_gauge_New  (K : Value → PT) : denF Pr Dt Try.f10 A_gauge_New [] K = F_gauge_New  K := by kernel_rfl
theorem C_gauge_New  {K : Value → PT} {w : World} (h : F_gauge_New  K w) : Calls Pr n_gauge_New [].toArray w fun e w2 => ∃ v, e = .returned v ∧ K v w2 :=
  denF_ok Tok (f := 10) (fn := Try.f10) (an := A_gauge_New) (args := []) (by kernel_rfl) (by kernel_rfl) ((congrFun (D_gauge_New  K) w).mpr h)
theorem E_gauge_New : Enters Pr n_gauge_New := enters_of_B (by kernel_rfl)

def A_damperlaw9_within : Ann := (.seq .auto (.seq .auto (.seq .auto .auto (some [(5, (.one (.int .i64)))])) none) none)
/-- damper/damperlaw9.within -/
def F_damperlaw9_within (p0 : Int) (p1 : Int) (K : Value → PT) : PT :=
  L.guard (p1 ≠ (0 : Int)) <|
  L.join (Y := TJ [(5, (.one (.int .i64)))]) (fun k1 =>
    L.ite (decide ((Int.tmod p0 p1) < 0)) (
      k1 (IntKind.wrap .i64 ((Int.tmod p0 p1) + p1), ())) <|
    k1 (Int.tmod p0 p1, ())) fun z2 =>
  K (.int .i64 z2.1)
theorem D_damperlaw9_within (p0 : Int) (p1 : Int) (K : Value → PT) : denF Pr Dt Try.f11 A_damperlaw9_within [.v (.int .i64 p0), .v (.int .i64 p1)] K = F_damperlaw9_within p0 p1 K := by kernel_rfl
theorem C_damperlaw9_within (p0 : Int) (p1 : Int) {K : Value → PT} {w : World} (h : F_damperlaw9_within p0 p1 K w) : Calls Pr n_damperlaw9_within [.int .i64 p0, .int .i64 p1].toArray w fun e w2 => ∃ v, e = .returned v ∧ K v w2 :=
  denF_ok Tok (f := 11) (fn := Try.f11) (an := A_damperlaw9_within) (args := [.v (.int .i64 p0), .v (.int .i64 p1)]) (by kernel_rfl) (by kernel_rfl) ((congrFun (D_damperlaw9_within p0 p1 K) w).mpr h)
theorem E_damperlaw9_within : Enters Pr n_damperlaw9_within := enters_of_B (by kernel_rfl)

def A_gauge_Gauge_Add : Ann := .auto
/-- (*damper/gauge.Gauge).Add -/
def F_gauge_Gauge_Add (p0 : Option Addr) (p1 : Int) (K : Value → PT) : PT :=
  L.nonnil p0 fun a1 =>
  L.call Pr n_gauge_ring_int_add [.pointer (some (a1.add 0)), .int .i64 (if 0 > p1 then 0 else p1)] (.tup []) fun x2 =>
  L.nonnil p0 fun a3 =>
  L.load (.one (.int .i64)) (a3.add 61) fun x4 =>
  L.nonnil p0 fun a5 =>
  L.store (a5.add 61) [.int .i64 (IntKind.wrap .i64 (x4 + 1))] <|
  L.ite (decide ((if 0 > p1 then 0 else p1) > 0)) (
    L.nonnil p0 fun a6 =>
    L.store (a6.add 61) [.int .i64 0] <|
    K (.tuple #[])) <|
  K (.tuple #[])
theorem D_gauge_Gauge_Add (p0 : Option Addr) (p1 : Int) (K : Value → PT) : denF Pr Dt Try.f12 A_gauge_Gauge_Add [.v (.pointer p0), .v (.int .i64 p1)] K = F_gauge_Gauge_Add p0 p1 K := by kernel_rfl
theorem C_gauge_Gauge_Add (p0 : Option Addr) (p1 : Int) {K : Value → PT} {w : World} (h : F_gauge_Gauge_Add p0 p1 K w) : Calls Pr n_gauge_Gauge_Add [.pointer p0, .int .i64 p1].toArray w fun e w2 => ∃ v, e = .returned v ∧ K v w2 :=
  denF_ok Tok (f := 12) (fn := Try.f12) (an := A_gauge_Gauge_Add) (args := [.v (.pointer p0), .v (.int .i64 p1)]) (by kernel_rfl) (by kernel_rfl) ((congrFun (D_gauge_Gauge_Add p0 p1 K) w).mpr h)
theorem E_gauge_Gauge_Add : Enters Pr n_gauge_Gauge_Add := enters_of_B (by kernel_rfl)

def A_damperref9_Gauge_Add : Ann := .auto
/-- (*damper/damperref9.Gauge).Add -/
def F_damperref9_Gauge_Add (p0 : Option Addr) (p1 : Int) (K : Value → PT) : PT :=
  L.nonnil p0 fun a1 =>
  L.load (.one (.slice)) (a1.add 0) fun x2 =>
  L.new [.int .i64 (if 0 > p1 then 0 else p1)] T_int fun b3 =>
  L.sem Pr (.one (.one .slice)) (Builtin.append_ #[T_s_int, T_s_int] T_s_int #[.slice x2.a x2.len x2.cap, .slice (some ⟨b3, 0, none⟩) 1 1]) fun s4 =>
  L.nonnil p0 fun a5 =>
  L.store (a5.add 0) [.slice s4.a s4.len s4.cap] <|
  K (.tuple #[])
theorem D_damperref9_Gauge_Add (p0 : Option Addr) (p1 : Int) (K : Value → PT) : denF Pr Dt Try.f13 A_damperref9_Gauge_Add [.v (.pointer p0), .v (.int .i64 p1)] K = F_damperref9_Gauge_Add p0 p1 K := by kernel_rfl
theorem C_damperref9_Gauge_Add (p0 : Option Addr) (p1 : Int) {K : Value → PT} {w : World} (h : F_damperref9_Gauge_Add p0 p1 K w) : Calls Pr n_damperref9_Gauge_Add [.pointer p0, .int .i64 p1].toArray w fun e w2 => ∃ v, e = .returned v ∧ K v w2 :=
  denF_ok Tok (f := 13) (fn := Try.f13) (an := A_damperref9_Gauge_Add) (args := [.v (.pointer p0), .v (.int .i64 p1)]) (by kernel_rfl) (by kernel_rfl) ((congrFun (D_damperref9_Gauge_Add p0 p1 K) w).mpr h)
theorem E_damperref9_Gauge_Add : Enters Pr n_damperref9_Gauge_Add := enters_of_B (by kernel_rfl)

def A_gauge_Gauge_Last : Ann := (.seq .auto (.seq (.seq .auto (.seq .auto .auto (some [(11, (.one (.int .i64)))])) none) .auto none) none)
/-- (*damper/gauge.Gauge).Last -/
def F_gauge_Gauge_Last (p0 : Option Addr) (p1 : Int) (K : Value → PT) : PT :=
  L.new [.int .i64 p1] T_int fun b1 =>
  L.new [.int .i64 0] T_int fun b2 =>
  L.new [.int .i64 0] T_int fun b3 =>
  L.nonnil p0 fun a4 =>
  L.call Pr n_gauge_ring_int_back [.pointer (some (a4.add 0))] (.one (.one (.func))) fun x5 =>
  L.range Pr none (.func x5.fn x5.fs x5.cs) [(.one (.int .i64))] (fun l6 y7 R8 =>
    L.begin Pr l6 <|
    L.load (.one (.int .i64)) (⟨b3, 0, none⟩) fun x11 =>
    L.load (.one (.int .i64)) (⟨b1, 0, none⟩) fun x12 =>
    L.ite (decide (x11 ≥ x12)) (
      L.endRound Pr l6 (some (.exit 0)) R8) <|
    L.load (.one (.int .i64)) (⟨b2, 0, none⟩) fun x13 =>
    L.store (⟨b2, 0, none⟩) [.int .i64 (IntKind.wrap .i64 (x13 + y7.1))] <|
    L.load (.one (.int .i64)) (⟨b3, 0, none⟩) fun x14 =>
    L.store (⟨b3, 0, none⟩) [.int .i64 (IntKind.wrap .i64 (x14 + 1))] <|
    L.endRound Pr l6 none R8) fun d9 j10 =>
  L.jump j10 (
    L.draw <|
    L.load (.one (.int .i64)) (⟨b2, 0, none⟩) fun x19 =>
    L.load (.one (.int .i64)) (⟨b3, 0, none⟩) fun x20 =>
    L.store (⟨b2, 0, none⟩) [.int .i64 x19] <|
    L.chk (⟨b3, 0, none⟩) [.int .i64 x20] <|
    L.store (⟨b3, 0, none⟩) [.int .i64 x20] <|
    L.unmark Pr (d9 ++ []) <|
    L.load (.one (.int .i64)) (⟨b2, 0, none⟩) fun x21 =>
    L.load (.one (.int .i64)) (⟨b3, 0, none⟩) fun x22 =>
    K (.tuple #[.int .i64 x21, .int .i64 x22])) (
    L.unmark Pr (d9 ++ []) <|
    L.load (.one (.int .i64)) (⟨b2, 0, none⟩) fun x23 =>
    L.load (.one (.int .i64)) (⟨b3, 0, none⟩) fun x24 =>
    K (.tuple #[.int .i64 x23, .int .i64 x24])) [(0, (
        L.draw <|
        L.load (.one (.int .i64)) (⟨b2, 0, none⟩) fun x15 =>
        L.load (.one (.int .i64)) (⟨b3, 0, none⟩) fun x16 =>
        L.store (⟨b2, 0, none⟩) [.int .i64 x15] <|
        L.chk (⟨b3, 0, none⟩) [.int .i64 x16] <|
        L.store (⟨b3, 0, none⟩) [.int .i64 x16] <|
        L.unmark Pr (d9 ++ []) <|
        L.load (.one (.int .i64)) (⟨b2, 0, none⟩) fun x17 =>
        L.load (.one (.int .i64)) (⟨b3, 0, none⟩) fun x18 =>
        K (.tuple #[.int .i64 x17, .int .i64 x18])))]
theorem D_gauge_Gauge_Last (p0 : Option Addr) (p1 : Int) (K : Value → PT) : denF Pr Dt Try.f14 A_gauge_Gauge_Last [.v (.pointer p0), .v (.int .i64 p1)] K = F_gauge_Gauge_Last p0 p1 K := by kernel_rfl
theorem C_gauge_Gauge_Last (p0 : Option Addr) (p1 : Int) {K : Value → PT} {w : World} (h : F_gauge_Gauge_Last p0 p1 K w) : Calls Pr n_gauge_Gauge_Last [.pointer p0, .int .i64 p1].toArray w fun e w2 => ∃ v, e = .returned v ∧ K v w2 :=
  denF_ok Tok (f := 14) (fn := Try.f14) (an := A_gauge_Gauge_Last) (args := [.v (.pointer p0), .v (.int .i64 p1)]) (by kernel_rfl) (by kernel_rfl) ((congrFun (D_gauge_Gauge_Last p0 p1 K) w).mpr h)
theorem E_gauge_Gauge_Last : Enters Pr n_gauge_Gauge_Last := enters_of_B (by kernel_rfl)

def A_damperref9_Gauge_Last : Ann := (.seq .auto (.seq .auto (.seq .auto (.seq (.seq .auto (.one [(6, (.one (.int .i64))), (7, (.one (.int .i64)))] .auto) none) .auto none) none) none) none)
/-- (*damper/damperref9.Gauge).Last -/
def F_damperref9_Gauge_Last (p0 : Option Addr) (p1 : Int) (K : Value → PT) : PT :=
  L.nonnil p0 fun a1 =>
  L.load (.one (.slice)) (a1.add 0) fun x2 =>
  L.nonnil p0 fun a3 =>
  L.load (.one (.slice)) (a3.add 0) fun x4 =>
  L.loop (Y := TJ [(6, (.one (.int .i64))), (7, (.one (.int .i64)))]) (0, IntKind.wrap .i64 (((x4.len : Nat) : Int) - (if (if ((x2.len : Nat) : Int) < (if 60 < p1 then 60 else p1) then ((x2.len : Nat) : Int) else (if 60 < p1 then 60 else p1)) > 0 then (if ((x2.len : Nat) : Int) < (if 60 < p1 then 60 else p1) then ((x2.len : Nat) : Int) else (if 60 < p1 then 60 else p1)) else 0)), ()) fun y5 again6 =>
  L.nonnil p0 fun a7 =>
  L.load (.one (.slice)) (a7.add 0) fun x8 =>
  L.ite (decide (y5.2.1 < ((x8.len : Nat) : Int))) (
    L.nonnil p0 fun a9 =>
    L.load (.one (.slice)) (a9.add 0) fun x10 =>
    L.idx x10.a y5.2.1 x10.len 1 fun a11 =>
    L.load (.one (.int .i64)) a11 fun x12 =>
    again6 (IntKind.wrap .i64 (y5.1 + x12), IntKind.wrap .i64 (y5.2.1 + 1), ())) <|
  K (.tuple #[.int .i64 y5.1, .int .i64 (if (if ((x2.len : Nat) : Int) < (if 60 < p1 then 60 else p1) then ((x2.len : Nat) : Int) else (if 60 < p1 then 60 else p1)) > 0 then (if ((x2.len : Nat) : Int) < (if 60 < p1 then 60 else p1) then ((x2.len : Nat) : Int) else (if 60 < p1 then 60 else p1)) else 0)])
theorem D_damperref9_Gauge_Last (p0 : Option Addr) (p1 : Int) (K : Value → PT) : denF Pr Dt Try.f15 A_damperref9_Gauge_Last [.v (.pointer p0), .v (.int .i64 p1)] K = F_damperref9_Gauge_Last p0 p1 K := by kernel_rfl
theorem C_damperref9_Gauge_Last (p0 : Option Addr) (p1 : Int) {K : Value → PT} {w : World} (h : F_damperref9_Gauge_Last p0 p1 K w) : Calls Pr n_damperref9_Gauge_Last [.pointer p0, .int .i64 p1].toArray w fun e w2 => ∃ v, e = .returned v ∧ K v w2 :=
  denF_ok Tok (f := 15) (fn := Try.f15) (an := A_damperref9_Gauge_Last) (args := [.v (.pointer p0), .v (.int .i64 p1)]) (by kernel_rfl) (by kernel_rfl) ((congrFun (D_damperref9_Gauge_Last p0 p1 K) w).mpr h)
theorem E_damperref9_Gauge_Last : Enters Pr n_damperref9_Gauge_Last := enters_of_B (by kernel_rfl)

def A_gauge_Gauge_Idle : Ann := .auto
/-- (*damper/gauge.Gauge).Idle -/
def F_gauge_Gauge_Idle (p0 : Option Addr) (K : Value → PT) : PT :=
  L.nonnil p0 fun a1 =>
  L.load (.one (.int .i64)) (a1.add 61) fun x2 =>
  K (.int .i64 x2)
theorem D_gauge_Gauge_Idle (p0 : Option Addr) (K : Value → PT) : denF Pr Dt Try.f16 A_gauge_Gauge_Idle [.v (.pointer p0)] K = F_gauge_Gauge_Idle p0 K := by kernel_rfl
theorem C_gauge_Gauge_Idle (p0 : Option Addr) {K : Value → PT} {w : World} (h : F_gauge_Gauge_Idle p0 K w) : Calls Pr n_gauge_Gauge_Idle [.pointer p0].toArray w fun e w2 => ∃ v, e = .returned v ∧ K v w2 :=
  denF_ok Tok (f := 16) (fn := Try.f16) (an := A_gauge_Gauge_Idle) (args := [.v (.pointer p0)]) (by kernel_rfl) (by kernel_rfl) ((congrFun (D_gauge_Gauge_Idle p0 K) w).mpr h)
theorem E_gauge_Gauge_Idle : Enters Pr n_gauge_Gauge_Idle := enters_of_B (by kernel_rfl)

def A_damperref9_Gauge_Idle : Ann := (.seq .auto (.seq .auto (.seq (.one [(3, (.one (.int .i64)))] (.seq (.seq .auto (.cond .auto .auto) none) .auto none)) .auto (some [(3, (.one (.int .i64)))])) none) none)
/-- (*damper/damperref9.Gauge).Idle -/
def F_damperref9_Gauge_Idle (p0 : Option Addr) (K : Value → PT) : PT :=
  L.join (Y := TJ [(3, (.one (.int .i64)))]) (fun k1 =>
    L.loop (Y := TJ [(3, (.one (.int .i64)))]) (0, ()) fun y3 again4 =>
    L.draw <|
    L.nonnil p0 fun a5 =>
    L.load (.one (.slice)) (a5.add 0) fun x6 =>
    L.ite (decide (y3.1 < ((x6.len : Nat) : Int))) (
      L.nonnil p0 fun a7 =>
      L.load (.one (.slice)) (a7.add 0) fun x8 =>
      L.nonnil p0 fun a9 =>
      L.load (.one (.slice)) (a9.add 0) fun x10 =>
      L.idx x8.a (IntKind.wrap .i64 ((IntKind.wrap .i64 (((x10.len : Nat) : Int) - 1)) - y3.1)) x8.len 1 fun a11 =>
      L.load (.one (.int .i64)) a11 fun x12 =>
      L.ite (x12 == 0) (
        again4 (IntKind.wrap .i64 (y3.1 + 1), ())) <|
      k1 (y3.1, ())) <|
    k1 (y3.1, ())) fun z2 =>
  K (.int .i64 z2.1)
theorem D_damperref9_Gauge_Idle (p0 : Option Addr) (K : Value → PT) : denF Pr Dt Try.f17 A_damperref9_Gauge_Idle [.v (.pointer p0)] K = F_damperref9_Gauge_Idle p0 K := by kernel_rfl
theorem C_damperref9_Gauge_Idle (p0 : Option Addr) {K : Value → PT} {w : World} (h : F_damperref9_Gauge_Idle p0 K w) : Calls Pr n_damperref9_Gauge_Idle [.pointer p0].toArray w fun e w2 => ∃ v, e = .returned v ∧ K v w2 :=
  denF_ok Tok (f := 17) (fn := Try.f17) (an := A_damperref9_Gauge_Idle) (args := [.v (.pointer p0)]) (by kernel_rfl) (by kernel_rfl) ((congrFun (D_damperref9_Gauge_Idle p0 K) w).mpr h)
theorem E_damperref9_Gauge_Idle : Enters Pr n_damperref9_Gauge_Idle := enters_of_B (by kernel_rfl)

def A_gauge_ring_int_add : Ann := .auto
/-- (*damper/gauge.ring[int]).add -/
def F_gauge_ring_int_add (p0 : Option Addr) (p1 : Int) (K : Value → PT) : PT :=
  L.draw <|
  L.nonnil p0 fun a1 =>
  L.load (.one (.int .i64)) (a1.add 60) fun x2 =>
  L.guard (60 ≠ (0 : Int)) <|
  L.nonnil p0 fun a3 =>
  L.idx (some (a3.add 0)) (Int.tmod x2 60) 60 1 fun a4 =>
  L.store a4 [.int .i64 p1] <|
  L.nonnil p0 fun a5 =>
  L.load (.one (.int .i64)) (a5.add 60) fun x6 =>
  L.nonnil p0 fun a7 =>
  L.store (a7.add 60) [.int .i64 (IntKind.wrap .i64 (x6 + 1))] <|
  K (.tuple #[])
theorem D_gauge_ring_int_add (p0 : Option Addr) (p1 : Int) (K : Value → PT) : denF Pr Dt Try.f18 A_gauge_ring_int_add [.v (.pointer p0), .v (.int .i64 p1)] K = F_gauge_ring_int_add p0 p1 K := by kernel_rfl
theorem C_gauge_ring_int_add (p0 : Option Addr) (p1 : Int) {K : Value → PT} {w : World} (h : F_gauge_ring_int_add p0 p1 K w) : Calls Pr n_gauge_ring_int_add [.pointer p0, .int .i64 p1].toArray w fun e w2 => ∃ v, e = .returned v ∧ K v w2 :=
  denF_ok Tok (f := 18) (fn := Try.f18) (an := A_gauge_ring_int_add) (args := [.v (.pointer p0), .v (.int .i64 p1)]) (by kernel_rfl) (by kernel_rfl) ((congrFun (D_gauge_ring_int_add p0 p1 K) w).mpr h)
theorem E_gauge_ring_int_add : Enters Pr n_gauge_ring_int_add := enters_of_B (by kernel_rfl)

def A_gauge_ring_int_back : Ann := .auto
/-- (*damper/gauge.ring[int]).back -/
def F_gauge_ring_int_back (p0 : Option Addr) (K : Value → PT) : PT :=
  L.new [.pointer p0] T_p_gauge_ring_int fun b1 =>
  K (.func (.func n_gauge_ring_int_back_1) #[] #[.pointer (some (⟨b1, 0, none⟩))])
theorem D_gauge_ring_int_back (p0 : Option Addr) (K : Value → PT) : denF Pr Dt Try.f19 A_gauge_ring_int_back [.v (.pointer p0)] K = F_gauge_ring_int_back p0 K := by kernel_rfl
theorem C_gauge_ring_int_back (p0 : Option Addr) {K : Value → PT} {w : World} (h : F_gauge_ring_int_back p0 K w) : Calls Pr n_gauge_ring_int_back [.pointer p0].toArray w fun e w2 => ∃ v, e = .returned v ∧ K v w2 :=
  denF_ok Tok (f := 19) (fn := Try.f19) (an := A_gauge_ring_int_back) (args := [.v (.pointer p0)]) (by kernel_rfl) (by kernel_rfl) ((congrFun (D_gauge_ring_int_back p0 K) w).mpr h)
theorem E_gauge_ring_int_back : Enters Pr n_gauge_ring_int_back := enters_of_B (by kernel_rfl)

def A_gauge_ring_int_back_1 : Ann := (.seq .auto (.one [(3, (.one (.int .i64)))] .auto) none)
/-- (*damper/gauge.ring[int]).back$1 -/
def F_gauge_ring_int_back_1 (p0 : FV) (c0 : Addr) (K : Value → PT) : PT :=
  L.loop (Y := TJ [(3, (.one (.int .i64)))]) (1, ()) fun y1 again2 =>
  L.load (.one (.ptr)) c0 fun x3 =>
  L.nonnil x3 fun a4 =>
  L.load (.one (.int .i64)) (a4.add 60) fun x5 =>
  L.ite (decide (y1.1 ≤ (if 60 < x5 then 60 else x5))) (
    L.draw <|
    L.load (.one (.ptr)) c0 fun x6 =>
    L.load (.one (.ptr)) c0 fun x7 =>
    L.nonnil x7 fun a8 =>
    L.load (.one (.int .i64)) (a8.add 60) fun x9 =>
    L.guard (60 ≠ (0 : Int)) <|
    L.nonnil x6 fun a10 =>
    L.idx (some (a10.add 0)) (Int.tmod (IntKind.wrap .i64 (x9 - y1.1)) 60) 60 1 fun a11 =>
    L.load (.one (.int .i64)) a11 fun x12 =>
    L.callV Pr (.func p0.fn p0.fs p0.cs) [.int .i64 x12] (.one (.one (.bool))) fun x13 =>
    L.ite (!x13) (
      K (.tuple #[])) <|
    again2 (IntKind.wrap .i64 (y1.1 + 1), ())) <|
  K (.tuple #[])
theorem D_gauge_ring_int_back_1 (p0 : FV) (c0 : Addr) (K : Value → PT) : denF Pr Dt Try.f20 A_gauge_ring_int_back_1 [.v (.func p0.fn p0.fs p0.cs), .v (.pointer (some c0))] K = F_gauge_ring_int_back_1 p0 c0 K := by kernel_rfl
theorem C_gauge_ring_int_back_1 (p0 : FV) (c0 : Addr) {K : Value → PT} {w : World} (h : F_gauge_ring_int_back_1 p0 c0 K w) : Calls Pr n_gauge_ring_int_back_1 [.func p0.fn p0.fs p0.cs, .pointer (some c0)].toArray w fun e w2 => ∃ v, e = .returned v ∧ K v w2 :=
  denF_ok Tok (f := 20) (fn := Try.f20) (an := A_gauge_ring_int_back_1) (args := [.v (.func p0.fn p0.fs p0.cs), .v (.pointer (some c0))]) (by kernel_rfl) (by kernel_rfl) ((congrFun (D_gauge_ring_int_back_1 p0 c0 K) w).mpr h)
theorem E_gauge_ring_int_back_1 : Enters Pr n_gauge_ring_int_back_1 := enters_of_B (by kernel_rfl)

end Go.Proofs.Ytlikldnigjnpeaa
