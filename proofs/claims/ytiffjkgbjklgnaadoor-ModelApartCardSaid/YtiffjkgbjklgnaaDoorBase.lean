import Derived.Test.YtiffjkgbjklgnaaDoorProg
import Derived.Test.YtiffjkgbjklgnaaDoorEng
import Derived.KernelRfl
namespace Go.Proofs.YtiffjkgbjklgnaaDoor
open Go Go.Eng
noncomputable abbrev P : Program := Tryd.prog
def LS : List Nat := [2, 3, 4, 5, 6, 7, 8, 9, 10, 11, 12, 13, 14, 15, 16, 17, 18, 19, 20, 21, 22, 23, 24, 25, 26, 27, 28, 29, 30, 31, 32, 33, 34, 35, 36, 37, 38, 39, 41, 42, 43, 44, 45, 46, 47, 48, 49, 50, 51, 52, 53, 54, 55, 56, 57, 58, 59, 60, 61, 62, 63, 64, 65, 66, 67, 68, 69, 70, 71, 72, 95]
theorem bod2 : Bodied P 2 := ⟨Tryd.f2, Tryd.func2, by kernel_rfl, by kernel_rfl⟩
theorem bod3 : Bodied P 3 := ⟨Tryd.f3, Tryd.func3, by kernel_rfl, by kernel_rfl⟩
theorem bod4 : Bodied P 4 := ⟨Tryd.f4, Tryd.func4, by kernel_rfl, by kernel_rfl⟩
theorem bod5 : Bodied P 5 := ⟨Tryd.f5, Tryd.func5, by kernel_rfl, by kernel_rfl⟩
theorem bod6 : Bodied P 6 := ⟨Tryd.f6, Tryd.func6, by kernel_rfl, by kernel_rfl⟩
theorem bod7 : Bodied P 7 := ⟨Tryd.f7, Tryd.func7, by kernel_rfl, by kernel_rfl⟩
theorem bod8 : Bodied P 8 := ⟨Tryd.f8, Tryd.func8, by kernel_rfl, by kernel_rfl⟩
theorem bod9 : Bodied P 9 := ⟨Tryd.f9, Tryd.func9, by kernel_rfl, by kernel_rfl⟩
theorem bod10 : Bodied P 10 := ⟨Tryd.f10, Tryd.func10, by kernel_rfl, by kernel_rfl⟩
theorem bod11 : Bodied P 11 := ⟨Tryd.f11, Tryd.func11, by kernel_rfl, by kernel_rfl⟩
theorem bod12 : Bodied P 12 := ⟨Tryd.f12, Tryd.func12, by kernel_rfl, by kernel_rfl⟩
theorem bod13 : Bodied P 13 := ⟨Tryd.f13, Tryd.func13, by kernel_rfl, by kernel_rfl⟩
theorem bod14 : Bodied P 14 := ⟨Tryd.f14, Tryd.func14, by kernel_rfl, by kernel_rfl⟩
theorem bod15 : Bodied P 15 := ⟨Tryd.f15, Tryd.func15, by kernel_rfl, by kernel_rfl⟩
theorem bod16 : Bodied P 16 := ⟨Tryd.f16, Tryd.func16, by kernel_rfl, by kernel_rfl⟩
theorem bod17 : Bodied P 17 := ⟨Tryd.f17, Tryd.func17, by kernel_rfl, by kernel_rfl⟩
theorem bod18 : Bodied P 18 := ⟨Tryd.f18, Tryd.func18, by kernel_rfl, by kernel_rfl⟩
theorem bod19 : Bodied P 19 := ⟨Tryd.f19, Tryd.func19, by kernel_rfl, by kernel_rfl⟩
theorem bod20 : Bodied P 20 := ⟨Tryd.f20, Tryd.func20, by kernel_rfl, by kernel_rfl⟩
theorem bod21 : Bodied P 21 := ⟨Tryd.f21, Tryd.func21, by kernel_rfl, by kernel_rfl⟩
theorem bod22 : Bodied P 22 := ⟨Tryd.f22, Tryd.func22, by kernel_rfl, by kernel_rfl⟩
theorem bod23 : Bodied P 23 := ⟨Tryd.f23, Tryd.func23, by kernel_rfl, by kernel_rfl⟩
theorem bod24 : Bodied P 24 := ⟨Tryd.f24, Tryd.func24, by kernel_rfl, by kernel_rfl⟩
theorem bod25 : Bodied P 25 := ⟨Tryd.f25, Tryd.func25, by kernel_rfl, by kernel_rfl⟩
theorem bod26 : Bodied P 26 := ⟨Tryd.f26, Tryd.func26, by kernel_rfl, by kernel_rfl⟩
theorem bod27 : Bodied P 27 := ⟨Tryd.f27, Tryd.func27, by kernel_rfl, by kernel_rfl⟩
theorem bod28 : Bodied P 28 := ⟨Tryd.f28, Tryd.func28, by kernel_rfl, by kernel_rfl⟩
theorem bod29 : Bodied P 29 := ⟨Tryd.f29, Tryd.func29, by kernel_rfl, by kernel_rfl⟩
theorem bod30 : Bodied P 30 := ⟨Tryd.f30, Tryd.func30, by kernel_rfl, by kernel_rfl⟩
theorem bod31 : Bodied P 31 := ⟨Tryd.f31, Tryd.func31, by kernel_rfl, by kernel_rfl⟩
theorem bod32 : Bodied P 32 := ⟨Tryd.f32, Tryd.func32, by kernel_rfl, by kernel_rfl⟩
theorem bod33 : Bodied P 33 := ⟨Tryd.f33, Tryd.func33, by kernel_rfl, by kernel_rfl⟩
theorem bod34 : Bodied P 34 := ⟨Tryd.f34, Tryd.func34, by kernel_rfl, by kernel_rfl⟩
theorem bod35 : Bodied P 35 := ⟨Tryd.f35, Tryd.func35, by kernel_rfl, by kernel_rfl⟩
theorem bod36 : Bodied P 36 := ⟨Tryd.f36, Tryd.func36, by kernel_rfl, by kernel_rfl⟩
theorem bod37 : Bodied P 37 := ⟨Tryd.f37, Tryd.func37, by kernel_rfl, by kernel_rfl⟩
theorem bod38 : Bodied P 38 := ⟨Tryd.f38, Tryd.func38, by kernel_rfl, by kernel_rfl⟩
theorem bod39 : Bodied P 39 := ⟨Tryd.f39, Tryd.func39, by kernel_rfl, by kernel_rfl⟩
theorem bod41 : Bodied P 41 := ⟨Tryd.f41, Tryd.func41, by kernel_rfl, by kernel_rfl⟩
theorem bod42 : Bodied P 42 := ⟨Tryd.f42, Tryd.func42, by kernel_rfl, by kernel_rfl⟩
theorem bod43 : Bodied P 43 := ⟨Tryd.f43, Tryd.func43, by kernel_rfl, by kernel_rfl⟩
theorem bod44 : Bodied P 44 := ⟨Tryd.f44, Tryd.func44, by kernel_rfl, by kernel_rfl⟩
theorem bod45 : Bodied P 45 := ⟨Tryd.f45, Tryd.func45, by kernel_rfl, by kernel_rfl⟩
theorem bod46 : Bodied P 46 := ⟨Tryd.f46, Tryd.func46, by kernel_rfl, by kernel_rfl⟩
theorem bod47 : Bodied P 47 := ⟨Tryd.f47, Tryd.func47, by kernel_rfl, by kernel_rfl⟩
theorem bod48 : Bodied P 48 := ⟨Tryd.f48, Tryd.func48, by kernel_rfl, by kernel_rfl⟩
theorem bod49 : Bodied P 49 := ⟨Tryd.f49, Tryd.func49, by kernel_rfl, by kernel_rfl⟩
theorem bod50 : Bodied P 50 := ⟨Tryd.f50, Tryd.func50, by kernel_rfl, by kernel_rfl⟩
theorem bod51 : Bodied P 51 := ⟨Tryd.f51, Tryd.func51, by kernel_rfl, by kernel_rfl⟩
theorem bod52 : Bodied P 52 := ⟨Tryd.f52, Tryd.func52, by kernel_rfl, by kernel_rfl⟩
theorem bod53 : Bodied P 53 := ⟨Tryd.f53, Tryd.func53, by kernel_rfl, by kernel_rfl⟩
theorem bod54 : Bodied P 54 := ⟨Tryd.f54, Tryd.func54, by kernel_rfl, by kernel_rfl⟩
theorem bod55 : Bodied P 55 := ⟨Tryd.f55, Tryd.func55, by kernel_rfl, by kernel_rfl⟩
theorem bod56 : Bodied P 56 := ⟨Tryd.f56, Tryd.func56, by kernel_rfl, by kernel_rfl⟩
theorem bod57 : Bodied P 57 := ⟨Tryd.f57, Tryd.func57, by kernel_rfl, by kernel_rfl⟩
theorem bod58 : Bodied P 58 := ⟨Tryd.f58, Tryd.func58, by kernel_rfl, by kernel_rfl⟩
theorem bod59 : Bodied P 59 := ⟨Tryd.f59, Tryd.func59, by kernel_rfl, by kernel_rfl⟩
theorem bod60 : Bodied P 60 := ⟨Tryd.f60, Tryd.func60, by kernel_rfl, by kernel_rfl⟩
theorem bod61 : Bodied P 61 := ⟨Tryd.f61, Tryd.func61, by kernel_rfl, by kernel_rfl⟩
theorem bod62 : Bodied P 62 := ⟨Tryd.f62, Tryd.func62, by kernel_rfl, by kernel_rfl⟩
theorem bod63 : Bodied P 63 := ⟨Tryd.f63, Tryd.func63, by kernel_rfl, by kernel_rfl⟩
theorem bod64 : Bodied P 64 := ⟨Tryd.f64, Tryd.func64, by kernel_rfl, by kernel_rfl⟩
theorem bod65 : Bodied P 65 := ⟨Tryd.f65, Tryd.func65, by kernel_rfl, by kernel_rfl⟩
theorem bod66 : Bodied P 66 := ⟨Tryd.f66, Tryd.func66, by kernel_rfl, by kernel_rfl⟩
theorem bod67 : Bodied P 67 := ⟨Tryd.f67, Tryd.func67, by kernel_rfl, by kernel_rfl⟩
theorem bod68 : Bodied P 68 := ⟨Tryd.f68, Tryd.func68, by kernel_rfl, by kernel_rfl⟩
theorem bod69 : Bodied P 69 := ⟨Tryd.f69, Tryd.func69, by kernel_rfl, by kernel_rfl⟩
theorem bod70 : Bodied P 70 := ⟨Tryd.f70, Tryd.func70, by kernel_rfl, by kernel_rfl⟩
theorem bod71 : Bodied P 71 := ⟨Tryd.f71, Tryd.func71, by kernel_rfl, by kernel_rfl⟩
theorem bod72 : Bodied P 72 := ⟨Tryd.f72, Tryd.func72, by kernel_rfl, by kernel_rfl⟩
theorem bod95 : Bodied P 95 := ⟨Tryd.f95, Tryd.func95, by kernel_rfl, by kernel_rfl⟩
theorem good : Good P LS := ⟨by
  intro k hk
  simp only [LS, List.mem_cons, List.not_mem_nil, or_false] at hk
  rcases hk with rfl | rfl | rfl | rfl | rfl | rfl | rfl | rfl | rfl | rfl | rfl | rfl | rfl | rfl | rfl | rfl | rfl | rfl | rfl | rfl | rfl | rfl | rfl | rfl | rfl | rfl | rfl | rfl | rfl | rfl | rfl | rfl | rfl | rfl | rfl | rfl | rfl | rfl | rfl | rfl | rfl | rfl | rfl | rfl | rfl | rfl | rfl | rfl | rfl | rfl | rfl | rfl | rfl | rfl | rfl | rfl | rfl | rfl | rfl | rfl | rfl | rfl | rfl | rfl | rfl | rfl | rfl | rfl | rfl | rfl | rfl
  · exact bod2
  · exact bod3
  · exact bod4
  · exact bod5
  · exact bod6
  · exact bod7
  · exact bod8
  · exact bod9
  · exact bod10
  · exact bod11
  · exact bod12
  · exact bod13
  · exact bod14
  · exact bod15
  · exact bod16
  · exact bod17
  · exact bod18
  · exact bod19
  · exact bod20
  · exact bod21
  · exact bod22
  · exact bod23
  · exact bod24
  · exact bod25
  · exact bod26
  · exact bod27
  · exact bod28
  · exact bod29
  · exact bod30
  · exact bod31
  · exact bod32
  · exact bod33
  · exact bod34
  · exact bod35
  · exact bod36
  · exact bod37
  · exact bod38
  · exact bod39
  · exact bod41
  · exact bod42
  · exact bod43
  · exact bod44
  · exact bod45
  · exact bod46
  · exact bod47
  · exact bod48
  · exact bod49
  · exact bod50
  · exact bod51
  · exact bod52
  · exact bod53
  · exact bod54
  · exact bod55
  · exact bod56
  · exact bod57
  · exact bod58
  · exact bod59
  · exact bod60
  · exact bod61
  · exact bod62
  · exact bod63
  · exact bod64
  · exact bod65
  · exact bod66
  · exact bod67
  · exact bod68
  · exact bod69
  · exact bod70
  · exact bod71
  · exact bod72
  · exact bod95, by kernel_rfl⟩
@[reducible] def N_gosem_cut_init : FuncId := 2
@[reducible] def N_garthlaw23_ModelApart : FuncId := 3
@[reducible] def N_garthlaw23_ModelNil : FuncId := 4
@[reducible] def N_garthlaw23_ModelCopy : FuncId := 5
@[reducible] def N_model_New : FuncId := 6
@[reducible] def N_garthlaw23_awake : FuncId := 7
@[reducible] def N_garthlaw21_Long : FuncId := 8
@[reducible] def N_model_Model_Do : FuncId := 9
@[reducible] def N_model_Model_Copy : FuncId := 10
@[reducible] def N_model_Model_Object : FuncId := 11
@[reducible] def N_model_Model_Live : FuncId := 12
@[reducible] def N_model_Model_Charged : FuncId := 13
@[reducible] def N_model_Model_Free : FuncId := 14
@[reducible] def N_op_Check : FuncId := 15
@[reducible] def N_model_Model_create : FuncId := 16
@[reducible] def N_model_Model_resize : FuncId := 17
@[reducible] def N_model_Model_destroy : FuncId := 18
@[reducible] def N_model_part_do : FuncId := 19
@[reducible] def N_caps_Caps_Copy : FuncId := 20
@[reducible] def N_maps_Clone_map_int_model_object_int_model_object : FuncId := 21
@[reducible] def N_slices_Clone_byte_byte : FuncId := 22
@[reducible] def N_model_Model_at : FuncId := 23
@[reducible] def N_caps_Caps_Find : FuncId := 24
@[reducible] def N_model_part_charged : FuncId := 25
@[reducible] def N_model_Model_may : FuncId := 26
@[reducible] def N_demand_Fits : FuncId := 27
@[reducible] def N_model_Model_room : FuncId := 28
@[reducible] def N_caps_New : FuncId := 29
@[reducible] def N_model_part_next : FuncId := 30
@[reducible] def N_caps_Caps_Serial : FuncId := 31
@[reducible] def N_model_part_make : FuncId := 32
@[reducible] def N_op_Asks : FuncId := 33
@[reducible] def N_model_part_drop : FuncId := 34
@[reducible] def N_model_part_realloc : FuncId := 35
@[reducible] def N_model_part_span : FuncId := 36
@[reducible] def N_caps_Caps_Restrict : FuncId := 37
@[reducible] def N_maps_Clone_map_int_caps_slot_int_caps_slot : FuncId := 38
@[reducible] def N_shelf_Shelf_Copy : FuncId := 39
@[reducible] def N_caps_Caps_find : FuncId := 41
@[reducible] def N_caps_good_may : FuncId := 42
@[reducible] def N_demand_Of : FuncId := 43
@[reducible] def N_sum_Sum_Pages : FuncId := 44
@[reducible] def N_shelf_New : FuncId := 45
@[reducible] def N_class_Charge : FuncId := 46
@[reducible] def N_caps_Caps_Grant : FuncId := 47
@[reducible] def N_class_Of : FuncId := 48
@[reducible] def N_caps_Caps_Revoke : FuncId := 49
@[reducible] def N_caps_Caps_put : FuncId := 50
@[reducible] def N_slices_Clone_uint64_uint64 : FuncId := 51
@[reducible] def N_handle_Unpack : FuncId := 52
@[reducible] def N_demand_may : FuncId := 53
@[reducible] def N_demand_Runs : FuncId := 54
@[reducible] def N_demand_By : FuncId := 55
@[reducible] def N_sum_Sum_Right : FuncId := 56
@[reducible] def N_class_Unit : FuncId := 57
@[reducible] def N_class_small : FuncId := 58
@[reducible] def N_shelf_Shelf_Give : FuncId := 59
@[reducible] def N_shelf_Shelf_Take : FuncId := 60
@[reducible] def N_handle_Pack : FuncId := 61
@[reducible] def N_handle_Check : FuncId := 62
@[reducible] def N_class_Per : FuncId := 63
@[reducible] def N_sum_whole : FuncId := 64
@[reducible] def N_class_within : FuncId := 65
@[reducible] def N_class_Pages : FuncId := 66
@[reducible] def N_shelf_Shelf_within : FuncId := 67
@[reducible] def N_shelf_Shelf_Taken : FuncId := 68
@[reducible] def N_shelf_Shelf_turn : FuncId := 69
@[reducible] def N_shelf_Shelf_Lowest : FuncId := 70
@[reducible] def N_handle_within : FuncId := 71
@[reducible] def N_bits_TrailingZeros64 : FuncId := 72
@[reducible] def N_gosem_cut_vars : FuncId := 95
@[reducible, simp] def T_ : TypeId := 0
@[reducible, simp] def T_func : TypeId := 1
@[reducible, simp] def T_int64 : TypeId := 2
@[reducible, simp] def T_int : TypeId := 3
@[reducible, simp] def T_bool : TypeId := 4
@[reducible, simp] def T_uint8 : TypeId := 5
@[reducible, simp] def T_abi_BoundsErrorCode : TypeId := 6
@[reducible, simp] def T_struct_x_int64_y_int_signed_bool_code_abi_BoundsErrorCode : TypeId := 7
@[reducible, simp] def T_runtime_boundsError : TypeId := 8
@[reducible, simp] def T_string : TypeId := 9
@[reducible, simp] def T_runtime_errorString : TypeId := 10
@[reducible, simp] def T_runtime_plainError : TypeId := 11
@[reducible, simp] def T_uintptr : TypeId := 12
@[reducible, simp] def T_struct_msg_string_addr_uintptr : TypeId := 13
@[reducible, simp] def T_runtime_errorAddressString : TypeId := 14
@[reducible, simp] def T_p_runtime_TypeAssertionError : TypeId := 15
@[reducible, simp] def T_p_runtime_PanicNilError : TypeId := 16
@[reducible, simp] def T_p_abi_Type : TypeId := 17
@[reducible, simp] def T_struct_typ_p_abi_Type : TypeId := 18
@[reducible, simp] def T_maps_unhashableTypeError : TypeId := 19
@[reducible, simp] def T_interface : TypeId := 20
@[reducible, simp] def T_int32 : TypeId := 21
@[reducible, simp] def T_struct_Pages_int_Colours_int : TypeId := 22
@[reducible, simp] def T_api_Config : TypeId := 23
@[reducible, simp] def T_sl_api_Op : TypeId := 24
@[reducible, simp] def T_uint : TypeId := 25
@[reducible, simp] def T_p_model_Model : TypeId := 26
@[reducible, simp] def T_api_Errno : TypeId := 27
@[reducible, simp] def T_p_model_Model_api_Errno : TypeId := 28
@[reducible, simp] def T_func_api_Config_p_model_Model_api_Errno : TypeId := 29
@[reducible, simp] def T_func_bool : TypeId := 30
@[reducible, simp] def T_func_api_Config_sl_api_Op_int_bool : TypeId := 31
@[reducible, simp] def T_uint64 : TypeId := 32
@[reducible, simp] def T_struct_Kind_int_Tenant_int_N_int_M_int_Handle_uint64_Data_string : TypeId := 33
@[reducible, simp] def T_api_Op : TypeId := 34
@[reducible, simp] def T_struct_Err_api_Errno_Handle_uint64_Addr_int_N_int_Data_string_Charged_int : TypeId := 35
@[reducible, simp] def T_api_Answer : TypeId := 36
@[reducible, simp] def T_func_api_Op_api_Answer : TypeId := 37
@[reducible, simp] def T_func_p_model_Model : TypeId := 38
@[reducible, simp] def T_string_bool : TypeId := 39
@[reducible, simp] def T_func_int_uint64_string_bool : TypeId := 40
@[reducible, simp] def T_func_int_bool : TypeId := 41
@[reducible, simp] def T_func_int_int : TypeId := 42
@[reducible, simp] def T_func_int : TypeId := 43
@[reducible, simp] def T_func_api_Op_int_bool : TypeId := 44
@[reducible, simp] def T_sl_api_Answer : TypeId := 45
@[reducible, simp] def T_func_api_Config_sl_api_Op_sl_api_Op_bool : TypeId := 46
@[reducible, simp] def T_p_model_part : TypeId := 47
@[reducible, simp] def T_8_p_model_part : TypeId := 48
@[reducible, simp] def T_8_int : TypeId := 49
@[reducible, simp] def T_struct_conf_api_Config_parts_8_p_model_part_serials_8_int : TypeId := 50
@[reducible, simp] def T_model_Model : TypeId := 51
@[reducible, simp] def T_func_api_Op_api_Errno : TypeId := 52
@[reducible, simp] def T_func_int_int_int_api_Errno : TypeId := 53
@[reducible, simp] def T_func_int_api_Errno : TypeId := 54
@[reducible, simp] def T_p_caps_Caps : TypeId := 55
@[reducible, simp] def T_map_int_model_object : TypeId := 56
@[reducible, simp] def T_struct_p_caps_Caps_colours_int_quota_int_peak_int_objects_map_int_model_object_made_int : TypeId := 57
@[reducible, simp] def T_model_part : TypeId := 58
@[reducible, simp] def T_func_p_caps_Caps : TypeId := 59
@[reducible, simp] def T_func_map_int_model_object_map_int_model_object : TypeId := 60
@[reducible, simp] def T_sl_uint8 : TypeId := 61
@[reducible, simp] def T_struct_bytes_sl_uint8_cost_int : TypeId := 62
@[reducible, simp] def T_model_object : TypeId := 63
@[reducible, simp] def T_func_sl_uint8_sl_uint8 : TypeId := 64
@[reducible, simp] def T_func_int_p_model_part : TypeId := 65
@[reducible, simp] def T_int_api_Errno : TypeId := 66
@[reducible, simp] def T_func_uint64_int_int_api_Errno : TypeId := 67
@[reducible, simp] def T_func_int_int_bool : TypeId := 68
@[reducible, simp] def T_p_caps_Caps_api_Errno : TypeId := 69
@[reducible, simp] def T_func_int_int_p_caps_Caps_api_Errno : TypeId := 70
@[reducible, simp] def T_uint64_api_Errno : TypeId := 71
@[reducible, simp] def T_func_int_uint64_api_Errno : TypeId := 72
@[reducible, simp] def T_func_api_Op_int : TypeId := 73
@[reducible, simp] def T_func_uint64_int_uint64_api_Errno : TypeId := 75
@[reducible, simp] def T_sl_uint8_api_Errno : TypeId := 76
@[reducible, simp] def T_func_uint64_int_int_int_sl_uint8_api_Errno : TypeId := 77
@[reducible, simp] def T_map_int_caps_slot : TypeId := 78
@[reducible, simp] def T_p_shelf_Shelf : TypeId := 79
@[reducible, simp] def T_struct_tenant_int_next_int_slots_map_int_caps_slot_objects_p_shelf_Shelf_extra_p_shelf_Shelf : TypeId := 80
@[reducible, simp] def T_caps_Caps : TypeId := 81
@[reducible, simp] def T_func_map_int_caps_slot_map_int_caps_slot : TypeId := 82
@[reducible, simp] def T_struct_rights_int_serial_int : TypeId := 83
@[reducible, simp] def T_caps_good : TypeId := 84
@[reducible, simp] def T_struct_caps_good_addr_int : TypeId := 85
@[reducible, simp] def T_caps_slot : TypeId := 86
@[reducible, simp] def T_func_p_shelf_Shelf : TypeId := 87
@[reducible, simp] def T_func_interface_interface : TypeId := 88
@[reducible, simp] def T_caps_slot_api_Errno : TypeId := 89
@[reducible, simp] def T_func_uint64_caps_slot_api_Errno : TypeId := 90
@[reducible, simp] def T_complex128 : TypeId := 91
@[reducible, simp] def T_sum_Sum : TypeId := 92
@[reducible, simp] def T_sum_Sum_api_Errno : TypeId := 93
@[reducible, simp] def T_func_int_sum_Sum_api_Errno : TypeId := 94
@[reducible, simp] def T_p_shelf_Shelf_api_Errno : TypeId := 95
@[reducible, simp] def T_func_int_p_shelf_Shelf_api_Errno : TypeId := 96
@[reducible, simp] def T_func_p_shelf_Shelf_int_int_int_uint64_api_Errno : TypeId := 97
@[reducible, simp] def T_sl_uint64 : TypeId := 98
@[reducible, simp] def T_func_sl_uint64_sl_uint64 : TypeId := 99
@[reducible, simp] def T_struct_words_sl_uint64_size_int_free_int : TypeId := 100
@[reducible, simp] def T_shelf_Shelf : TypeId := 101
@[reducible, simp] def T_struct_Tenant_int_Slot_int_Rights_int_Serial_int : TypeId := 102
@[reducible, simp] def T_api_Key : TypeId := 103
@[reducible, simp] def T_api_Key_api_Errno : TypeId := 104
@[reducible, simp] def T_func_uint64_api_Key_api_Errno : TypeId := 105
@[reducible, simp] def T_caps_slot_bool : TypeId := 106
@[reducible, simp] def T_float64 : TypeId := 107
@[reducible, simp] def T_func_int_int_int : TypeId := 108
@[reducible, simp] def T_func_api_Key_uint64_api_Errno : TypeId := 110
@[reducible, simp] def T_func_api_Key_api_Errno : TypeId := 111
@[reducible, simp] def T_func_float64_bool : TypeId := 112
@[reducible, simp] def T_func_int_int_int_bool : TypeId := 114
@[reducible, simp] def T_func_uint64_int : TypeId := 115
@[reducible, simp] def T_64_uint8 : TypeId := 116
@[reducible, simp] def T_func_string : TypeId := 117
@[reducible, simp] def T_struct_interface_p_abi_Type_concrete_p_abi_Type_asserted_p_abi_Type_missingMethod_string : TypeId := 118
@[reducible, simp] def T_runtime_TypeAssertionError : TypeId := 119
@[reducible, simp] def T_0_p_runtime_PanicNilError : TypeId := 120
@[reducible, simp] def T_struct_0_p_runtime_PanicNilError : TypeId := 121
@[reducible, simp] def T_runtime_PanicNilError : TypeId := 122
@[reducible, simp] def T_uint32 : TypeId := 123
@[reducible, simp] def T_abi_TFlag : TypeId := 124
@[reducible, simp] def T_abi_Kind : TypeId := 125
@[reducible, simp] def T_func_unsafe_Pointer_unsafe_Pointer_bool : TypeId := 126
@[reducible, simp] def T_p_uint8 : TypeId := 127
@[reducible, simp] def T_abi_NameOff : TypeId := 128
@[reducible, simp] def T_abi_TypeOff : TypeId := 129
@[reducible, simp] def T_struct_Size_uintptr_PtrBytes_uintptr_Hash_uint32_TFlag_abi_TFlag_Align_uint8_FieldAlign_uint8_Kind_abi_Kind_Equal_func_unsafe_Pointer_unsafe_Pointer_bool_GCData_p_uint8_Str_abi_NameOff_PtrToThis_abi_TypeOff : TypeId := 130
@[reducible, simp] def T_abi_Type : TypeId := 131
@[reducible, simp] def T_unsafe_Pointer : TypeId := 132
end Go.Proofs.YtiffjkgbjklgnaaDoor
