import Derived.Test.YtepclihkniaieaaDoorVc
import Derived.Test.YtepclihkniaieaaDoorChecked
import Derived.Eval
namespace Go.Proofs.YtepclihkniaieaaDoor
open Go Go.Vc
open Go.RowKit (Below)
set_option linter.unusedVariables false

noncomputable abbrev Pg : Program := Tryd.prog
abbrev T.y_t0 : TypeId := 0
abbrev T.y_func : TypeId := 1
abbrev T.y_int64 : TypeId := 2
abbrev T.y_int : TypeId := 3
abbrev T.y_bool : TypeId := 4
abbrev T.y_uint8 : TypeId := 5
abbrev T.y_abi_BoundsErrorCode : TypeId := 6
abbrev T.y_struct_x_int64_y_int_signed_bool_code_ab_7 : TypeId := 7
abbrev T.y_runtime_boundsError : TypeId := 8
abbrev T.y_string : TypeId := 9
abbrev T.y_runtime_errorString : TypeId := 10
abbrev T.y_runtime_plainError : TypeId := 11
abbrev T.y_uintptr : TypeId := 12
abbrev T.y_struct_msg_string_addr_uintptr : TypeId := 13
abbrev T.y_runtime_errorAddressString : TypeId := 14
abbrev T.y_p_runtime_TypeAssertionError : TypeId := 15
abbrev T.y_p_runtime_PanicNilError : TypeId := 16
abbrev T.y_p_abi_Type : TypeId := 17
abbrev T.y_struct_typ_p_abi_Type : TypeId := 18
abbrev T.y_maps_unhashableTypeError : TypeId := 19
abbrev T.y_interface : TypeId := 20
abbrev T.y_int32 : TypeId := 21
abbrev T.y_func_bool : TypeId := 22
abbrev T.y_sl_uint8 : TypeId := 23
abbrev T.y_api_Errno : TypeId := 24
abbrev T.y_string_api_Errno : TypeId := 25
abbrev T.y_func_table_Name_string_api_Errno : TypeId := 26
abbrev T.y_struct_Name_string_Plan_int : TypeId := 27
abbrev T.y_table_Name : TypeId := 28
abbrev T.y_func_string_bool : TypeId := 29
abbrev T.y_func_string_int_bool : TypeId := 30
abbrev T.y_sl_table_Name : TypeId := 31
abbrev T.y_sl_string : TypeId := 32
abbrev T.y_func_sl_table_Name_bool : TypeId := 33
abbrev T.y_func_int_int_sl_string_bool : TypeId := 34
abbrev T.y_func_sl_masonryref1_Name_string_api_Errn_35 : TypeId := 35
abbrev T.y_sl_masonryref1_Name : TypeId := 36
abbrev T.y_func_sl_table_Name_sl_masonryref1_Name : TypeId := 37
abbrev T.y_sl_table_Name_api_Errno : TypeId := 38
abbrev T.y_func_string_sl_table_Name_api_Errno : TypeId := 39
abbrev T.y_sl_masonryref1_Name_api_Errno : TypeId := 40
abbrev T.y_func_string_sl_masonryref1_Name_api_Errn_41 : TypeId := 41
abbrev T.y_func_sl_table_Name_sl_masonryref1_Name_b_42 : TypeId := 42
abbrev T.y_int_bool : TypeId := 43
abbrev T.y_func_sl_table_Name_string_int_bool : TypeId := 44
abbrev T.y_func_sl_string_sl_string : TypeId := 45
abbrev T.y_func_sl_table_Name_table_Name_sl_table_N_46 : TypeId := 46
abbrev T.y_func_sl_table_Name_string_sl_table_Name : TypeId := 47
abbrev T.y_func_sl_string_sl_string_bool : TypeId := 48
abbrev T.y_func_sl_table_Name_table_Name_sl_string__49 : TypeId := 49
abbrev T.y_func_sl_table_Name_string_bool : TypeId := 50
abbrev T.y_sl_sl_int : TypeId := 51
abbrev T.y_sl_int : TypeId := 52
abbrev T.y_struct_Seq_int_Full_bool_Targets_sl_int : TypeId := 53
abbrev T.y_head_Head : TypeId := 54
abbrev T.y_func_head_Head_int_head_Head : TypeId := 55
abbrev T.y_func_head_Head_string_api_Errno : TypeId := 56
abbrev T.y_head_Head_api_Errno : TypeId := 57
abbrev T.y_func_string_head_Head_api_Errno : TypeId := 58
abbrev T.y_func_head_Head_head_Head_bool : TypeId := 59
abbrev T.y_func_head_Head_head_Head : TypeId := 60
abbrev T.y_func_sl_sl_int_bool : TypeId := 61
abbrev T.y_p_bits_Out : TypeId := 62
abbrev T.y_struct_b_sl_uint8_e_api_Errno : TypeId := 63
abbrev T.y_bits_Out : TypeId := 64
abbrev T.y_func_int_p_bits_Out : TypeId := 65
abbrev T.y_func_string_p_bits_Out : TypeId := 66
abbrev T.y_func_string_api_Errno : TypeId := 67
abbrev T.y_func_string_string_string : TypeId := 68
abbrev T.y_func_int_int_int : TypeId := 69
abbrev T.y_masonryref1_Name : TypeId := 70
abbrev T.y_func_uint64_int_string : TypeId := 71
abbrev T.y_uint64 : TypeId := 72
abbrev T.y_p_bits_In : TypeId := 73
abbrev T.y_func_string_p_bits_In : TypeId := 74
abbrev T.y_func_int : TypeId := 75
abbrev T.y_func_int_string : TypeId := 76
abbrev T.y_func_api_Errno : TypeId := 77
abbrev T.y_p_masonryref1_In : TypeId := 78
abbrev T.y_struct_B_string_Err_api_Errno : TypeId := 79
abbrev T.y_masonryref1_In : TypeId := 80
abbrev T.y_func_int_int : TypeId := 81
abbrev T.y_func_int_func_int_bool_int : TypeId := 82
abbrev T.y_func_int_bool : TypeId := 83
abbrev T.y_func_sl_table_Name_sl_table_Name : TypeId := 84
abbrev T.y_func_sl_table_Name_int_table_Name_sl_tab_85 : TypeId := 85
abbrev T.y_func_sl_table_Name_func_table_Name_bool__86 : TypeId := 86
abbrev T.y_func_sl_string_string_bool : TypeId := 87
abbrev T.y_func_table_Name_bool : TypeId := 88
abbrev T.y_func_sl_int_sl_int : TypeId := 89
abbrev T.y_func_sl_int : TypeId := 90
abbrev T.y_func_head_Head_bool : TypeId := 91
abbrev T.y_func_int_string_string_api_Errno : TypeId := 92
abbrev T.y_func_string_string_api_Errno : TypeId := 93
abbrev T.y_func_int_sl_int_p_bits_Out : TypeId := 94
abbrev T.y_func_string_uint8_string : TypeId := 95
abbrev T.y_256_bool : TypeId := 96
abbrev T.y_strings_asciiSet : TypeId := 97
abbrev T.y_strings_asciiSet_bool : TypeId := 98
abbrev T.y_func_string_strings_asciiSet_bool : TypeId := 99
abbrev T.y_func_string_p_strings_asciiSet_string : TypeId := 100
abbrev T.y_p_strings_asciiSet : TypeId := 101
abbrev T.y_struct_b_string_e_api_Errno : TypeId := 102
abbrev T.y_bits_In : TypeId := 103
abbrev T.y_func_string_string : TypeId := 104
abbrev T.y_func_string_uint64 : TypeId := 105
abbrev T.y_uint : TypeId := 106
abbrev T.y_func_sl_table_Name_sl_table_Name_bool : TypeId := 107
abbrev T.y_func_sl_table_Name_int : TypeId := 108
abbrev T.y_func_sl_table_Name_func_table_Name_bool__109 : TypeId := 109
abbrev T.y_func_sl_string_string_int : TypeId := 110
abbrev T.y_func_sl_int_int_int_int : TypeId := 111
abbrev T.y_func_uint_int : TypeId := 112
abbrev T.y_func_int_p_bits_Out_113 : TypeId := 113
abbrev T.y_uint32 : TypeId := 114
abbrev T.y_func_string_uint32 : TypeId := 115
abbrev T.y_func_uint8_bool : TypeId := 116
abbrev T.y_int32_int : TypeId := 117
abbrev T.y_func_string_int32_int : TypeId := 118
abbrev T.y_func_string_int32_bool : TypeId := 119
abbrev T.y_func_sl_int_int_int : TypeId := 120
abbrev T.y_slices_sortedHint : TypeId := 121
abbrev T.y_int_slices_sortedHint : TypeId := 122
abbrev T.y_func_sl_int_int_int_int_slices_sortedHin_123 : TypeId := 123
abbrev T.y_func_sl_int_int_int_bool : TypeId := 124
abbrev T.y_func_int_int_bool : TypeId := 125
abbrev T.y_func_sl_int_int_int_int_int : TypeId := 126
abbrev T.y_func_sl_int_int_int_int_int_bool : TypeId := 127
abbrev T.y_func_uint32_int : TypeId := 128
abbrev T.y_func_uint64_int : TypeId := 129
abbrev T.y_16_uint32 : TypeId := 130
abbrev T.y_func_16_uint32 : TypeId := 131
abbrev T.y_func_string_int32_int_132 : TypeId := 132
abbrev T.y_p_uint8 : TypeId := 133
abbrev T.y_func_sl_table_Name : TypeId := 134
abbrev T.y_slices_xorshift : TypeId := 135
abbrev T.y_func_int_uint : TypeId := 136
abbrev T.y_func_uint64 : TypeId := 137
abbrev T.y_func_sl_int_int_p_int_int : TypeId := 138
abbrev T.y_p_int : TypeId := 139
abbrev T.y_func_sl_int_int_int_int_p_int_int : TypeId := 140
abbrev T.y_256_uint8 : TypeId := 141
abbrev T.y_struct_lo_uint8_hi_uint8 : TypeId := 142
abbrev T.y_utf8_acceptRange : TypeId := 143
abbrev T.y_16_utf8_acceptRange : TypeId := 144
abbrev T.y_func_string_uint8_int : TypeId := 145
abbrev T.y_func_int32_bool : TypeId := 146
abbrev T.y_func_string_string_int : TypeId := 147
abbrev T.y_p_slices_xorshift : TypeId := 148
abbrev T.y_int_int : TypeId := 149
abbrev T.y_func_sl_int_int_int_p_int_int_int : TypeId := 150
abbrev T.y_func_string : TypeId := 151
abbrev T.y_struct__interface_p_abi_Type_concrete_p__152 : TypeId := 152
abbrev T.y_runtime_TypeAssertionError : TypeId := 153
abbrev T.y_0_p_runtime_PanicNilError : TypeId := 154
abbrev T.y_struct___0_p_runtime_PanicNilError : TypeId := 155
abbrev T.y_runtime_PanicNilError : TypeId := 156
abbrev T.y_abi_TFlag : TypeId := 157
abbrev T.y_abi_Kind : TypeId := 158
abbrev T.y_func_unsafe_Pointer_unsafe_Pointer_bool : TypeId := 159
abbrev T.y_abi_NameOff : TypeId := 160
abbrev T.y_abi_TypeOff : TypeId := 161
abbrev T.y_struct_Size__uintptr_PtrBytes_uintptr_Ha_162 : TypeId := 162
abbrev T.y_abi_Type : TypeId := 163
abbrev T.y_unsafe_Pointer : TypeId := 164
def str_z : ByteArray := ⟨#[122]⟩
def str_mark : ByteArray := ⟨#[109, 97, 114, 107]⟩
def str_a : ByteArray := ⟨#[97]⟩
def str_c : ByteArray := ⟨#[99]⟩
def str_b : ByteArray := ⟨#[98]⟩
def str_ab1 : ByteArray := ⟨#[97, 46, 98, 64, 49]⟩
def str_A : ByteArray := ⟨#[65]⟩
def str_abcdefghijkl : ByteArray := ⟨#[97, 98, 99, 100, 101, 102, 103, 104, 105, 106, 107, 108, 109, 110, 111, 112, 113, 114, 115, 116, 117, 118, 119, 120, 121, 122, 48, 49, 50, 51, 52, 53, 54, 55, 56, 57, 46, 64]⟩
def str_x : ByteArray := ⟨#[0]⟩
def str_x_ : ByteArray := ⟨#[0, 1, 2, 2, 3, 3, 3, 3, 4, 4, 4, 4, 4, 4, 4, 4, 5, 5, 5, 5, 5, 5, 5, 5, 5, 5, 5, 5, 5, 5, 5, 5, 6, 6, 6, 6, 6, 6, 6, 6, 6, 6, 6, 6, 6, 6, 6, 6, 6, 6, 6, 6, 6, 6, 6, 6, 6, 6, 6, 6, 6, 6, 6, 6, 7, 7, 7, 7, 7, 7, 7, 7, 7, 7, 7, 7, 7, 7, 7, 7, 7, 7, 7, 7, 7, 7, 7, 7, 7, 7, 7, 7, 7, 7, 7, 7, 7, 7, 7, 7, 7, 7, 7, 7, 7, 7, 7, 7, 7, 7, 7, 7, 7, 7, 7, 7, 7, 7, 7, 7, 7, 7, 7, 7, 7, 7, 7, 7, 8, 8, 8, 8, 8, 8, 8, 8, 8, 8, 8, 8, 8, 8, 8, 8, 8, 8, 8, 8, 8, 8, 8, 8, 8, 8, 8, 8, 8, 8, 8, 8, 8, 8, 8, 8, 8, 8, 8, 8, 8, 8, 8, 8, 8, 8, 8, 8, 8, 8, 8, 8, 8, 8, 8, 8, 8, 8, 8, 8, 8, 8, 8, 8, 8, 8, 8, 8, 8, 8, 8, 8, 8, 8, 8, 8, 8, 8, 8, 8, 8, 8, 8, 8, 8, 8, 8, 8, 8, 8, 8, 8, 8, 8, 8, 8, 8, 8, 8, 8, 8, 8, 8, 8, 8, 8, 8, 8, 8, 8, 8, 8, 8, 8, 8, 8, 8, 8, 8, 8, 8, 8, 8, 8, 8, 8, 8, 8]⟩
def okl : List Nat := [3, 4, 5, 6, 7, 8, 9, 10, 11, 12, 13, 14, 15, 16, 17, 18, 19, 20, 21, 22, 23, 24, 25, 26, 27, 28, 29, 30, 31, 32, 33, 34, 35, 36, 37, 38, 39, 40, 41, 42, 43, 44, 45, 46, 47, 48, 49, 50, 51, 52, 53, 54, 55, 56, 57, 58, 59, 60, 61, 62, 64, 65, 66, 67, 68, 69, 70, 71, 73, 74, 75, 76, 77, 78, 79, 80, 81, 82, 83, 84, 85, 86, 87, 88, 89, 90, 91, 92, 93, 94, 95, 96, 97, 98, 99, 100, 101, 102, 103, 104, 105, 106, 107, 108, 109, 110, 111, 112, 114, 115, 138]
def eqs : TypeId → Option (List Sh)
  | 28 => some [.str, .int .i64]
  | _ => none
noncomputable def cfg : Cfg := { P := Tryd.prog, okf := fun f => memB f okl, eqs := eqs }
theorem okl_ok : okl.all (okChk Tryd.prog) = true := by kernel_rfl
theorem eq_28 : eqChk Tryd.prog 6 28 [.str, .int .i64] = true := by kernel_rfl
theorem cfg_ok : CfgOk cfg where
  okf := fun f h => okChk_spec (List.all_eq_true.1 okl_ok f ((memB_iff f okl).1 h))
  mixed := Checked.mixed Tryd.checked
  eqs := fun t sh h => by
    unfold cfg eqs at h
    simp only at h
    split at h
    · injection h with h; subst h; exact eqChk_spec (by decide) eq_28
    · cases h
/-- masonrylaw21.TableNames -/
def F.masonrylaw21_TableNames (s : ByteArray) (n : Int) (w : World) (R : Bool → World → Prop) : Prop := RetT Pg [.one .bool] 3 #[.string s, .int .i64 n] w R
theorem F.masonrylaw21_TableNames_mono {s : ByteArray} {n : Int} {w : World} {R R' : Bool → World → Prop} (h : F.masonrylaw21_TableNames s n w R) (hR : ∀ x0 w', R x0 w' → R' x0 w') : F.masonrylaw21_TableNames s n w R' :=
  Calls.mono h fun e w' hx => by
    obtain ⟨x0, he, hr⟩ := hx
    exact ⟨x0, he, hR x0 w' hr⟩
/-- masonrylaw21.TableTells -/
def F.masonrylaw21_TableTells (l : Sl) (n_0 : ByteArray) (n_1 : Int) (cut : Sl) (b : ByteArray) (w : World) (R : Bool → World → Prop) : Prop := RetT Pg [.one .bool] 4 #[.slice l.a l.len l.cap, .agg #[.string n_0, .int .i64 n_1], .slice cut.a cut.len cut.cap, .string b] w R
theorem F.masonrylaw21_TableTells_mono {l : Sl} {n_0 : ByteArray} {n_1 : Int} {cut : Sl} {b : ByteArray} {w : World} {R R' : Bool → World → Prop} (h : F.masonrylaw21_TableTells l n_0 n_1 cut b w R) (hR : ∀ x0 w', R x0 w' → R' x0 w') : F.masonrylaw21_TableTells l n_0 n_1 cut b w R' :=
  Calls.mono h fun e w' hx => by
    obtain ⟨x0, he, hr⟩ := hx
    exact ⟨x0, he, hR x0 w' hr⟩
/-- masonrylaw21.TableSets -/
def F.masonrylaw21_TableSets (l : Sl) (cut : ByteArray) (w : World) (R : Bool → World → Prop) : Prop := RetT Pg [.one .bool] 5 #[.slice l.a l.len l.cap, .string cut] w R
theorem F.masonrylaw21_TableSets_mono {l : Sl} {cut : ByteArray} {w : World} {R R' : Bool → World → Prop} (h : F.masonrylaw21_TableSets l cut w R) (hR : ∀ x0 w', R x0 w' → R' x0 w') : F.masonrylaw21_TableSets l cut w R' :=
  Calls.mono h fun e w' hx => by
    obtain ⟨x0, he, hr⟩ := hx
    exact ⟨x0, he, hR x0 w' hr⟩
/-- masonrylaw8.HeadTurns -/
def F.masonrylaw8_HeadTurns (l : Sl) (w : World) (R : Bool → World → Prop) : Prop := RetT Pg [.one .bool] 6 #[.slice l.a l.len l.cap] w R
theorem F.masonrylaw8_HeadTurns_mono {l : Sl} {w : World} {R R' : Bool → World → Prop} (h : F.masonrylaw8_HeadTurns l w R) (hR : ∀ x0 w', R x0 w' → R' x0 w') : F.masonrylaw8_HeadTurns l w R' :=
  Calls.mono h fun e w' hx => by
    obtain ⟨x0, he, hr⟩ := hx
    exact ⟨x0, he, hR x0 w' hr⟩
/-- masonrylaw21.alive -/
def F.masonrylaw21_alive (w : World) (R : Bool → World → Prop) : Prop := RetT Pg [.one .bool] 7 #[] w R
theorem F.masonrylaw21_alive_mono {w : World} {R R' : Bool → World → Prop} (h : F.masonrylaw21_alive  w R) (hR : ∀ x0 w', R x0 w' → R' x0 w') : F.masonrylaw21_alive  w R' :=
  Calls.mono h fun e w' hx => by
    obtain ⟨x0, he, hr⟩ := hx
    exact ⟨x0, he, hR x0 w' hr⟩
/-- table.Lay -/
def F.table_Lay (l : Sl) (w : World) (R : ByteArray → Int → World → Prop) : Prop := RetT Pg [.one .str, .one (.int .i64)] 8 #[.slice l.a l.len l.cap] w R
theorem F.table_Lay_mono {l : Sl} {w : World} {R R' : ByteArray → Int → World → Prop} (h : F.table_Lay l w R) (hR : ∀ x0 x1 w', R x0 x1 w' → R' x0 x1 w') : F.table_Lay l w R' :=
  Calls.mono h fun e w' hx => by
    obtain ⟨x0, x1, he, hr⟩ := hx
    exact ⟨x0, x1, he, hR x0 x1 w' hr⟩
/-- table.Valid -/
def F.table_Valid (name : ByteArray) (w : World) (R : Bool → World → Prop) : Prop := RetT Pg [.one .bool] 9 #[.string name] w R
theorem F.table_Valid_mono {name : ByteArray} {w : World} {R R' : Bool → World → Prop} (h : F.table_Valid name w R) (hR : ∀ x0 w', R x0 w' → R' x0 w') : F.table_Valid name w R' :=
  Calls.mono h fun e w' hx => by
    obtain ⟨x0, he, hr⟩ := hx
    exact ⟨x0, he, hR x0 w' hr⟩
/-- masonryref1.ValidName -/
def F.masonryref1_ValidName (s : ByteArray) (w : World) (R : Bool → World → Prop) : Prop := RetT Pg [.one .bool] 10 #[.string s] w R
theorem F.masonryref1_ValidName_mono {s : ByteArray} {w : World} {R R' : Bool → World → Prop} (h : F.masonryref1_ValidName s w R) (hR : ∀ x0 w', R x0 w' → R' x0 w') : F.masonryref1_ValidName s w R' :=
  Calls.mono h fun e w' hx => by
    obtain ⟨x0, he, hr⟩ := hx
    exact ⟨x0, he, hR x0 w' hr⟩
/-- masonrylaw21.Light -/
def F.masonrylaw21_Light (l : Sl) (w : World) (R : Bool → World → Prop) : Prop := RetT Pg [.one .bool] 11 #[.slice l.a l.len l.cap] w R
theorem F.masonrylaw21_Light_mono {l : Sl} {w : World} {R R' : Bool → World → Prop} (h : F.masonrylaw21_Light l w R) (hR : ∀ x0 w', R x0 w' → R' x0 w') : F.masonrylaw21_Light l w R' :=
  Calls.mono h fun e w' hx => by
    obtain ⟨x0, he, hr⟩ := hx
    exact ⟨x0, he, hR x0 w' hr⟩
/-- masonrybook.Short -/
def F.masonrybook_Short (few : Int) (room : Int) (l : Sl) (w : World) (R : Bool → World → Prop) : Prop := RetT Pg [.one .bool] 12 #[.int .i64 few, .int .i64 room, .slice l.a l.len l.cap] w R
theorem F.masonrybook_Short_mono {few : Int} {room : Int} {l : Sl} {w : World} {R R' : Bool → World → Prop} (h : F.masonrybook_Short few room l w R) (hR : ∀ x0 w', R x0 w' → R' x0 w') : F.masonrybook_Short few room l w R' :=
  Calls.mono h fun e w' hx => by
    obtain ⟨x0, he, hr⟩ := hx
    exact ⟨x0, he, hR x0 w' hr⟩
/-- masonryref1.LayNames -/
def F.masonryref1_LayNames (l : Sl) (w : World) (R : ByteArray → Int → World → Prop) : Prop := RetT Pg [.one .str, .one (.int .i64)] 13 #[.slice l.a l.len l.cap] w R
theorem F.masonryref1_LayNames_mono {l : Sl} {w : World} {R R' : ByteArray → Int → World → Prop} (h : F.masonryref1_LayNames l w R) (hR : ∀ x0 x1 w', R x0 x1 w' → R' x0 x1 w') : F.masonryref1_LayNames l w R' :=
  Calls.mono h fun e w' hx => by
    obtain ⟨x0, x1, he, hr⟩ := hx
    exact ⟨x0, x1, he, hR x0 x1 w' hr⟩
/-- masonrylaw21.plain -/
def F.masonrylaw21_plain (l : Sl) (w : World) (R : Sl → World → Prop) : Prop := RetT Pg [.one .slice] 14 #[.slice l.a l.len l.cap] w R
theorem F.masonrylaw21_plain_mono {l : Sl} {w : World} {R R' : Sl → World → Prop} (h : F.masonrylaw21_plain l w R) (hR : ∀ x0 w', R x0 w' → R' x0 w') : F.masonrylaw21_plain l w R' :=
  Calls.mono h fun e w' hx => by
    obtain ⟨x0, he, hr⟩ := hx
    exact ⟨x0, he, hR x0 w' hr⟩
/-- table.Read -/
def F.table_Read (b : ByteArray) (w : World) (R : Sl → Int → World → Prop) : Prop := RetT Pg [.one .slice, .one (.int .i64)] 15 #[.string b] w R
theorem F.table_Read_mono {b : ByteArray} {w : World} {R R' : Sl → Int → World → Prop} (h : F.table_Read b w R) (hR : ∀ x0 x1 w', R x0 x1 w' → R' x0 x1 w') : F.table_Read b w R' :=
  Calls.mono h fun e w' hx => by
    obtain ⟨x0, x1, he, hr⟩ := hx
    exact ⟨x0, x1, he, hR x0 x1 w' hr⟩
/-- masonryref1.ReadNames -/
def F.masonryref1_ReadNames (b : ByteArray) (w : World) (R : Sl → Int → World → Prop) : Prop := RetT Pg [.one .slice, .one (.int .i64)] 16 #[.string b] w R
theorem F.masonryref1_ReadNames_mono {b : ByteArray} {w : World} {R R' : Sl → Int → World → Prop} (h : F.masonryref1_ReadNames b w R) (hR : ∀ x0 x1 w', R x0 x1 w' → R' x0 x1 w') : F.masonryref1_ReadNames b w R' :=
  Calls.mono h fun e w' hx => by
    obtain ⟨x0, x1, he, hr⟩ := hx
    exact ⟨x0, x1, he, hR x0 x1 w' hr⟩
/-- masonrylaw21.same -/
def F.masonrylaw21_same (l : Sl) (r : Sl) (w : World) (R : Bool → World → Prop) : Prop := RetT Pg [.one .bool] 17 #[.slice l.a l.len l.cap, .slice r.a r.len r.cap] w R
theorem F.masonrylaw21_same_mono {l : Sl} {r : Sl} {w : World} {R R' : Bool → World → Prop} (h : F.masonrylaw21_same l r w R) (hR : ∀ x0 w', R x0 w' → R' x0 w') : F.masonrylaw21_same l r w R' :=
  Calls.mono h fun e w' hx => by
    obtain ⟨x0, he, hr⟩ := hx
    exact ⟨x0, he, hR x0 w' hr⟩
/-- table.Find -/
def F.table_Find (l : Sl) (name : ByteArray) (w : World) (R : Int → Bool → World → Prop) : Prop := RetT Pg [.one (.int .i64), .one .bool] 18 #[.slice l.a l.len l.cap, .string name] w R
theorem F.table_Find_mono {l : Sl} {name : ByteArray} {w : World} {R R' : Int → Bool → World → Prop} (h : F.table_Find l name w R) (hR : ∀ x0 x1 w', R x0 x1 w' → R' x0 x1 w') : F.table_Find l name w R' :=
  Calls.mono h fun e w' hx => by
    obtain ⟨x0, x1, he, hr⟩ := hx
    exact ⟨x0, x1, he, hR x0 x1 w' hr⟩
/-- masonrybook.LentTexts -/
def F.masonrybook_LentTexts (l : Sl) (w : World) (R : Sl → World → Prop) : Prop := RetT Pg [.one .slice] 19 #[.slice l.a l.len l.cap] w R
theorem F.masonrybook_LentTexts_mono {l : Sl} {w : World} {R R' : Sl → World → Prop} (h : F.masonrybook_LentTexts l w R) (hR : ∀ x0 w', R x0 w' → R' x0 w') : F.masonrybook_LentTexts l w R' :=
  Calls.mono h fun e w' hx => by
    obtain ⟨x0, he, hr⟩ := hx
    exact ⟨x0, he, hR x0 w' hr⟩
/-- table.Set -/
def F.table_Set (l : Sl) (n_0 : ByteArray) (n_1 : Int) (w : World) (R : Sl → World → Prop) : Prop := RetT Pg [.one .slice] 20 #[.slice l.a l.len l.cap, .agg #[.string n_0, .int .i64 n_1]] w R
theorem F.table_Set_mono {l : Sl} {n_0 : ByteArray} {n_1 : Int} {w : World} {R R' : Sl → World → Prop} (h : F.table_Set l n_0 n_1 w R) (hR : ∀ x0 w', R x0 w' → R' x0 w') : F.table_Set l n_0 n_1 w R' :=
  Calls.mono h fun e w' hx => by
    obtain ⟨x0, he, hr⟩ := hx
    exact ⟨x0, he, hR x0 w' hr⟩
/-- table.Cut -/
def F.table_Cut (l : Sl) (names : Sl) (w : World) (R : Sl → World → Prop) : Prop := RetT Pg [.one .slice] 21 #[.slice l.a l.len l.cap, .slice names.a names.len names.cap] w R
theorem F.table_Cut_mono {l : Sl} {names : Sl} {w : World} {R R' : Sl → World → Prop} (h : F.table_Cut l names w R) (hR : ∀ x0 w', R x0 w' → R' x0 w') : F.table_Cut l names w R' :=
  Calls.mono h fun e w' hx => by
    obtain ⟨x0, he, hr⟩ := hx
    exact ⟨x0, he, hR x0 w' hr⟩
/-- masonrybook.StaysTexts -/
def F.masonrybook_StaysTexts (m : Sl) (was : Sl) (w : World) (R : Bool → World → Prop) : Prop := RetT Pg [.one .bool] 22 #[.slice m.a m.len m.cap, .slice was.a was.len was.cap] w R
theorem F.masonrybook_StaysTexts_mono {m : Sl} {was : Sl} {w : World} {R R' : Bool → World → Prop} (h : F.masonrybook_StaysTexts m was w R) (hR : ∀ x0 w', R x0 w' → R' x0 w') : F.masonrybook_StaysTexts m was w R' :=
  Calls.mono h fun e w' hx => by
    obtain ⟨x0, he, hr⟩ := hx
    exact ⟨x0, he, hR x0 w' hr⟩
/-- masonrylaw8.alive -/
def F.masonrylaw8_alive (w : World) (R : Bool → World → Prop) : Prop := RetT Pg [.one .bool] 23 #[] w R
theorem F.masonrylaw8_alive_mono {w : World} {R R' : Bool → World → Prop} (h : F.masonrylaw8_alive  w R) (hR : ∀ x0 w', R x0 w' → R' x0 w') : F.masonrylaw8_alive  w R' :=
  Calls.mono h fun e w' hx => by
    obtain ⟨x0, he, hr⟩ := hx
    exact ⟨x0, he, hR x0 w' hr⟩
/-- head.Next -/
def F.head_Next (h_0 : Int) (h_1 : Bool) (h_2 : Sl) (targets : Sl) (w : World) (R : Int → Bool → Sl → World → Prop) : Prop := RetT Pg [.agg [.int .i64, .bool, .slice]] 24 #[.agg #[.int .i64 h_0, .bool h_1, .slice h_2.a h_2.len h_2.cap], .slice targets.a targets.len targets.cap] w R
theorem F.head_Next_mono {h_0 : Int} {h_1 : Bool} {h_2 : Sl} {targets : Sl} {w : World} {R R' : Int → Bool → Sl → World → Prop} (h : F.head_Next h_0 h_1 h_2 targets w R) (hR : ∀ x0 x1 x2 w', R x0 x1 x2 w' → R' x0 x1 x2 w') : F.head_Next h_0 h_1 h_2 targets w R' :=
  Calls.mono h fun e w' hx => by
    obtain ⟨x0, x1, x2, he, hr⟩ := hx
    exact ⟨x0, x1, x2, he, hR x0 x1 x2 w' hr⟩
/-- head.Lay -/
def F.head_Lay (h_0 : Int) (h_1 : Bool) (h_2 : Sl) (w : World) (R : ByteArray → Int → World → Prop) : Prop := RetT Pg [.one .str, .one (.int .i64)] 25 #[.agg #[.int .i64 h_0, .bool h_1, .slice h_2.a h_2.len h_2.cap]] w R
theorem F.head_Lay_mono {h_0 : Int} {h_1 : Bool} {h_2 : Sl} {w : World} {R R' : ByteArray → Int → World → Prop} (h : F.head_Lay h_0 h_1 h_2 w R) (hR : ∀ x0 x1 w', R x0 x1 w' → R' x0 x1 w') : F.head_Lay h_0 h_1 h_2 w R' :=
  Calls.mono h fun e w' hx => by
    obtain ⟨x0, x1, he, hr⟩ := hx
    exact ⟨x0, x1, he, hR x0 x1 w' hr⟩
/-- head.Read -/
def F.head_Read (b : ByteArray) (w : World) (R : Int → Bool → Sl → Int → World → Prop) : Prop := RetT Pg [.agg [.int .i64, .bool, .slice], .one (.int .i64)] 26 #[.string b] w R
theorem F.head_Read_mono {b : ByteArray} {w : World} {R R' : Int → Bool → Sl → Int → World → Prop} (h : F.head_Read b w R) (hR : ∀ x0 x1 x2 x3 w', R x0 x1 x2 x3 w' → R' x0 x1 x2 x3 w') : F.head_Read b w R' :=
  Calls.mono h fun e w' hx => by
    obtain ⟨x0, x1, x2, x3, he, hr⟩ := hx
    exact ⟨x0, x1, x2, x3, he, hR x0 x1 x2 x3 w' hr⟩
/-- masonrylaw8.same2 -/
def F.masonrylaw8_same2 (a_0 : Int) (a_1 : Bool) (a_2 : Sl) (b_0 : Int) (b_1 : Bool) (b_2 : Sl) (w : World) (R : Bool → World → Prop) : Prop := RetT Pg [.one .bool] 27 #[.agg #[.int .i64 a_0, .bool a_1, .slice a_2.a a_2.len a_2.cap], .agg #[.int .i64 b_0, .bool b_1, .slice b_2.a b_2.len b_2.cap]] w R
theorem F.masonrylaw8_same2_mono {a_0 : Int} {a_1 : Bool} {a_2 : Sl} {b_0 : Int} {b_1 : Bool} {b_2 : Sl} {w : World} {R R' : Bool → World → Prop} (h : F.masonrylaw8_same2 a_0 a_1 a_2 b_0 b_1 b_2 w R) (hR : ∀ x0 w', R x0 w' → R' x0 w') : F.masonrylaw8_same2 a_0 a_1 a_2 b_0 b_1 b_2 w R' :=
  Calls.mono h fun e w' hx => by
    obtain ⟨x0, he, hr⟩ := hx
    exact ⟨x0, he, hR x0 w' hr⟩
/-- head.Done -/
def F.head_Done (h_0 : Int) (h_1 : Bool) (h_2 : Sl) (w : World) (R : Int → Bool → Sl → World → Prop) : Prop := RetT Pg [.agg [.int .i64, .bool, .slice]] 28 #[.agg #[.int .i64 h_0, .bool h_1, .slice h_2.a h_2.len h_2.cap]] w R
theorem F.head_Done_mono {h_0 : Int} {h_1 : Bool} {h_2 : Sl} {w : World} {R R' : Int → Bool → Sl → World → Prop} (h : F.head_Done h_0 h_1 h_2 w R) (hR : ∀ x0 x1 x2 w', R x0 x1 x2 w' → R' x0 x1 x2 w') : F.head_Done h_0 h_1 h_2 w R' :=
  Calls.mono h fun e w' hx => by
    obtain ⟨x0, x1, x2, he, hr⟩ := hx
    exact ⟨x0, x1, x2, he, hR x0 x1 x2 w' hr⟩
/-- (*bits.Out).Byte -/
def F.bits_Out_Byte (o : Option Addr) (l : Sl) (w : World) (R : Option Addr → World → Prop) : Prop := RetT Pg [.one .ptr] 29 #[.pointer o, .slice l.a l.len l.cap] w R
theorem F.bits_Out_Byte_mono {o : Option Addr} {l : Sl} {w : World} {R R' : Option Addr → World → Prop} (h : F.bits_Out_Byte o l w R) (hR : ∀ x0 w', R x0 w' → R' x0 w') : F.bits_Out_Byte o l w R' :=
  Calls.mono h fun e w' hx => by
    obtain ⟨x0, he, hr⟩ := hx
    exact ⟨x0, he, hR x0 w' hr⟩
/-- (*bits.Out).Raw -/
def F.bits_Out_Raw (o : Option Addr) (l : Sl) (w : World) (R : Option Addr → World → Prop) : Prop := RetT Pg [.one .ptr] 30 #[.pointer o, .slice l.a l.len l.cap] w R
theorem F.bits_Out_Raw_mono {o : Option Addr} {l : Sl} {w : World} {R R' : Option Addr → World → Prop} (h : F.bits_Out_Raw o l w R) (hR : ∀ x0 w', R x0 w' → R' x0 w') : F.bits_Out_Raw o l w R' :=
  Calls.mono h fun e w' hx => by
    obtain ⟨x0, he, hr⟩ := hx
    exact ⟨x0, he, hR x0 w' hr⟩
/-- (*bits.Out).Half -/
def F.bits_Out_Half (o : Option Addr) (l : Sl) (w : World) (R : Option Addr → World → Prop) : Prop := RetT Pg [.one .ptr] 31 #[.pointer o, .slice l.a l.len l.cap] w R
theorem F.bits_Out_Half_mono {o : Option Addr} {l : Sl} {w : World} {R R' : Option Addr → World → Prop} (h : F.bits_Out_Half o l w R) (hR : ∀ x0 w', R x0 w' → R' x0 w') : F.bits_Out_Half o l w R' :=
  Calls.mono h fun e w' hx => by
    obtain ⟨x0, he, hr⟩ := hx
    exact ⟨x0, he, hR x0 w' hr⟩
/-- (*bits.Out).End -/
def F.bits_Out_End (o : Option Addr) (w : World) (R : ByteArray → Int → World → Prop) : Prop := RetT Pg [.one .str, .one (.int .i64)] 32 #[.pointer o] w R
theorem F.bits_Out_End_mono {o : Option Addr} {w : World} {R R' : ByteArray → Int → World → Prop} (h : F.bits_Out_End o w R) (hR : ∀ x0 x1 w', R x0 x1 w' → R' x0 x1 w') : F.bits_Out_End o w R' :=
  Calls.mono h fun e w' hx => by
    obtain ⟨x0, x1, he, hr⟩ := hx
    exact ⟨x0, x1, he, hR x0 x1 w' hr⟩
/-- strings.Trim -/
def F.strings_Trim (s : ByteArray) (cutset : ByteArray) (w : World) (R : ByteArray → World → Prop) : Prop := RetT Pg [.one .str] 33 #[.string s, .string cutset] w R
theorem F.strings_Trim_mono {s : ByteArray} {cutset : ByteArray} {w : World} {R R' : ByteArray → World → Prop} (h : F.strings_Trim s cutset w R) (hR : ∀ x0 w', R x0 w' → R' x0 w') : F.strings_Trim s cutset w R' :=
  Calls.mono h fun e w' hx => by
    obtain ⟨x0, he, hr⟩ := hx
    exact ⟨x0, he, hR x0 w' hr⟩
/-- masonrybook.Room -/
def F.masonrybook_Room (left : Int) (sizes : Sl) (w : World) (R : Int → World → Prop) : Prop := RetT Pg [.one (.int .i64)] 34 #[.int .i64 left, .slice sizes.a sizes.len sizes.cap] w R
theorem F.masonrybook_Room_mono {left : Int} {sizes : Sl} {w : World} {R R' : Int → World → Prop} (h : F.masonrybook_Room left sizes w R) (hR : ∀ x0 w', R x0 w' → R' x0 w') : F.masonrybook_Room left sizes w R' :=
  Calls.mono h fun e w' hx => by
    obtain ⟨x0, he, hr⟩ := hx
    exact ⟨x0, he, hR x0 w' hr⟩
/-- masonryref1.Low -/
def F.masonryref1_Low (v : Int) (n : Int) (w : World) (R : ByteArray → World → Prop) : Prop := RetT Pg [.one .str] 35 #[.int .u64 v, .int .i64 n] w R
theorem F.masonryref1_Low_mono {v : Int} {n : Int} {w : World} {R R' : ByteArray → World → Prop} (h : F.masonryref1_Low v n w R) (hR : ∀ x0 w', R x0 w' → R' x0 w') : F.masonryref1_Low v n w R' :=
  Calls.mono h fun e w' hx => by
    obtain ⟨x0, he, hr⟩ := hx
    exact ⟨x0, he, hR x0 w' hr⟩
/-- bits.On -/
def F.bits_On (b : ByteArray) (w : World) (R : Option Addr → World → Prop) : Prop := RetT Pg [.one .ptr] 36 #[.string b] w R
theorem F.bits_On_mono {b : ByteArray} {w : World} {R R' : Option Addr → World → Prop} (h : F.bits_On b w R) (hR : ∀ x0 w', R x0 w' → R' x0 w') : F.bits_On b w R' :=
  Calls.mono h fun e w' hx => by
    obtain ⟨x0, he, hr⟩ := hx
    exact ⟨x0, he, hR x0 w' hr⟩
/-- (*bits.In).Byte -/
def F.bits_In_Byte (i : Option Addr) (w : World) (R : Int → World → Prop) : Prop := RetT Pg [.one (.int .i64)] 37 #[.pointer i] w R
theorem F.bits_In_Byte_mono {i : Option Addr} {w : World} {R R' : Int → World → Prop} (h : F.bits_In_Byte i w R) (hR : ∀ x0 w', R x0 w' → R' x0 w') : F.bits_In_Byte i w R' :=
  Calls.mono h fun e w' hx => by
    obtain ⟨x0, he, hr⟩ := hx
    exact ⟨x0, he, hR x0 w' hr⟩
/-- (*bits.In).Raw -/
def F.bits_In_Raw (i : Option Addr) (n : Int) (w : World) (R : ByteArray → World → Prop) : Prop := RetT Pg [.one .str] 38 #[.pointer i, .int .i64 n] w R
theorem F.bits_In_Raw_mono {i : Option Addr} {n : Int} {w : World} {R R' : ByteArray → World → Prop} (h : F.bits_In_Raw i n w R) (hR : ∀ x0 w', R x0 w' → R' x0 w') : F.bits_In_Raw i n w R' :=
  Calls.mono h fun e w' hx => by
    obtain ⟨x0, he, hr⟩ := hx
    exact ⟨x0, he, hR x0 w' hr⟩
/-- (*bits.In).Half -/
def F.bits_In_Half (i : Option Addr) (w : World) (R : Int → World → Prop) : Prop := RetT Pg [.one (.int .i64)] 39 #[.pointer i] w R
theorem F.bits_In_Half_mono {i : Option Addr} {w : World} {R R' : Int → World → Prop} (h : F.bits_In_Half i w R) (hR : ∀ x0 w', R x0 w' → R' x0 w') : F.bits_In_Half i w R' :=
  Calls.mono h fun e w' hx => by
    obtain ⟨x0, he, hr⟩ := hx
    exact ⟨x0, he, hR x0 w' hr⟩
/-- (*bits.In).End -/
def F.bits_In_End (i : Option Addr) (w : World) (R : Int → World → Prop) : Prop := RetT Pg [.one (.int .i64)] 40 #[.pointer i] w R
theorem F.bits_In_End_mono {i : Option Addr} {w : World} {R R' : Int → World → Prop} (h : F.bits_In_End i w R) (hR : ∀ x0 w', R x0 w' → R' x0 w') : F.bits_In_End i w R' :=
  Calls.mono h fun e w' hx => by
    obtain ⟨x0, he, hr⟩ := hx
    exact ⟨x0, he, hR x0 w' hr⟩
/-- (*masonryref1.In).Num -/
def F.masonryref1_In_Num (g : Option Addr) (n : Int) (w : World) (R : Int → World → Prop) : Prop := RetT Pg [.one (.int .i64)] 41 #[.pointer g, .int .i64 n] w R
theorem F.masonryref1_In_Num_mono {g : Option Addr} {n : Int} {w : World} {R R' : Int → World → Prop} (h : F.masonryref1_In_Num g n w R) (hR : ∀ x0 w', R x0 w' → R' x0 w') : F.masonryref1_In_Num g n w R' :=
  Calls.mono h fun e w' hx => by
    obtain ⟨x0, he, hr⟩ := hx
    exact ⟨x0, he, hR x0 w' hr⟩
/-- (*masonryref1.In).Raw -/
def F.masonryref1_In_Raw (g : Option Addr) (n : Int) (w : World) (R : ByteArray → World → Prop) : Prop := RetT Pg [.one .str] 42 #[.pointer g, .int .i64 n] w R
theorem F.masonryref1_In_Raw_mono {g : Option Addr} {n : Int} {w : World} {R R' : ByteArray → World → Prop} (h : F.masonryref1_In_Raw g n w R) (hR : ∀ x0 w', R x0 w' → R' x0 w') : F.masonryref1_In_Raw g n w R' :=
  Calls.mono h fun e w' hx => by
    obtain ⟨x0, he, hr⟩ := hx
    exact ⟨x0, he, hR x0 w' hr⟩
/-- sort.Search -/
def F.sort_Search (n : Int) (f : Value) (w : World) (R : Int → World → Prop) : Prop := RetT Pg [.one (.int .i64)] 43 #[.int .i64 n, f] w R
theorem F.sort_Search_mono {n : Int} {f : Value} {w : World} {R R' : Int → World → Prop} (h : F.sort_Search n f w R) (hR : ∀ x0 w', R x0 w' → R' x0 w') : F.sort_Search n f w R' :=
  Calls.mono h fun e w' hx => by
    obtain ⟨x0, he, hr⟩ := hx
    exact ⟨x0, he, hR x0 w' hr⟩
/-- table.Find$1 -/
def F.table_Find_fn1 (i : Int) (c : Addr) (c' : Addr) (w : World) (R : Bool → World → Prop) : Prop := RetT Pg [.one .bool] 44 #[.int .i64 i, .pointer (some c), .pointer (some c')] w R
theorem F.table_Find_fn1_mono {i : Int} {c : Addr} {c' : Addr} {w : World} {R R' : Bool → World → Prop} (h : F.table_Find_fn1 i c c' w R) (hR : ∀ x0 w', R x0 w' → R' x0 w') : F.table_Find_fn1 i c c' w R' :=
  Calls.mono h fun e w' hx => by
    obtain ⟨x0, he, hr⟩ := hx
    exact ⟨x0, he, hR x0 w' hr⟩
/-- masonrybook.copyTexts -/
def F.masonrybook_copyTexts (l : Sl) (w : World) (R : Sl → World → Prop) : Prop := RetT Pg [.one .slice] 45 #[.slice l.a l.len l.cap] w R
theorem F.masonrybook_copyTexts_mono {l : Sl} {w : World} {R R' : Sl → World → Prop} (h : F.masonrybook_copyTexts l w R) (hR : ∀ x0 w', R x0 w' → R' x0 w') : F.masonrybook_copyTexts l w R' :=
  Calls.mono h fun e w' hx => by
    obtain ⟨x0, he, hr⟩ := hx
    exact ⟨x0, he, hR x0 w' hr⟩
/-- slices.Clone[[]table.Name,table.Name] -/
def F.slices_Clone_sl_table_Name_table_Name (s : Sl) (w : World) (R : Sl → World → Prop) : Prop := RetT Pg [.one .slice] 46 #[.slice s.a s.len s.cap] w R
theorem F.slices_Clone_sl_table_Name_table_Name_mono {s : Sl} {w : World} {R R' : Sl → World → Prop} (h : F.slices_Clone_sl_table_Name_table_Name s w R) (hR : ∀ x0 w', R x0 w' → R' x0 w') : F.slices_Clone_sl_table_Name_table_Name s w R' :=
  Calls.mono h fun e w' hx => by
    obtain ⟨x0, he, hr⟩ := hx
    exact ⟨x0, he, hR x0 w' hr⟩
/-- slices.Insert[[]table.Name,table.Name] -/
def F.slices_Insert_sl_table_Name_table_Name (s : Sl) (i : Int) (v : Sl) (w : World) (R : Sl → World → Prop) : Prop := RetT Pg [.one .slice] 47 #[.slice s.a s.len s.cap, .int .i64 i, .slice v.a v.len v.cap] w R
theorem F.slices_Insert_sl_table_Name_table_Name_mono {s : Sl} {i : Int} {v : Sl} {w : World} {R R' : Sl → World → Prop} (h : F.slices_Insert_sl_table_Name_table_Name s i v w R) (hR : ∀ x0 w', R x0 w' → R' x0 w') : F.slices_Insert_sl_table_Name_table_Name s i v w R' :=
  Calls.mono h fun e w' hx => by
    obtain ⟨x0, he, hr⟩ := hx
    exact ⟨x0, he, hR x0 w' hr⟩
/-- slices.DeleteFunc[[]table.Name,table.Name] -/
def F.slices_DeleteFunc_sl_table_Name_table_Name (s : Sl) (del : Value) (w : World) (R : Sl → World → Prop) : Prop := RetT Pg [.one .slice] 48 #[.slice s.a s.len s.cap, del] w R
theorem F.slices_DeleteFunc_sl_table_Name_table_Name_mono {s : Sl} {del : Value} {w : World} {R R' : Sl → World → Prop} (h : F.slices_DeleteFunc_sl_table_Name_table_Name s del w R) (hR : ∀ x0 w', R x0 w' → R' x0 w') : F.slices_DeleteFunc_sl_table_Name_table_Name s del w R' :=
  Calls.mono h fun e w' hx => by
    obtain ⟨x0, he, hr⟩ := hx
    exact ⟨x0, he, hR x0 w' hr⟩
/-- table.Cut$1 -/
def F.table_Cut_fn1 (n_0 : ByteArray) (n_1 : Int) (c : Addr) (w : World) (R : Bool → World → Prop) : Prop := RetT Pg [.one .bool] 49 #[.agg #[.string n_0, .int .i64 n_1], .pointer (some c)] w R
theorem F.table_Cut_fn1_mono {n_0 : ByteArray} {n_1 : Int} {c : Addr} {w : World} {R R' : Bool → World → Prop} (h : F.table_Cut_fn1 n_0 n_1 c w R) (hR : ∀ x0 w', R x0 w' → R' x0 w') : F.table_Cut_fn1 n_0 n_1 c w R' :=
  Calls.mono h fun e w' hx => by
    obtain ⟨x0, he, hr⟩ := hx
    exact ⟨x0, he, hR x0 w' hr⟩
/-- slices.Contains[[]string,string] -/
def F.slices_Contains_sl_string_string (s : Sl) (v : ByteArray) (w : World) (R : Bool → World → Prop) : Prop := RetT Pg [.one .bool] 50 #[.slice s.a s.len s.cap, .string v] w R
theorem F.slices_Contains_sl_string_string_mono {s : Sl} {v : ByteArray} {w : World} {R R' : Bool → World → Prop} (h : F.slices_Contains_sl_string_string s v w R) (hR : ∀ x0 w', R x0 w' → R' x0 w') : F.slices_Contains_sl_string_string s v w R' :=
  Calls.mono h fun e w' hx => by
    obtain ⟨x0, he, hr⟩ := hx
    exact ⟨x0, he, hR x0 w' hr⟩
/-- masonrybook.SameTexts -/
def F.masonrybook_SameTexts (a : Sl) (b : Sl) (w : World) (R : Bool → World → Prop) : Prop := RetT Pg [.one .bool] 51 #[.slice a.a a.len a.cap, .slice b.a b.len b.cap] w R
theorem F.masonrybook_SameTexts_mono {a : Sl} {b : Sl} {w : World} {R R' : Bool → World → Prop} (h : F.masonrybook_SameTexts a b w R) (hR : ∀ x0 w', R x0 w' → R' x0 w') : F.masonrybook_SameTexts a b w R' :=
  Calls.mono h fun e w' hx => by
    obtain ⟨x0, he, hr⟩ := hx
    exact ⟨x0, he, hR x0 w' hr⟩
/-- slices.Clone[[]int,int] -/
def F.slices_Clone_sl_int_int (s : Sl) (w : World) (R : Sl → World → Prop) : Prop := RetT Pg [.one .slice] 52 #[.slice s.a s.len s.cap] w R
theorem F.slices_Clone_sl_int_int_mono {s : Sl} {w : World} {R R' : Sl → World → Prop} (h : F.slices_Clone_sl_int_int s w R) (hR : ∀ x0 w', R x0 w' → R' x0 w') : F.slices_Clone_sl_int_int s w R' :=
  Calls.mono h fun e w' hx => by
    obtain ⟨x0, he, hr⟩ := hx
    exact ⟨x0, he, hR x0 w' hr⟩
/-- slices.Sort[[]int,int] -/
def F.slices_Sort_sl_int_int (x : Sl) (w : World) (R : World → Prop) : Prop := RetT Pg [] 53 #[.slice x.a x.len x.cap] w R
theorem F.slices_Sort_sl_int_int_mono {x : Sl} {w : World} {R R' : World → Prop} (h : F.slices_Sort_sl_int_int x w R) (hR : ∀ w', R  w' → R'  w') : F.slices_Sort_sl_int_int x w R' :=
  Calls.mono h fun e w' hx => by
    obtain ⟨he, hr⟩ := hx
    exact ⟨he, hR  w' hr⟩
/-- slices.Compact[[]int,int] -/
def F.slices_Compact_sl_int_int (s : Sl) (w : World) (R : Sl → World → Prop) : Prop := RetT Pg [.one .slice] 54 #[.slice s.a s.len s.cap] w R
theorem F.slices_Compact_sl_int_int_mono {s : Sl} {w : World} {R R' : Sl → World → Prop} (h : F.slices_Compact_sl_int_int s w R) (hR : ∀ x0 w', R x0 w' → R' x0 w') : F.slices_Compact_sl_int_int s w R' :=
  Calls.mono h fun e w' hx => by
    obtain ⟨x0, he, hr⟩ := hx
    exact ⟨x0, he, hR x0 w' hr⟩
/-- head.Valid -/
def F.head_Valid (h_0 : Int) (h_1 : Bool) (h_2 : Sl) (w : World) (R : Bool → World → Prop) : Prop := RetT Pg [.one .bool] 55 #[.agg #[.int .i64 h_0, .bool h_1, .slice h_2.a h_2.len h_2.cap]] w R
theorem F.head_Valid_mono {h_0 : Int} {h_1 : Bool} {h_2 : Sl} {w : World} {R R' : Bool → World → Prop} (h : F.head_Valid h_0 h_1 h_2 w R) (hR : ∀ x0 w', R x0 w' → R' x0 w') : F.head_Valid h_0 h_1 h_2 w R' :=
  Calls.mono h fun e w' hx => by
    obtain ⟨x0, he, hr⟩ := hx
    exact ⟨x0, he, hR x0 w' hr⟩
/-- (*bits.Out).Long -/
def F.bits_Out_Long (o : Option Addr) (l : Sl) (w : World) (R : Option Addr → World → Prop) : Prop := RetT Pg [.one .ptr] 56 #[.pointer o, .slice l.a l.len l.cap] w R
theorem F.bits_Out_Long_mono {o : Option Addr} {l : Sl} {w : World} {R R' : Option Addr → World → Prop} (h : F.bits_Out_Long o l w R) (hR : ∀ x0 w', R x0 w' → R' x0 w') : F.bits_Out_Long o l w R' :=
  Calls.mono h fun e w' hx => by
    obtain ⟨x0, he, hr⟩ := hx
    exact ⟨x0, he, hR x0 w' hr⟩
/-- crc.Seal -/
def F.crc_Seal (n : Int) (l : Sl) (w : World) (R : ByteArray → Int → World → Prop) : Prop := RetT Pg [.one .str, .one (.int .i64)] 57 #[.int .i64 n, .slice l.a l.len l.cap] w R
theorem F.crc_Seal_mono {n : Int} {l : Sl} {w : World} {R R' : ByteArray → Int → World → Prop} (h : F.crc_Seal n l w R) (hR : ∀ x0 x1 w', R x0 x1 w' → R' x0 x1 w') : F.crc_Seal n l w R' :=
  Calls.mono h fun e w' hx => by
    obtain ⟨x0, x1, he, hr⟩ := hx
    exact ⟨x0, x1, he, hR x0 x1 w' hr⟩
/-- crc.Open -/
def F.crc_Open (b : ByteArray) (w : World) (R : ByteArray → Int → World → Prop) : Prop := RetT Pg [.one .str, .one (.int .i64)] 58 #[.string b] w R
theorem F.crc_Open_mono {b : ByteArray} {w : World} {R R' : ByteArray → Int → World → Prop} (h : F.crc_Open b w R) (hR : ∀ x0 x1 w', R x0 x1 w' → R' x0 x1 w') : F.crc_Open b w R' :=
  Calls.mono h fun e w' hx => by
    obtain ⟨x0, x1, he, hr⟩ := hx
    exact ⟨x0, x1, he, hR x0 x1 w' hr⟩
/-- (*bits.In).Long -/
def F.bits_In_Long (i : Option Addr) (w : World) (R : Int → World → Prop) : Prop := RetT Pg [.one (.int .i64)] 59 #[.pointer i] w R
theorem F.bits_In_Long_mono {i : Option Addr} {w : World} {R R' : Int → World → Prop} (h : F.bits_In_Long i w R) (hR : ∀ x0 w', R x0 w' → R' x0 w') : F.bits_In_Long i w R' :=
  Calls.mono h fun e w' hx => by
    obtain ⟨x0, he, hr⟩ := hx
    exact ⟨x0, he, hR x0 w' hr⟩
/-- (*bits.Out).lay -/
def F.bits_Out_lay (o : Option Addr) (size : Int) (l : Sl) (w : World) (R : Option Addr → World → Prop) : Prop := RetT Pg [.one .ptr] 60 #[.pointer o, .int .i64 size, .slice l.a l.len l.cap] w R
theorem F.bits_Out_lay_mono {o : Option Addr} {size : Int} {l : Sl} {w : World} {R R' : Option Addr → World → Prop} (h : F.bits_Out_lay o size l w R) (hR : ∀ x0 w', R x0 w' → R' x0 w') : F.bits_Out_lay o size l w R' :=
  Calls.mono h fun e w' hx => by
    obtain ⟨x0, he, hr⟩ := hx
    exact ⟨x0, he, hR x0 w' hr⟩
/-- strings.trimLeftByte -/
def F.strings_trimLeftByte (s : ByteArray) (c : Int) (w : World) (R : ByteArray → World → Prop) : Prop := RetT Pg [.one .str] 61 #[.string s, .int .u8 c] w R
theorem F.strings_trimLeftByte_mono {s : ByteArray} {c : Int} {w : World} {R R' : ByteArray → World → Prop} (h : F.strings_trimLeftByte s c w R) (hR : ∀ x0 w', R x0 w' → R' x0 w') : F.strings_trimLeftByte s c w R' :=
  Calls.mono h fun e w' hx => by
    obtain ⟨x0, he, hr⟩ := hx
    exact ⟨x0, he, hR x0 w' hr⟩
/-- strings.trimRightByte -/
def F.strings_trimRightByte (s : ByteArray) (c : Int) (w : World) (R : ByteArray → World → Prop) : Prop := RetT Pg [.one .str] 62 #[.string s, .int .u8 c] w R
theorem F.strings_trimRightByte_mono {s : ByteArray} {c : Int} {w : World} {R R' : ByteArray → World → Prop} (h : F.strings_trimRightByte s c w R) (hR : ∀ x0 w', R x0 w' → R' x0 w') : F.strings_trimRightByte s c w R' :=
  Calls.mono h fun e w' hx => by
    obtain ⟨x0, he, hr⟩ := hx
    exact ⟨x0, he, hR x0 w' hr⟩
/-- strings.trimLeftASCII -/
def F.strings_trimLeftASCII (s : ByteArray) (as_ : Option Addr) (w : World) (R : ByteArray → World → Prop) : Prop := RetT Pg [.one .str] 64 #[.string s, .pointer as_] w R
theorem F.strings_trimLeftASCII_mono {s : ByteArray} {as_ : Option Addr} {w : World} {R R' : ByteArray → World → Prop} (h : F.strings_trimLeftASCII s as_ w R) (hR : ∀ x0 w', R x0 w' → R' x0 w') : F.strings_trimLeftASCII s as_ w R' :=
  Calls.mono h fun e w' hx => by
    obtain ⟨x0, he, hr⟩ := hx
    exact ⟨x0, he, hR x0 w' hr⟩
/-- strings.trimRightASCII -/
def F.strings_trimRightASCII (s : ByteArray) (as_ : Option Addr) (w : World) (R : ByteArray → World → Prop) : Prop := RetT Pg [.one .str] 65 #[.string s, .pointer as_] w R
theorem F.strings_trimRightASCII_mono {s : ByteArray} {as_ : Option Addr} {w : World} {R R' : ByteArray → World → Prop} (h : F.strings_trimRightASCII s as_ w R) (hR : ∀ x0 w', R x0 w' → R' x0 w') : F.strings_trimRightASCII s as_ w R' :=
  Calls.mono h fun e w' hx => by
    obtain ⟨x0, he, hr⟩ := hx
    exact ⟨x0, he, hR x0 w' hr⟩
/-- strings.trimLeftUnicode -/
def F.strings_trimLeftUnicode (s : ByteArray) (cutset : ByteArray) (w : World) (R : ByteArray → World → Prop) : Prop := RetT Pg [.one .str] 66 #[.string s, .string cutset] w R
theorem F.strings_trimLeftUnicode_mono {s : ByteArray} {cutset : ByteArray} {w : World} {R R' : ByteArray → World → Prop} (h : F.strings_trimLeftUnicode s cutset w R) (hR : ∀ x0 w', R x0 w' → R' x0 w') : F.strings_trimLeftUnicode s cutset w R' :=
  Calls.mono h fun e w' hx => by
    obtain ⟨x0, he, hr⟩ := hx
    exact ⟨x0, he, hR x0 w' hr⟩
/-- strings.trimRightUnicode -/
def F.strings_trimRightUnicode (s : ByteArray) (cutset : ByteArray) (w : World) (R : ByteArray → World → Prop) : Prop := RetT Pg [.one .str] 67 #[.string s, .string cutset] w R
theorem F.strings_trimRightUnicode_mono {s : ByteArray} {cutset : ByteArray} {w : World} {R R' : ByteArray → World → Prop} (h : F.strings_trimRightUnicode s cutset w R) (hR : ∀ x0 w', R x0 w' → R' x0 w') : F.strings_trimRightUnicode s cutset w R' :=
  Calls.mono h fun e w' hx => by
    obtain ⟨x0, he, hr⟩ := hx
    exact ⟨x0, he, hR x0 w' hr⟩
/-- (*bits.In).low -/
def F.bits_In_low (i : Option Addr) (size : Int) (w : World) (R : Int → World → Prop) : Prop := RetT Pg [.one (.int .i64)] 68 #[.pointer i, .int .i64 size] w R
theorem F.bits_In_low_mono {i : Option Addr} {size : Int} {w : World} {R R' : Int → World → Prop} (h : F.bits_In_low i size w R) (hR : ∀ x0 w', R x0 w' → R' x0 w') : F.bits_In_low i size w R' :=
  Calls.mono h fun e w' hx => by
    obtain ⟨x0, he, hr⟩ := hx
    exact ⟨x0, he, hR x0 w' hr⟩
/-- strings.Clone -/
def F.strings_Clone (s : ByteArray) (w : World) (R : ByteArray → World → Prop) : Prop := RetT Pg [.one .str] 69 #[.string s] w R
theorem F.strings_Clone_mono {s : ByteArray} {w : World} {R R' : ByteArray → World → Prop} (h : F.strings_Clone s w R) (hR : ∀ x0 w', R x0 w' → R' x0 w') : F.strings_Clone s w R' :=
  Calls.mono h fun e w' hx => by
    obtain ⟨x0, he, hr⟩ := hx
    exact ⟨x0, he, hR x0 w' hr⟩
/-- (*bits.In).Rest -/
def F.bits_In_Rest (i : Option Addr) (w : World) (R : Bool → World → Prop) : Prop := RetT Pg [.one .bool] 70 #[.pointer i] w R
theorem F.bits_In_Rest_mono {i : Option Addr} {w : World} {R R' : Bool → World → Prop} (h : F.bits_In_Rest i w R) (hR : ∀ x0 w', R x0 w' → R' x0 w') : F.bits_In_Rest i w R' :=
  Calls.mono h fun e w' hx => by
    obtain ⟨x0, he, hr⟩ := hx
    exact ⟨x0, he, hR x0 w' hr⟩
/-- masonryref1.Num -/
def F.masonryref1_Num (s : ByteArray) (w : World) (R : Int → World → Prop) : Prop := RetT Pg [.one (.int .u64)] 71 #[.string s] w R
theorem F.masonryref1_Num_mono {s : ByteArray} {w : World} {R R' : Int → World → Prop} (h : F.masonryref1_Num s w R) (hR : ∀ x0 w', R x0 w' → R' x0 w') : F.masonryref1_Num s w R' :=
  Calls.mono h fun e w' hx => by
    obtain ⟨x0, he, hr⟩ := hx
    exact ⟨x0, he, hR x0 w' hr⟩
/-- slices.rotateRight[table.Name] -/
def F.slices_rotateRight_table_Name (s : Sl) (r : Int) (w : World) (R : World → Prop) : Prop := RetT Pg [] 73 #[.slice s.a s.len s.cap, .int .i64 r] w R
theorem F.slices_rotateRight_table_Name_mono {s : Sl} {r : Int} {w : World} {R R' : World → Prop} (h : F.slices_rotateRight_table_Name s r w R) (hR : ∀ w', R  w' → R'  w') : F.slices_rotateRight_table_Name s r w R' :=
  Calls.mono h fun e w' hx => by
    obtain ⟨he, hr⟩ := hx
    exact ⟨he, hR  w' hr⟩
/-- slices.IndexFunc[[]table.Name,table.Name] -/
def F.slices_IndexFunc_sl_table_Name_table_Name (s : Sl) (f : Value) (w : World) (R : Int → World → Prop) : Prop := RetT Pg [.one (.int .i64)] 74 #[.slice s.a s.len s.cap, f] w R
theorem F.slices_IndexFunc_sl_table_Name_table_Name_mono {s : Sl} {f : Value} {w : World} {R R' : Int → World → Prop} (h : F.slices_IndexFunc_sl_table_Name_table_Name s f w R) (hR : ∀ x0 w', R x0 w' → R' x0 w') : F.slices_IndexFunc_sl_table_Name_table_Name s f w R' :=
  Calls.mono h fun e w' hx => by
    obtain ⟨x0, he, hr⟩ := hx
    exact ⟨x0, he, hR x0 w' hr⟩
/-- slices.Index[[]string,string] -/
def F.slices_Index_sl_string_string (s : Sl) (v : ByteArray) (w : World) (R : Int → World → Prop) : Prop := RetT Pg [.one (.int .i64)] 75 #[.slice s.a s.len s.cap, .string v] w R
theorem F.slices_Index_sl_string_string_mono {s : Sl} {v : ByteArray} {w : World} {R R' : Int → World → Prop} (h : F.slices_Index_sl_string_string s v w R) (hR : ∀ x0 w', R x0 w' → R' x0 w') : F.slices_Index_sl_string_string s v w R' :=
  Calls.mono h fun e w' hx => by
    obtain ⟨x0, he, hr⟩ := hx
    exact ⟨x0, he, hR x0 w' hr⟩
/-- slices.pdqsortOrdered[int] -/
def F.slices_pdqsortOrdered_int (data : Sl) (a : Int) (b : Int) (limit : Int) (w : World) (R : World → Prop) : Prop := RetT Pg [] 76 #[.slice data.a data.len data.cap, .int .i64 a, .int .i64 b, .int .i64 limit] w R
theorem F.slices_pdqsortOrdered_int_mono {data : Sl} {a : Int} {b : Int} {limit : Int} {w : World} {R R' : World → Prop} (h : F.slices_pdqsortOrdered_int data a b limit w R) (hR : ∀ w', R  w' → R'  w') : F.slices_pdqsortOrdered_int data a b limit w R' :=
  Calls.mono h fun e w' hx => by
    obtain ⟨he, hr⟩ := hx
    exact ⟨he, hR  w' hr⟩
/-- math/bits.Len -/
def F.bits_Len (x : Int) (w : World) (R : Int → World → Prop) : Prop := RetT Pg [.one (.int .i64)] 77 #[.int .u64 x] w R
theorem F.bits_Len_mono {x : Int} {w : World} {R R' : Int → World → Prop} (h : F.bits_Len x w R) (hR : ∀ x0 w', R x0 w' → R' x0 w') : F.bits_Len x w R' :=
  Calls.mono h fun e w' hx => by
    obtain ⟨x0, he, hr⟩ := hx
    exact ⟨x0, he, hR x0 w' hr⟩
/-- (*bits.Out).Pad -/
def F.bits_Out_Pad (o : Option Addr) (n : Int) (w : World) (R : Option Addr → World → Prop) : Prop := RetT Pg [.one .ptr] 78 #[.pointer o, .int .i64 n] w R
theorem F.bits_Out_Pad_mono {o : Option Addr} {n : Int} {w : World} {R R' : Option Addr → World → Prop} (h : F.bits_Out_Pad o n w R) (hR : ∀ x0 w', R x0 w' → R' x0 w') : F.bits_Out_Pad o n w R' :=
  Calls.mono h fun e w' hx => by
    obtain ⟨x0, he, hr⟩ := hx
    exact ⟨x0, he, hR x0 w' hr⟩
/-- (*bits.Out).Word -/
def F.bits_Out_Word (o : Option Addr) (l : Sl) (w : World) (R : Option Addr → World → Prop) : Prop := RetT Pg [.one .ptr] 79 #[.pointer o, .slice l.a l.len l.cap] w R
theorem F.bits_Out_Word_mono {o : Option Addr} {l : Sl} {w : World} {R R' : Option Addr → World → Prop} (h : F.bits_Out_Word o l w R) (hR : ∀ x0 w', R x0 w' → R' x0 w') : F.bits_Out_Word o l w R' :=
  Calls.mono h fun e w' hx => by
    obtain ⟨x0, he, hr⟩ := hx
    exact ⟨x0, he, hR x0 w' hr⟩
/-- crc.Of -/
def F.crc_Of (l : Sl) (w : World) (R : Int → World → Prop) : Prop := RetT Pg [.one (.int .u32)] 80 #[.slice l.a l.len l.cap] w R
theorem F.crc_Of_mono {l : Sl} {w : World} {R R' : Int → World → Prop} (h : F.crc_Of l w R) (hR : ∀ x0 w', R x0 w' → R' x0 w') : F.crc_Of l w R' :=
  Calls.mono h fun e w' hx => by
    obtain ⟨x0, he, hr⟩ := hx
    exact ⟨x0, he, hR x0 w' hr⟩
/-- (*bits.In).Word -/
def F.bits_In_Word (i : Option Addr) (w : World) (R : Int → World → Prop) : Prop := RetT Pg [.one (.int .i64)] 81 #[.pointer i] w R
theorem F.bits_In_Word_mono {i : Option Addr} {w : World} {R R' : Int → World → Prop} (h : F.bits_In_Word i w R) (hR : ∀ x0 w', R x0 w' → R' x0 w') : F.bits_In_Word i w R' :=
  Calls.mono h fun e w' hx => by
    obtain ⟨x0, he, hr⟩ := hx
    exact ⟨x0, he, hR x0 w' hr⟩
/-- (*strings.asciiSet).contains -/
def F.strings_asciiSet_contains (as_ : Option Addr) (c : Int) (w : World) (R : Bool → World → Prop) : Prop := RetT Pg [.one .bool] 82 #[.pointer as_, .int .u8 c] w R
theorem F.strings_asciiSet_contains_mono {as_ : Option Addr} {c : Int} {w : World} {R R' : Bool → World → Prop} (h : F.strings_asciiSet_contains as_ c w R) (hR : ∀ x0 w', R x0 w' → R' x0 w') : F.strings_asciiSet_contains as_ c w R' :=
  Calls.mono h fun e w' hx => by
    obtain ⟨x0, he, hr⟩ := hx
    exact ⟨x0, he, hR x0 w' hr⟩
/-- unicode/utf8.DecodeRuneInString -/
def F.utf8_DecodeRuneInString (s : ByteArray) (w : World) (R : Int → Int → World → Prop) : Prop := RetT Pg [.one (.int .i32), .one (.int .i64)] 83 #[.string s] w R
theorem F.utf8_DecodeRuneInString_mono {s : ByteArray} {w : World} {R R' : Int → Int → World → Prop} (h : F.utf8_DecodeRuneInString s w R) (hR : ∀ x0 x1 w', R x0 x1 w' → R' x0 x1 w') : F.utf8_DecodeRuneInString s w R' :=
  Calls.mono h fun e w' hx => by
    obtain ⟨x0, x1, he, hr⟩ := hx
    exact ⟨x0, x1, he, hR x0 x1 w' hr⟩
/-- strings.ContainsRune -/
def F.strings_ContainsRune (s : ByteArray) (r : Int) (w : World) (R : Bool → World → Prop) : Prop := RetT Pg [.one .bool] 84 #[.string s, .int .i32 r] w R
theorem F.strings_ContainsRune_mono {s : ByteArray} {r : Int} {w : World} {R R' : Bool → World → Prop} (h : F.strings_ContainsRune s r w R) (hR : ∀ x0 w', R x0 w' → R' x0 w') : F.strings_ContainsRune s r w R' :=
  Calls.mono h fun e w' hx => by
    obtain ⟨x0, he, hr⟩ := hx
    exact ⟨x0, he, hR x0 w' hr⟩
/-- unicode/utf8.DecodeLastRuneInString -/
def F.utf8_DecodeLastRuneInString (s : ByteArray) (w : World) (R : Int → Int → World → Prop) : Prop := RetT Pg [.one (.int .i32), .one (.int .i64)] 85 #[.string s] w R
theorem F.utf8_DecodeLastRuneInString_mono {s : ByteArray} {w : World} {R R' : Int → Int → World → Prop} (h : F.utf8_DecodeLastRuneInString s w R) (hR : ∀ x0 x1 w', R x0 x1 w' → R' x0 x1 w') : F.utf8_DecodeLastRuneInString s w R' :=
  Calls.mono h fun e w' hx => by
    obtain ⟨x0, x1, he, hr⟩ := hx
    exact ⟨x0, x1, he, hR x0 x1 w' hr⟩
/-- internal/stringslite.Clone -/
def F.stringslite_Clone (s : ByteArray) (w : World) (R : ByteArray → World → Prop) : Prop := RetT Pg [.one .str] 86 #[.string s] w R
theorem F.stringslite_Clone_mono {s : ByteArray} {w : World} {R R' : ByteArray → World → Prop} (h : F.stringslite_Clone s w R) (hR : ∀ x0 w', R x0 w' → R' x0 w') : F.stringslite_Clone s w R' :=
  Calls.mono h fun e w' hx => by
    obtain ⟨x0, he, hr⟩ := hx
    exact ⟨x0, he, hR x0 w' hr⟩
/-- slices.rotateLeft[table.Name] -/
def F.slices_rotateLeft_table_Name (s : Sl) (r : Int) (w : World) (R : World → Prop) : Prop := RetT Pg [] 87 #[.slice s.a s.len s.cap, .int .i64 r] w R
theorem F.slices_rotateLeft_table_Name_mono {s : Sl} {r : Int} {w : World} {R R' : World → Prop} (h : F.slices_rotateLeft_table_Name s r w R) (hR : ∀ w', R  w' → R'  w') : F.slices_rotateLeft_table_Name s r w R' :=
  Calls.mono h fun e w' hx => by
    obtain ⟨he, hr⟩ := hx
    exact ⟨he, hR  w' hr⟩
/-- slices.insertionSortOrdered[int] -/
def F.slices_insertionSortOrdered_int (data : Sl) (a : Int) (b : Int) (w : World) (R : World → Prop) : Prop := RetT Pg [] 88 #[.slice data.a data.len data.cap, .int .i64 a, .int .i64 b] w R
theorem F.slices_insertionSortOrdered_int_mono {data : Sl} {a : Int} {b : Int} {w : World} {R R' : World → Prop} (h : F.slices_insertionSortOrdered_int data a b w R) (hR : ∀ w', R  w' → R'  w') : F.slices_insertionSortOrdered_int data a b w R' :=
  Calls.mono h fun e w' hx => by
    obtain ⟨he, hr⟩ := hx
    exact ⟨he, hR  w' hr⟩
/-- slices.heapSortOrdered[int] -/
def F.slices_heapSortOrdered_int (data : Sl) (a : Int) (b : Int) (w : World) (R : World → Prop) : Prop := RetT Pg [] 89 #[.slice data.a data.len data.cap, .int .i64 a, .int .i64 b] w R
theorem F.slices_heapSortOrdered_int_mono {data : Sl} {a : Int} {b : Int} {w : World} {R R' : World → Prop} (h : F.slices_heapSortOrdered_int data a b w R) (hR : ∀ w', R  w' → R'  w') : F.slices_heapSortOrdered_int data a b w R' :=
  Calls.mono h fun e w' hx => by
    obtain ⟨he, hr⟩ := hx
    exact ⟨he, hR  w' hr⟩
/-- slices.breakPatternsOrdered[int] -/
def F.slices_breakPatternsOrdered_int (data : Sl) (a : Int) (b : Int) (w : World) (R : World → Prop) : Prop := RetT Pg [] 90 #[.slice data.a data.len data.cap, .int .i64 a, .int .i64 b] w R
theorem F.slices_breakPatternsOrdered_int_mono {data : Sl} {a : Int} {b : Int} {w : World} {R R' : World → Prop} (h : F.slices_breakPatternsOrdered_int data a b w R) (hR : ∀ w', R  w' → R'  w') : F.slices_breakPatternsOrdered_int data a b w R' :=
  Calls.mono h fun e w' hx => by
    obtain ⟨he, hr⟩ := hx
    exact ⟨he, hR  w' hr⟩
/-- slices.choosePivotOrdered[int] -/
def F.slices_choosePivotOrdered_int (data : Sl) (a : Int) (b : Int) (w : World) (R : Int → Int → World → Prop) : Prop := RetT Pg [.one (.int .i64), .one (.int .i64)] 91 #[.slice data.a data.len data.cap, .int .i64 a, .int .i64 b] w R
theorem F.slices_choosePivotOrdered_int_mono {data : Sl} {a : Int} {b : Int} {w : World} {R R' : Int → Int → World → Prop} (h : F.slices_choosePivotOrdered_int data a b w R) (hR : ∀ x0 x1 w', R x0 x1 w' → R' x0 x1 w') : F.slices_choosePivotOrdered_int data a b w R' :=
  Calls.mono h fun e w' hx => by
    obtain ⟨x0, x1, he, hr⟩ := hx
    exact ⟨x0, x1, he, hR x0 x1 w' hr⟩
/-- slices.reverseRangeOrdered[int] -/
def F.slices_reverseRangeOrdered_int (data : Sl) (a : Int) (b : Int) (w : World) (R : World → Prop) : Prop := RetT Pg [] 92 #[.slice data.a data.len data.cap, .int .i64 a, .int .i64 b] w R
theorem F.slices_reverseRangeOrdered_int_mono {data : Sl} {a : Int} {b : Int} {w : World} {R R' : World → Prop} (h : F.slices_reverseRangeOrdered_int data a b w R) (hR : ∀ w', R  w' → R'  w') : F.slices_reverseRangeOrdered_int data a b w R' :=
  Calls.mono h fun e w' hx => by
    obtain ⟨he, hr⟩ := hx
    exact ⟨he, hR  w' hr⟩
/-- slices.partialInsertionSortOrdered[int] -/
def F.slices_partialInsertionSortOrdered_int (data : Sl) (a : Int) (b : Int) (w : World) (R : Bool → World → Prop) : Prop := RetT Pg [.one .bool] 93 #[.slice data.a data.len data.cap, .int .i64 a, .int .i64 b] w R
theorem F.slices_partialInsertionSortOrdered_int_mono {data : Sl} {a : Int} {b : Int} {w : World} {R R' : Bool → World → Prop} (h : F.slices_partialInsertionSortOrdered_int data a b w R) (hR : ∀ x0 w', R x0 w' → R' x0 w') : F.slices_partialInsertionSortOrdered_int data a b w R' :=
  Calls.mono h fun e w' hx => by
    obtain ⟨x0, he, hr⟩ := hx
    exact ⟨x0, he, hR x0 w' hr⟩
/-- cmp.Less[int] -/
def F.cmp_Less_int (x : Int) (y : Int) (w : World) (R : Bool → World → Prop) : Prop := RetT Pg [.one .bool] 94 #[.int .i64 x, .int .i64 y] w R
theorem F.cmp_Less_int_mono {x : Int} {y : Int} {w : World} {R R' : Bool → World → Prop} (h : F.cmp_Less_int x y w R) (hR : ∀ x0 w', R x0 w' → R' x0 w') : F.cmp_Less_int x y w R' :=
  Calls.mono h fun e w' hx => by
    obtain ⟨x0, he, hr⟩ := hx
    exact ⟨x0, he, hR x0 w' hr⟩
/-- slices.partitionEqualOrdered[int] -/
def F.slices_partitionEqualOrdered_int (data : Sl) (a : Int) (b : Int) (pivot : Int) (w : World) (R : Int → World → Prop) : Prop := RetT Pg [.one (.int .i64)] 95 #[.slice data.a data.len data.cap, .int .i64 a, .int .i64 b, .int .i64 pivot] w R
theorem F.slices_partitionEqualOrdered_int_mono {data : Sl} {a : Int} {b : Int} {pivot : Int} {w : World} {R R' : Int → World → Prop} (h : F.slices_partitionEqualOrdered_int data a b pivot w R) (hR : ∀ x0 w', R x0 w' → R' x0 w') : F.slices_partitionEqualOrdered_int data a b pivot w R' :=
  Calls.mono h fun e w' hx => by
    obtain ⟨x0, he, hr⟩ := hx
    exact ⟨x0, he, hR x0 w' hr⟩
/-- slices.partitionOrdered[int] -/
def F.slices_partitionOrdered_int (data : Sl) (a : Int) (b : Int) (pivot : Int) (w : World) (R : Int → Bool → World → Prop) : Prop := RetT Pg [.one (.int .i64), .one .bool] 96 #[.slice data.a data.len data.cap, .int .i64 a, .int .i64 b, .int .i64 pivot] w R
theorem F.slices_partitionOrdered_int_mono {data : Sl} {a : Int} {b : Int} {pivot : Int} {w : World} {R R' : Int → Bool → World → Prop} (h : F.slices_partitionOrdered_int data a b pivot w R) (hR : ∀ x0 x1 w', R x0 x1 w' → R' x0 x1 w') : F.slices_partitionOrdered_int data a b pivot w R' :=
  Calls.mono h fun e w' hx => by
    obtain ⟨x0, x1, he, hr⟩ := hx
    exact ⟨x0, x1, he, hR x0 x1 w' hr⟩
/-- math/bits.Len32 -/
def F.bits_Len32 (x : Int) (w : World) (R : Int → World → Prop) : Prop := RetT Pg [.one (.int .i64)] 97 #[.int .u32 x] w R
theorem F.bits_Len32_mono {x : Int} {w : World} {R R' : Int → World → Prop} (h : F.bits_Len32 x w R) (hR : ∀ x0 w', R x0 w' → R' x0 w') : F.bits_Len32 x w R' :=
  Calls.mono h fun e w' hx => by
    obtain ⟨x0, he, hr⟩ := hx
    exact ⟨x0, he, hR x0 w' hr⟩
/-- math/bits.Len64 -/
def F.bits_Len64 (x : Int) (w : World) (R : Int → World → Prop) : Prop := RetT Pg [.one (.int .i64)] 98 #[.int .u64 x] w R
theorem F.bits_Len64_mono {x : Int} {w : World} {R R' : Int → World → Prop} (h : F.bits_Len64 x w R) (hR : ∀ x0 w', R x0 w' → R' x0 w') : F.bits_Len64 x w R' :=
  Calls.mono h fun e w' hx => by
    obtain ⟨x0, he, hr⟩ := hx
    exact ⟨x0, he, hR x0 w' hr⟩
/-- crc.half -/
def F.crc_half (w : World) (R : Int → Int → Int → Int → Int → Int → Int → Int → Int → Int → Int → Int → Int → Int → Int → Int → World → Prop) : Prop := RetT Pg [.agg [.int .u32, .int .u32, .int .u32, .int .u32, .int .u32, .int .u32, .int .u32, .int .u32, .int .u32, .int .u32, .int .u32, .int .u32, .int .u32, .int .u32, .int .u32, .int .u32]] 99 #[] w R
theorem F.crc_half_mono {w : World} {R R' : Int → Int → Int → Int → Int → Int → Int → Int → Int → Int → Int → Int → Int → Int → Int → Int → World → Prop} (h : F.crc_half  w R) (hR : ∀ x0 x1 x2 x3 x4 x5 x6 x7 x8 x9 x10 x11 x12 x13 x14 x15 w', R x0 x1 x2 x3 x4 x5 x6 x7 x8 x9 x10 x11 x12 x13 x14 x15 w' → R' x0 x1 x2 x3 x4 x5 x6 x7 x8 x9 x10 x11 x12 x13 x14 x15 w') : F.crc_half  w R' :=
  Calls.mono h fun e w' hx => by
    obtain ⟨x0, x1, x2, x3, x4, x5, x6, x7, x8, x9, x10, x11, x12, x13, x14, x15, he, hr⟩ := hx
    exact ⟨x0, x1, x2, x3, x4, x5, x6, x7, x8, x9, x10, x11, x12, x13, x14, x15, he, hR x0 x1 x2 x3 x4 x5 x6 x7 x8 x9 x10 x11 x12 x13 x14 x15 w' hr⟩
/-- unicode/utf8.decodeRuneInStringSlow -/
def F.utf8_decodeRuneInStringSlow (s : ByteArray) (w : World) (R : Int → Int → World → Prop) : Prop := RetT Pg [.one (.int .i32), .one (.int .i64)] 100 #[.string s] w R
theorem F.utf8_decodeRuneInStringSlow_mono {s : ByteArray} {w : World} {R R' : Int → Int → World → Prop} (h : F.utf8_decodeRuneInStringSlow s w R) (hR : ∀ x0 x1 w', R x0 x1 w' → R' x0 x1 w') : F.utf8_decodeRuneInStringSlow s w R' :=
  Calls.mono h fun e w' hx => by
    obtain ⟨x0, x1, he, hr⟩ := hx
    exact ⟨x0, x1, he, hR x0 x1 w' hr⟩
/-- strings.IndexRune -/
def F.strings_IndexRune (s : ByteArray) (r : Int) (w : World) (R : Int → World → Prop) : Prop := RetT Pg [.one (.int .i64)] 101 #[.string s, .int .i32 r] w R
theorem F.strings_IndexRune_mono {s : ByteArray} {r : Int} {w : World} {R R' : Int → World → Prop} (h : F.strings_IndexRune s r w R) (hR : ∀ x0 w', R x0 w' → R' x0 w') : F.strings_IndexRune s r w R' :=
  Calls.mono h fun e w' hx => by
    obtain ⟨x0, he, hr⟩ := hx
    exact ⟨x0, he, hR x0 w' hr⟩
/-- unicode/utf8.RuneStart -/
def F.utf8_RuneStart (b : Int) (w : World) (R : Bool → World → Prop) : Prop := RetT Pg [.one .bool] 102 #[.int .u8 b] w R
theorem F.utf8_RuneStart_mono {b : Int} {w : World} {R R' : Bool → World → Prop} (h : F.utf8_RuneStart b w R) (hR : ∀ x0 w', R x0 w' → R' x0 w') : F.utf8_RuneStart b w R' :=
  Calls.mono h fun e w' hx => by
    obtain ⟨x0, he, hr⟩ := hx
    exact ⟨x0, he, hR x0 w' hr⟩
/-- slices.Reverse[[]table.Name,table.Name] -/
def F.slices_Reverse_sl_table_Name_table_Name (s : Sl) (w : World) (R : World → Prop) : Prop := RetT Pg [] 103 #[.slice s.a s.len s.cap] w R
theorem F.slices_Reverse_sl_table_Name_table_Name_mono {s : Sl} {w : World} {R R' : World → Prop} (h : F.slices_Reverse_sl_table_Name_table_Name s w R) (hR : ∀ w', R  w' → R'  w') : F.slices_Reverse_sl_table_Name_table_Name s w R' :=
  Calls.mono h fun e w' hx => by
    obtain ⟨he, hr⟩ := hx
    exact ⟨he, hR  w' hr⟩
/-- slices.siftDownOrdered[int] -/
def F.slices_siftDownOrdered_int (data : Sl) (lo : Int) (hi : Int) (first : Int) (w : World) (R : World → Prop) : Prop := RetT Pg [] 104 #[.slice data.a data.len data.cap, .int .i64 lo, .int .i64 hi, .int .i64 first] w R
theorem F.slices_siftDownOrdered_int_mono {data : Sl} {lo : Int} {hi : Int} {first : Int} {w : World} {R R' : World → Prop} (h : F.slices_siftDownOrdered_int data lo hi first w R) (hR : ∀ w', R  w' → R'  w') : F.slices_siftDownOrdered_int data lo hi first w R' :=
  Calls.mono h fun e w' hx => by
    obtain ⟨he, hr⟩ := hx
    exact ⟨he, hR  w' hr⟩
/-- slices.nextPowerOfTwo -/
def F.slices_nextPowerOfTwo (length : Int) (w : World) (R : Int → World → Prop) : Prop := RetT Pg [.one (.int .u64)] 105 #[.int .i64 length] w R
theorem F.slices_nextPowerOfTwo_mono {length : Int} {w : World} {R R' : Int → World → Prop} (h : F.slices_nextPowerOfTwo length w R) (hR : ∀ x0 w', R x0 w' → R' x0 w') : F.slices_nextPowerOfTwo length w R' :=
  Calls.mono h fun e w' hx => by
    obtain ⟨x0, he, hr⟩ := hx
    exact ⟨x0, he, hR x0 w' hr⟩
/-- (*slices.xorshift).Next -/
def F.slices_xorshift_Next (r : Option Addr) (w : World) (R : Int → World → Prop) : Prop := RetT Pg [.one (.int .u64)] 106 #[.pointer r] w R
theorem F.slices_xorshift_Next_mono {r : Option Addr} {w : World} {R R' : Int → World → Prop} (h : F.slices_xorshift_Next r w R) (hR : ∀ x0 w', R x0 w' → R' x0 w') : F.slices_xorshift_Next r w R' :=
  Calls.mono h fun e w' hx => by
    obtain ⟨x0, he, hr⟩ := hx
    exact ⟨x0, he, hR x0 w' hr⟩
/-- slices.medianAdjacentOrdered[int] -/
def F.slices_medianAdjacentOrdered_int (data : Sl) (a : Int) (swaps : Option Addr) (w : World) (R : Int → World → Prop) : Prop := RetT Pg [.one (.int .i64)] 107 #[.slice data.a data.len data.cap, .int .i64 a, .pointer swaps] w R
theorem F.slices_medianAdjacentOrdered_int_mono {data : Sl} {a : Int} {swaps : Option Addr} {w : World} {R R' : Int → World → Prop} (h : F.slices_medianAdjacentOrdered_int data a swaps w R) (hR : ∀ x0 w', R x0 w' → R' x0 w') : F.slices_medianAdjacentOrdered_int data a swaps w R' :=
  Calls.mono h fun e w' hx => by
    obtain ⟨x0, he, hr⟩ := hx
    exact ⟨x0, he, hR x0 w' hr⟩
/-- slices.medianOrdered[int] -/
def F.slices_medianOrdered_int (data : Sl) (a : Int) (b : Int) (c : Int) (swaps : Option Addr) (w : World) (R : Int → World → Prop) : Prop := RetT Pg [.one (.int .i64)] 108 #[.slice data.a data.len data.cap, .int .i64 a, .int .i64 b, .int .i64 c, .pointer swaps] w R
theorem F.slices_medianOrdered_int_mono {data : Sl} {a : Int} {b : Int} {c : Int} {swaps : Option Addr} {w : World} {R R' : Int → World → Prop} (h : F.slices_medianOrdered_int data a b c swaps w R) (hR : ∀ x0 w', R x0 w' → R' x0 w') : F.slices_medianOrdered_int data a b c swaps w R' :=
  Calls.mono h fun e w' hx => by
    obtain ⟨x0, he, hr⟩ := hx
    exact ⟨x0, he, hR x0 w' hr⟩
/-- cmp.isNaN[int] -/
def F.cmp_isNaN_int (x : Int) (w : World) (R : Bool → World → Prop) : Prop := RetT Pg [.one .bool] 109 #[.int .i64 x] w R
theorem F.cmp_isNaN_int_mono {x : Int} {w : World} {R R' : Bool → World → Prop} (h : F.cmp_isNaN_int x w R) (hR : ∀ x0 w', R x0 w' → R' x0 w') : F.cmp_isNaN_int x w R' :=
  Calls.mono h fun e w' hx => by
    obtain ⟨x0, he, hr⟩ := hx
    exact ⟨x0, he, hR x0 w' hr⟩
/-- strings.IndexByte -/
def F.strings_IndexByte (s : ByteArray) (c : Int) (w : World) (R : Int → World → Prop) : Prop := RetT Pg [.one (.int .i64)] 110 #[.string s, .int .u8 c] w R
theorem F.strings_IndexByte_mono {s : ByteArray} {c : Int} {w : World} {R R' : Int → World → Prop} (h : F.strings_IndexByte s c w R) (hR : ∀ x0 w', R x0 w' → R' x0 w') : F.strings_IndexByte s c w R' :=
  Calls.mono h fun e w' hx => by
    obtain ⟨x0, he, hr⟩ := hx
    exact ⟨x0, he, hR x0 w' hr⟩
/-- unicode/utf8.ValidRune -/
def F.utf8_ValidRune (r : Int) (w : World) (R : Bool → World → Prop) : Prop := RetT Pg [.one .bool] 111 #[.int .i32 r] w R
theorem F.utf8_ValidRune_mono {r : Int} {w : World} {R R' : Bool → World → Prop} (h : F.utf8_ValidRune r w R) (hR : ∀ x0 w', R x0 w' → R' x0 w') : F.utf8_ValidRune r w R' :=
  Calls.mono h fun e w' hx => by
    obtain ⟨x0, he, hr⟩ := hx
    exact ⟨x0, he, hR x0 w' hr⟩
/-- internal/bytealg.Cutover -/
def F.bytealg_Cutover (n : Int) (w : World) (R : Int → World → Prop) : Prop := RetT Pg [.one (.int .i64)] 112 #[.int .i64 n] w R
theorem F.bytealg_Cutover_mono {n : Int} {w : World} {R R' : Int → World → Prop} (h : F.bytealg_Cutover n w R) (hR : ∀ x0 w', R x0 w' → R' x0 w') : F.bytealg_Cutover n w R' :=
  Calls.mono h fun e w' hx => by
    obtain ⟨x0, he, hr⟩ := hx
    exact ⟨x0, he, hR x0 w' hr⟩
/-- slices.order2Ordered[int] -/
def F.slices_order2Ordered_int (data : Sl) (a : Int) (b : Int) (swaps : Option Addr) (w : World) (R : Int → Int → World → Prop) : Prop := RetT Pg [.one (.int .i64), .one (.int .i64)] 114 #[.slice data.a data.len data.cap, .int .i64 a, .int .i64 b, .pointer swaps] w R
theorem F.slices_order2Ordered_int_mono {data : Sl} {a : Int} {b : Int} {swaps : Option Addr} {w : World} {R R' : Int → Int → World → Prop} (h : F.slices_order2Ordered_int data a b swaps w R) (hR : ∀ x0 x1 w', R x0 x1 w' → R' x0 x1 w') : F.slices_order2Ordered_int data a b swaps w R' :=
  Calls.mono h fun e w' hx => by
    obtain ⟨x0, x1, he, hr⟩ := hx
    exact ⟨x0, x1, he, hR x0 x1 w' hr⟩
/-- internal/stringslite.IndexByte -/
def F.stringslite_IndexByte (s : ByteArray) (c : Int) (w : World) (R : Int → World → Prop) : Prop := RetT Pg [.one (.int .i64)] 115 #[.string s, .int .u8 c] w R
theorem F.stringslite_IndexByte_mono {s : ByteArray} {c : Int} {w : World} {R R' : Int → World → Prop} (h : F.stringslite_IndexByte s c w R) (hR : ∀ x0 w', R x0 w' → R' x0 w') : F.stringslite_IndexByte s c w R' :=
  Calls.mono h fun e w' hx => by
    obtain ⟨x0, he, hr⟩ := hx
    exact ⟨x0, he, hR x0 w' hr⟩
/-- gosem.cut.vars -/
def F.gosem_cut_vars (w : World) (R : World → Prop) : Prop := RetT Pg [] 138 #[] w R
theorem F.gosem_cut_vars_mono {w : World} {R R' : World → Prop} (h : F.gosem_cut_vars  w R) (hR : ∀ w', R  w' → R'  w') : F.gosem_cut_vars  w R' :=
  Calls.mono h fun e w' hx => by
    obtain ⟨he, hr⟩ := hx
    exact ⟨he, hR  w' hr⟩
end Go.Proofs.YtepclihkniaieaaDoor
