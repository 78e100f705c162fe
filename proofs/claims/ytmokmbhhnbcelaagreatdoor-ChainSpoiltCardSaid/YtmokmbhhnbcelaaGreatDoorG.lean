import Derived.Test.YtmokmbhhnbcelaaGreatDoorVc
import Derived.Test.YtmokmbhhnbcelaaGreatDoorChecked
import Derived.Eval
namespace Go.Proofs.YtmokmbhhnbcelaaGreatDoor
open Go Go.Vc
open Go.RowKit (Below)
set_option linter.unusedVariables false

noncomputable abbrev Pg : Program := Tryz.prog
abbrev T.y_t0 : TypeId := 0
abbrev T.y_func : TypeId := 1
abbrev T.y_int64 : TypeId := 2
abbrev T.y_int : TypeId := 3
abbrev T.y_bool : TypeId := 4
abbrev T.y_uint8 : TypeId := 5
abbrev T.y_abi_BoundsErrorCode : TypeId := 6
abbrev T.y_struct_x_int64_y_int_signed_bool_code_ab_7 : TypeId := 7
abbrev T.y_runtime_boundsError : TypeId := 8
abbrev T.y_string : TypeId := 9
abbrev T.y_runtime_errorString : TypeId := 10
abbrev T.y_runtime_plainError : TypeId := 11
abbrev T.y_uintptr : TypeId := 12
abbrev T.y_struct_msg_string_addr_uintptr : TypeId := 13
abbrev T.y_runtime_errorAddressString : TypeId := 14
abbrev T.y_p_runtime_TypeAssertionError : TypeId := 15
abbrev T.y_p_runtime_PanicNilError : TypeId := 16
abbrev T.y_p_abi_Type : TypeId := 17
abbrev T.y_struct_typ_p_abi_Type : TypeId := 18
abbrev T.y_maps_unhashableTypeError : TypeId := 19
abbrev T.y_interface : TypeId := 20
abbrev T.y_int32 : TypeId := 21
abbrev T.y_func_bool : TypeId := 22
abbrev T.y_p_desk_Desk : TypeId := 23
abbrev T.y_func_int_p_desk_Desk : TypeId := 24
abbrev T.y_func_int_string : TypeId := 25
abbrev T.y_api_Errno : TypeId := 26
abbrev T.y_int_api_Errno : TypeId := 27
abbrev T.y_func_p_desk_Desk_int_int_string_int_api__28 : TypeId := 28
abbrev T.y_sl_int : TypeId := 29
abbrev T.y_sl_int_api_Errno : TypeId := 30
abbrev T.y_func_p_desk_Desk_int_sl_int_api_Errno : TypeId := 31
abbrev T.y_string_api_Errno : TypeId := 32
abbrev T.y_func_int_string_api_Errno : TypeId := 33
abbrev T.y_func_int_string_api_Errno_34 : TypeId := 34
abbrev T.y_struct_Gen_int_Tag_int_Refs_int_Data_str_35 : TypeId := 35
abbrev T.y_chain_Chain : TypeId := 36
abbrev T.y_chain_Chain_api_Errno : TypeId := 37
abbrev T.y_func_p_desk_Desk_int_chain_Chain_api_Err_38 : TypeId := 38
abbrev T.y_sl_uint8 : TypeId := 39
abbrev T.y_func_p_desk_Desk_int_int_int_api_Errno : TypeId := 40
abbrev T.y_func_p_desk_Desk_int_api_Errno : TypeId := 41
abbrev T.y_func_string_string_int_int_int_bool_bool : TypeId := 42
abbrev T.y_sl_api_Piece : TypeId := 43
abbrev T.y_struct_At_int_Len_int : TypeId := 44
abbrev T.y_api_Piece : TypeId := 45
abbrev T.y_sl_api_Piece_int_int : TypeId := 46
abbrev T.y_func_int_int_api_Piece_sl_api_Piece_int__47 : TypeId := 47
abbrev T.y_func_sl_api_Piece_sl_api_Piece_bool : TypeId := 48
abbrev T.y_func_int_int_sl_api_Piece_bool : TypeId := 49
abbrev T.y_func_api_Piece_int : TypeId := 50
abbrev T.y_func_sl_api_Piece_int_bool : TypeId := 51
abbrev T.y_uint64 : TypeId := 52
abbrev T.y_func_string_uint64 : TypeId := 53
abbrev T.y_struct_Gen_int_Refs_int_Pieces_sl_api_Pi_54 : TypeId := 54
abbrev T.y_plan_Plan : TypeId := 55
abbrev T.y_plan_Plan_api_Errno : TypeId := 56
abbrev T.y_func_p_desk_Desk_int_plan_Plan_api_Errno : TypeId := 57
abbrev T.y_func_int_int_string_bool : TypeId := 58
abbrev T.y_sl_masonrylaw11_Op : TypeId := 59
abbrev T.y_func_sl_masonrylaw11_Op_bool : TypeId := 60
abbrev T.y_p_disk_Disk : TypeId := 61
abbrev T.y_p_disk_Disk_api_Errno : TypeId := 62
abbrev T.y_func_int_p_disk_Disk_api_Errno : TypeId := 63
abbrev T.y_p_desk_Desk_api_Errno : TypeId := 64
abbrev T.y_func_p_disk_Disk_p_desk_Desk_api_Errno : TypeId := 65
abbrev T.y_p_wal_Wal : TypeId := 66
abbrev T.y_p_room_Room : TypeId := 67
abbrev T.y_map_int_string : TypeId := 68
abbrev T.y_struct_p_wal_Wal_room_p_room_Room_m_map__69 : TypeId := 69
abbrev T.y_desk_Desk : TypeId := 70
abbrev T.y_func_p_desk_Desk_sl_masonrylaw11_Op : TypeId := 71
abbrev T.y_struct_k_p_desk_Desk_room_p_room_Room_m__72 : TypeId := 72
abbrev T.y_desk_Mark : TypeId := 73
abbrev T.y_func_desk_Mark : TypeId := 74
abbrev T.y_func_p_desk_Desk_string : TypeId := 75
abbrev T.y_func_desk_Mark_76 : TypeId := 76
abbrev T.y_func_api_Errno : TypeId := 77
abbrev T.y_func_sl_masonrylaw11_Op_sl_masonrylaw11__78 : TypeId := 78
abbrev T.y_sl_sl_table_Name : TypeId := 79
abbrev T.y_sl_masonryref1_Name : TypeId := 80
abbrev T.y_func_sl_table_Name_bool : TypeId := 81
abbrev T.y_sl_table_Name : TypeId := 82
abbrev T.y_func_sl_masonryref1_Name_string_api_Errn_83 : TypeId := 83
abbrev T.y_func_sl_table_Name_sl_masonryref1_Name : TypeId := 84
abbrev T.y_func_p_desk_Desk_int_int_table_Name_int__85 : TypeId := 85
abbrev T.y_sl_table_Name_api_Errno : TypeId := 86
abbrev T.y_func_p_desk_Desk_int_int_sl_table_Name_a_87 : TypeId := 87
abbrev T.y_func_sl_table_Name_sl_masonryref1_Name_b_88 : TypeId := 88
abbrev T.y_func_p_room_Room : TypeId := 89
abbrev T.y_func_sl_int : TypeId := 90
abbrev T.y_func_int_sl_sl_table_Name_bool : TypeId := 91
abbrev T.y_func_api_Write_api_Errno : TypeId := 92
abbrev T.y_func_string_string : TypeId := 93
abbrev T.y_struct_At_int_Data_string : TypeId := 94
abbrev T.y_api_Write : TypeId := 95
abbrev T.y_func_string_int_api_Errno : TypeId := 96
abbrev T.y_func_sl_int_sl_int_bool : TypeId := 97
abbrev T.y_func_int_api_Errno : TypeId := 98
abbrev T.y_p_masonrylaw11_state : TypeId := 99
abbrev T.y_sl_string : TypeId := 100
abbrev T.y_struct_home_sl_string_on_sl_string_used__101 : TypeId := 101
abbrev T.y_masonrylaw11_state : TypeId := 102
abbrev T.y_func_p_masonrylaw11_state : TypeId := 103
abbrev T.y_struct_Kind_int_A_int_S_string_L_sl_int : TypeId := 104
abbrev T.y_masonrylaw11_Op : TypeId := 105
abbrev T.y_func_sl_int_int_bool : TypeId := 106
abbrev T.y_func_sl_int_int_sl_int : TypeId := 107
abbrev T.y_func_sl_int_sl_int : TypeId := 108
abbrev T.y_func_p_desk_Desk_p_masonrylaw11_state_bo_109 : TypeId := 109
abbrev T.y_func_int_int : TypeId := 110
abbrev T.y_func_int_int_111 : TypeId := 111
abbrev T.y_func_int_sl_masonrylaw11_Op_bool : TypeId := 112
abbrev T.y_sl_masonrylaw12_Op : TypeId := 113
abbrev T.y_func_sl_masonrylaw12_Op_bool : TypeId := 114
abbrev T.y_sl_masonrylaw12_there : TypeId := 115
abbrev T.y_struct_Kind_int_K_int_Gen_int_Tag_int_By_116 : TypeId := 116
abbrev T.y_masonrylaw12_Op : TypeId := 117
abbrev T.y_func_int_int_118 : TypeId := 118
abbrev T.y_struct_at_int_gen_int_tag_int_refs_int_d_119 : TypeId := 119
abbrev T.y_masonrylaw12_there : TypeId := 120
abbrev T.y_func_int : TypeId := 121
abbrev T.y_func_int_sl_masonrylaw12_Op_int_bool : TypeId := 122
abbrev T.y_struct_Kind_int_Sum_string : TypeId := 123
abbrev T.y_api_Print : TypeId := 124
abbrev T.y_func_int_string_api_Print : TypeId := 125
abbrev T.y_func_api_Print_string : TypeId := 126
abbrev T.y_struct_Gen_int_Refs_int_Print_api_Print__127 : TypeId := 127
abbrev T.y_brick_Brick : TypeId := 128
abbrev T.y_brick_Brick_api_Errno : TypeId := 129
abbrev T.y_func_p_desk_Desk_int_brick_Brick_api_Err_130 : TypeId := 130
abbrev T.y_func_int_int_string_bool_bool : TypeId := 131
abbrev T.y_func_p_desk_Desk_int_string_int_api_Errn_132 : TypeId := 132
abbrev T.y_func_int_sl_string_sl_int_bool : TypeId := 133
abbrev T.y_func_sl_api_Piece_sl_api_Piece : TypeId := 134
abbrev T.y_func_p_desk_Desk_int_api_Piece_int_api_E_135 : TypeId := 135
abbrev T.y_p_masonrybook_Book : TypeId := 136
abbrev T.y_sl_sl_string : TypeId := 137
abbrev T.y_sl_sl_int : TypeId := 138
abbrev T.y_sl_sl_api_Span : TypeId := 139
abbrev T.y_sl_sl_api_Piece : TypeId := 140
abbrev T.y_sl_sl_api_Entry : TypeId := 141
abbrev T.y_sl_sl_api_Object : TypeId := 142
abbrev T.y_sl_sl_api_Write : TypeId := 143
abbrev T.y_sl_sl_api_Step : TypeId := 144
abbrev T.y_struct_texts_sl_sl_string_wasTexts_sl_sl_145 : TypeId := 145
abbrev T.y_masonrybook_Book : TypeId := 146
abbrev T.y_func_sl_api_Piece : TypeId := 147
abbrev T.y_func_int_sl_api_Piece_int_bool : TypeId := 148
abbrev T.y_func_int_int_sl_string_bool : TypeId := 149
abbrev T.y_func_sl_string_string : TypeId := 150
abbrev T.y_func_sl_string_sl_string : TypeId := 151
abbrev T.y_func_sl_string_sl_string_bool : TypeId := 152
abbrev T.y_func_int_sl_string_int_bool : TypeId := 153
abbrev T.y_struct_gen_int_tag_int_number_int_refs_i_154 : TypeId := 154
abbrev T.y_chain_link : TypeId := 155
abbrev T.y_func_string : TypeId := 156
abbrev T.y_sl_chain_link : TypeId := 157
abbrev T.y_sl_chain_link_sl_int_api_Errno : TypeId := 158
abbrev T.y_func_p_desk_Desk_int_sl_chain_link_sl_in_159 : TypeId := 159
abbrev T.y_string_bool : TypeId := 160
abbrev T.y_func_int_bool : TypeId := 161
abbrev T.y_p_bits_In : TypeId := 162
abbrev T.y_func_string_p_bits_In : TypeId := 163
abbrev T.y_func_int_sl_api_Piece_api_Errno : TypeId := 164
abbrev T.y_func_int_int_int : TypeId := 165
abbrev T.y_func_sl_string_int_sl_string : TypeId := 166
abbrev T.y_func_string_int_string : TypeId := 167
abbrev T.y_sl_api_Write : TypeId := 168
abbrev T.y_struct_l_sl_string_safe_sl_string_writes_169 : TypeId := 169
abbrev T.y_disk_Disk : TypeId := 170
abbrev T.y_p_wal_Wal_api_Errno : TypeId := 171
abbrev T.y_func_p_disk_Disk_p_wal_Wal_api_Errno : TypeId := 172
abbrev T.y_p_room_Room_api_Errno : TypeId := 173
abbrev T.y_func_int_int_p_room_Room_api_Errno : TypeId := 174
abbrev T.y_func_string_api_Errno : TypeId := 175
abbrev T.y_func_map_int_string_map_int_string : TypeId := 176
abbrev T.y_struct_Name_string_Plan_int : TypeId := 177
abbrev T.y_table_Name : TypeId := 178
abbrev T.y_int_bool : TypeId := 179
abbrev T.y_func_sl_table_Name_string_int_bool : TypeId := 180
abbrev T.y_func_table_Name_string_api_Errno : TypeId := 181
abbrev T.y_func_string_sl_table_Name_api_Errno : TypeId := 182
abbrev T.y_func_string_bool : TypeId := 183
abbrev T.y_masonryref1_Name : TypeId := 184
abbrev T.y_func_uint64_int_string : TypeId := 185
abbrev T.y_func_p_desk_Desk_int_int_int_string_int__186 : TypeId := 186
abbrev T.y_sl_bool : TypeId := 187
abbrev T.y_struct_l_sl_bool : TypeId := 188
abbrev T.y_room_Room : TypeId := 189
abbrev T.y_func_string_p_room_Room_api_Errno : TypeId := 190
abbrev T.y_func_api_Write_api_Errno_191 : TypeId := 191
abbrev T.y_func_sl_api_Write : TypeId := 192
abbrev T.y_func_int_api_Errno_193 : TypeId := 193
abbrev T.y_func_map_int_string_func_int_string_bool : TypeId := 194
abbrev T.y_func_int_string_bool : TypeId := 195
abbrev T.y_func_int_sl_int_string : TypeId := 196
abbrev T.y_api_Print_api_Errno : TypeId := 197
abbrev T.y_func_string_api_Print_api_Errno : TypeId := 198
abbrev T.y_func_int_string_api_Print_api_Errno : TypeId := 199
abbrev T.y_func_sl_string_string_string : TypeId := 200
abbrev T.y_func_api_Print_string_api_Errno : TypeId := 201
abbrev T.y_p_bits_Out : TypeId := 202
abbrev T.y_struct_b_sl_uint8_e_api_Errno : TypeId := 203
abbrev T.y_bits_Out : TypeId := 204
abbrev T.y_func_int_p_bits_Out : TypeId := 205
abbrev T.y_func_sl_sl_string : TypeId := 206
abbrev T.y_func_sl_sl_int : TypeId := 207
abbrev T.y_func_sl_sl_api_Span : TypeId := 208
abbrev T.y_func_sl_sl_api_Piece : TypeId := 209
abbrev T.y_func_sl_sl_api_Entry : TypeId := 210
abbrev T.y_func_sl_sl_api_Object : TypeId := 211
abbrev T.y_func_sl_sl_api_Write : TypeId := 212
abbrev T.y_func_sl_sl_api_Step : TypeId := 213
abbrev T.y_func_sl_sl_string_bool : TypeId := 214
abbrev T.y_func_sl_sl_int_bool : TypeId := 215
abbrev T.y_func_sl_sl_api_Span_bool : TypeId := 216
abbrev T.y_func_sl_sl_api_Piece_bool : TypeId := 217
abbrev T.y_func_sl_sl_api_Entry_bool : TypeId := 218
abbrev T.y_func_sl_sl_api_Object_bool : TypeId := 219
abbrev T.y_func_sl_sl_api_Write_bool : TypeId := 220
abbrev T.y_func_sl_sl_api_Step_bool : TypeId := 221
abbrev T.y_func_string_p_bits_Out : TypeId := 222
abbrev T.y_func_int_string_string_api_Errno : TypeId := 223
abbrev T.y_map_int_bool : TypeId := 224
abbrev T.y_chain_link_bool : TypeId := 225
abbrev T.y_func_string_chain_link_bool : TypeId := 226
abbrev T.y_struct_Seq_int_Full_bool_Targets_sl_int : TypeId := 227
abbrev T.y_head_Head : TypeId := 228
abbrev T.y_struct_d_p_disk_Disk_h_head_Head_down_bo_229 : TypeId := 229
abbrev T.y_wal_Wal : TypeId := 230
abbrev T.y_struct_b_string_e_api_Errno : TypeId := 231
abbrev T.y_bits_In : TypeId := 232
abbrev T.y_uint : TypeId := 233
abbrev T.y_uint_uint : TypeId := 234
abbrev T.y_func_uint_uint_uint_uint : TypeId := 235
abbrev T.y_func_string_string_bool : TypeId := 236
abbrev T.y_p_strings_Builder : TypeId := 237
abbrev T.y_struct_addr_p_strings_Builder_buf_sl_uin_238 : TypeId := 238
abbrev T.y_strings_Builder : TypeId := 239
abbrev T.y_func_int_240 : TypeId := 240
abbrev T.y_interface_Error_string : TypeId := 241
abbrev T.y_error : TypeId := 242
abbrev T.y_int_error : TypeId := 243
abbrev T.y_func_string_int_error : TypeId := 244
abbrev T.y_map_int_string_api_Errno : TypeId := 245
abbrev T.y_func_sl_api_Write_map_int_string_api_Err_246 : TypeId := 246
abbrev T.y_func_iter_Seq_int_sl_int : TypeId := 247
abbrev T.y_func_func_int_bool : TypeId := 248
abbrev T.y_iter_Seq_int : TypeId := 249
abbrev T.y_func_map_int_string_iter_Seq_int : TypeId := 250
abbrev T.y_func_head_Head_api_Errno : TypeId := 251
abbrev T.y_func_head_Head_int_head_Head : TypeId := 252
abbrev T.y_func_sl_api_Write_api_Errno : TypeId := 253
abbrev T.y_func_sl_bool_sl_bool : TypeId := 254
abbrev T.y_func_interface_interface : TypeId := 255
abbrev T.y_func_int_func_int_bool_int : TypeId := 256
abbrev T.y_func_string_string_string : TypeId := 257
abbrev T.y_head_Head_api_Errno : TypeId := 258
abbrev T.y_func_string_head_Head_api_Errno : TypeId := 259
abbrev T.y_sl_api_Write_api_Errno : TypeId := 260
abbrev T.y_func_sl_api_Write_api_Errno_261 : TypeId := 261
abbrev T.y_func_string_string_api_Errno : TypeId := 262
abbrev T.y_func_int_api_Errno_263 : TypeId := 263
abbrev T.y_func_sl_api_Write_int_func_api_Write_int_264 : TypeId := 264
abbrev T.y_func_api_Write_int_int : TypeId := 265
abbrev T.y_func_sl_api_Write_int_api_Write_sl_api_W_266 : TypeId := 266
abbrev T.y_func_sl_bool_bool_int : TypeId := 267
abbrev T.y_func_sl_int_int_int : TypeId := 268
abbrev T.y_func_int_string_string_api_Errno_269 : TypeId := 269
abbrev T.y_uint32 : TypeId := 270
abbrev T.y_sl_uint32 : TypeId := 271
abbrev T.y_func_string_uint32 : TypeId := 272
abbrev T.y_func_uint32_int_uint32 : TypeId := 273
abbrev T.y_func_sl_uint32 : TypeId := 274
abbrev T.y_func_api_Print_bool : TypeId := 275
abbrev T.y_func_string_string_276 : TypeId := 276
abbrev T.y_func_int_p_bits_Out_277 : TypeId := 277
abbrev T.y_func_int_sl_int_p_bits_Out : TypeId := 278
abbrev T.y_func_sl_api_Span_sl_api_Span_bool : TypeId := 279
abbrev T.y_sl_api_Span : TypeId := 280
abbrev T.y_func_sl_api_Entry_sl_api_Entry_bool : TypeId := 281
abbrev T.y_sl_api_Entry : TypeId := 282
abbrev T.y_func_sl_api_Object_sl_api_Object_bool : TypeId := 283
abbrev T.y_sl_api_Object : TypeId := 284
abbrev T.y_func_sl_api_Write_sl_api_Write_bool : TypeId := 285
abbrev T.y_func_sl_api_Step_sl_api_Step_bool : TypeId := 286
abbrev T.y_sl_api_Step : TypeId := 287
abbrev T.y_func_int_int_int_sl_api_Step : TypeId := 288
abbrev T.y_struct_Word_string_Nums_sl_int_Text_sl_s_289 : TypeId := 289
abbrev T.y_api_Step : TypeId := 290
abbrev T.y_func_int_int_int_sl_string : TypeId := 291
abbrev T.y_func_int_int_int_sl_int : TypeId := 292
abbrev T.y_func_int_int_int_sl_api_Span : TypeId := 293
abbrev T.y_struct_From_int_To_int : TypeId := 294
abbrev T.y_api_Span : TypeId := 295
abbrev T.y_func_int_int_int_sl_api_Piece : TypeId := 296
abbrev T.y_func_int_int_int_sl_api_Entry : TypeId := 297
abbrev T.y_struct_Print_api_Print_At_int : TypeId := 298
abbrev T.y_api_Entry : TypeId := 299
abbrev T.y_func_int_int_int_sl_api_Object : TypeId := 300
abbrev T.y_struct_Name_string_Data_string : TypeId := 301
abbrev T.y_api_Object : TypeId := 302
abbrev T.y_func_int_int_int_sl_api_Write : TypeId := 303
abbrev T.y_func_string_uint32_304 : TypeId := 304
abbrev T.y_p_uint8 : TypeId := 305
abbrev T.y_uint32_uint32 : TypeId := 306
abbrev T.y_func_uint32_uint32_uint32_uint32 : TypeId := 307
abbrev T.y_uint64_uint64 : TypeId := 308
abbrev T.y_func_uint64_uint64_uint64_uint64 : TypeId := 309
abbrev T.y_func_sl_int_310 : TypeId := 310
abbrev T.y_func_head_Head_string_api_Errno : TypeId := 311
abbrev T.y_func_head_Head_head_Head : TypeId := 312
abbrev T.y_func_string_uint8_string : TypeId := 313
abbrev T.y_256_bool : TypeId := 314
abbrev T.y_strings_asciiSet : TypeId := 315
abbrev T.y_strings_asciiSet_bool : TypeId := 316
abbrev T.y_func_string_strings_asciiSet_bool : TypeId := 317
abbrev T.y_func_string_p_strings_asciiSet_string : TypeId := 318
abbrev T.y_p_strings_asciiSet : TypeId := 319
abbrev T.y_func_sl_api_Write_int : TypeId := 320
abbrev T.y_5_uint32 : TypeId := 321
abbrev T.y_func_5_uint32_string_5_uint32 : TypeId := 322
abbrev T.y_8_uint32 : TypeId := 323
abbrev T.y_func_8_uint32_string_8_uint32 : TypeId := 324
abbrev T.y_func_int_int_string : TypeId := 325
abbrev T.y_16_uint32 : TypeId := 326
abbrev T.y_func_16_uint32 : TypeId := 327
abbrev T.y_unsafe_Pointer : TypeId := 328
abbrev T.y_func_unsafe_Pointer_unsafe_Pointer : TypeId := 329
abbrev T.y_func_int_sl_uint8 : TypeId := 330
abbrev T.y_func_sl_int_iter_Seq_int_sl_int : TypeId := 331
abbrev T.y_func_sl_int_int_int_int : TypeId := 332
abbrev T.y_func_uint_int : TypeId := 333
abbrev T.y_func_head_Head_bool : TypeId := 334
abbrev T.y_func_uint8_bool : TypeId := 335
abbrev T.y_int32_int : TypeId := 336
abbrev T.y_func_string_int32_int : TypeId := 337
abbrev T.y_func_string_int32_bool : TypeId := 338
abbrev T.y_80_uint32 : TypeId := 339
abbrev T.y_func_int_uint32_uint32_uint32_uint32_uin_340 : TypeId := 340
abbrev T.y_64_uint32 : TypeId := 341
abbrev T.y_func_string_64_uint32 : TypeId := 342
abbrev T.y_func_64_uint32 : TypeId := 343
abbrev T.y_func_sl_int_int_int_344 : TypeId := 344
abbrev T.y_slices_sortedHint : TypeId := 345
abbrev T.y_int_slices_sortedHint : TypeId := 346
abbrev T.y_func_sl_int_int_int_int_slices_sortedHin_347 : TypeId := 347
abbrev T.y_func_sl_int_int_int_bool : TypeId := 348
abbrev T.y_func_int_int_bool : TypeId := 349
abbrev T.y_func_sl_int_int_int_int_int : TypeId := 350
abbrev T.y_func_sl_int_int_int_int_int_bool : TypeId := 351
abbrev T.y_func_uint32_int : TypeId := 352
abbrev T.y_func_uint64_int : TypeId := 353
abbrev T.y_func_string_int32_int_354 : TypeId := 354
abbrev T.y_func_sl_api_Write_355 : TypeId := 355
abbrev T.y_slices_xorshift : TypeId := 356
abbrev T.y_func_int_uint : TypeId := 357
abbrev T.y_func_uint64 : TypeId := 358
abbrev T.y_func_sl_int_int_p_int_int : TypeId := 359
abbrev T.y_p_int : TypeId := 360
abbrev T.y_func_sl_int_int_int_int_p_int_int : TypeId := 361
abbrev T.y_256_uint8 : TypeId := 362
abbrev T.y_struct_lo_uint8_hi_uint8 : TypeId := 363
abbrev T.y_utf8_acceptRange : TypeId := 364
abbrev T.y_16_utf8_acceptRange : TypeId := 365
abbrev T.y_func_string_uint8_int : TypeId := 366
abbrev T.y_func_int32_bool : TypeId := 367
abbrev T.y_func_string_string_int : TypeId := 368
abbrev T.y_p_slices_xorshift : TypeId := 369
abbrev T.y_int_int : TypeId := 370
abbrev T.y_func_sl_int_int_int_p_int_int_int : TypeId := 371
abbrev T.y_struct__interface_p_abi_Type_concrete_p__372 : TypeId := 372
abbrev T.y_runtime_TypeAssertionError : TypeId := 373
abbrev T.y_0_p_runtime_PanicNilError : TypeId := 374
abbrev T.y_struct___0_p_runtime_PanicNilError : TypeId := 375
abbrev T.y_runtime_PanicNilError : TypeId := 376
abbrev T.y_abi_TFlag : TypeId := 377
abbrev T.y_abi_Kind : TypeId := 378
abbrev T.y_func_unsafe_Pointer_unsafe_Pointer_bool : TypeId := 379
abbrev T.y_abi_NameOff : TypeId := 380
abbrev T.y_abi_TypeOff : TypeId := 381
abbrev T.y_struct_Size__uintptr_PtrBytes_uintptr_Ha_382 : TypeId := 382
abbrev T.y_abi_Type : TypeId := 383
def str_x : ByteArray := ⟨#[120]⟩
def str_x_ : ByteArray := ⟨#[0]⟩
def str_a : ByteArray := ⟨#[97]⟩
def str_c : ByteArray := ⟨#[99]⟩
def str_b : ByteArray := ⟨#[98]⟩
def str_ab1 : ByteArray := ⟨#[97, 46, 98, 64, 49]⟩
def str_A : ByteArray := ⟨#[65]⟩
def str_bc : ByteArray := ⟨#[98, 99]⟩
def str_abc : ByteArray := ⟨#[97, 98, 99]⟩
def str_mark : ByteArray := ⟨#[109, 97, 114, 107]⟩
def str_cannotbenega : ByteArray := ⟨#[99, 97, 110, 110, 111, 116, 32, 98, 101, 32, 110, 101, 103, 97, 116, 105, 118, 101]⟩
def str_theresultofl : ByteArray := ⟨#[116, 104, 101, 32, 114, 101, 115, 117, 108, 116, 32, 111, 102, 32, 40, 108, 101, 110, 40, 120, 41, 32, 42, 32, 99, 111, 117, 110, 116, 41, 32, 111, 118, 101, 114, 102, 108, 111, 119, 115]⟩
def str_abcdefghijkl : ByteArray := ⟨#[97, 98, 99, 100, 101, 102, 103, 104, 105, 106, 107, 108, 109, 110, 111, 112, 113, 114, 115, 116, 117, 118, 119, 120, 121, 122, 48, 49, 50, 51, 52, 53, 54, 55, 56, 57, 46, 64]⟩
def str_stringsJoino : ByteArray := ⟨#[115, 116, 114, 105, 110, 103, 115, 58, 32, 74, 111, 105, 110, 32, 111, 117, 116, 112, 117, 116, 32, 108, 101, 110, 103, 116, 104, 32, 111, 118, 101, 114, 102, 108, 111, 119]⟩
def str_x__ : ByteArray := ⟨#[128]⟩
def str_x___ : ByteArray := ⟨#[0, 1, 2, 2, 3, 3, 3, 3, 4, 4, 4, 4, 4, 4, 4, 4, 5, 5, 5, 5, 5, 5, 5, 5, 5, 5, 5, 5, 5, 5, 5, 5, 6, 6, 6, 6, 6, 6, 6, 6, 6, 6, 6, 6, 6, 6, 6, 6, 6, 6, 6, 6, 6, 6, 6, 6, 6, 6, 6, 6, 6, 6, 6, 6, 7, 7, 7, 7, 7, 7, 7, 7, 7, 7, 7, 7, 7, 7, 7, 7, 7, 7, 7, 7, 7, 7, 7, 7, 7, 7, 7, 7, 7, 7, 7, 7, 7, 7, 7, 7, 7, 7, 7, 7, 7, 7, 7, 7, 7, 7, 7, 7, 7, 7, 7, 7, 7, 7, 7, 7, 7, 7, 7, 7, 7, 7, 7, 7, 8, 8, 8, 8, 8, 8, 8, 8, 8, 8, 8, 8, 8, 8, 8, 8, 8, 8, 8, 8, 8, 8, 8, 8, 8, 8, 8, 8, 8, 8, 8, 8, 8, 8, 8, 8, 8, 8, 8, 8, 8, 8, 8, 8, 8, 8, 8, 8, 8, 8, 8, 8, 8, 8, 8, 8, 8, 8, 8, 8, 8, 8, 8, 8, 8, 8, 8, 8, 8, 8, 8, 8, 8, 8, 8, 8, 8, 8, 8, 8, 8, 8, 8, 8, 8, 8, 8, 8, 8, 8, 8, 8, 8, 8, 8, 8, 8, 8, 8, 8, 8, 8, 8, 8, 8, 8, 8, 8, 8, 8, 8, 8, 8, 8, 8, 8, 8, 8, 8, 8, 8, 8, 8, 8, 8, 8, 8, 8]⟩
def okl : List Nat := [3, 4, 5, 6, 7, 8, 9, 10, 11, 12, 13, 14, 15, 16, 17, 18, 19, 20, 21, 22, 23, 24, 25, 26, 27, 28, 29, 30, 31, 32, 33, 34, 35, 36, 37, 38, 39, 40, 41, 42, 43, 44, 45, 46, 47, 48, 49, 50, 51, 52, 53, 54, 55, 56, 57, 58, 59, 60, 61, 62, 63, 64, 65, 66, 67, 68, 69, 70, 71, 72, 73, 74, 75, 76, 77, 78, 79, 80, 81, 82, 83, 84, 85, 86, 87, 88, 89, 90, 91, 92, 93, 94, 95, 96, 97, 98, 99, 100, 101, 102, 103, 104, 105, 106, 107, 108, 109, 110, 111, 112, 113, 114, 115, 116, 117, 118, 119, 120, 121, 122, 123, 124, 125, 126, 127, 128, 129, 130, 131, 132, 133, 134, 135, 136, 137, 138, 139, 140, 141, 142, 143, 144, 145, 146, 147, 148, 149, 150, 151, 152, 153, 154, 155, 156, 157, 158, 159, 160, 161, 162, 163, 164, 165, 166, 167, 168, 169, 170, 171, 172, 173, 174, 175, 176, 177, 178, 179, 180, 181, 182, 183, 184, 185, 186, 187, 188, 189, 190, 191, 192, 193, 194, 195, 196, 197, 198, 199, 200, 201, 202, 203, 205, 206, 207, 208, 209, 210, 211, 212, 213, 214, 215, 216, 217, 218, 219, 220, 221, 222, 223, 224, 225, 226, 227, 228, 229, 230, 231, 232, 233, 234, 235, 236, 237, 238, 239, 240, 241, 242, 243, 244, 245, 246, 247, 248, 249, 250, 251, 252, 253, 254, 255, 256, 257, 258, 259, 260, 261, 263, 264, 265, 266, 267, 268, 270, 271, 272, 273, 274, 275, 276, 277, 280, 281, 282, 283, 284, 285, 286, 287, 288, 289, 290, 291, 294, 295, 296, 297, 298, 299, 300, 301, 302, 303, 304, 305, 306, 307, 308, 309, 310, 311, 312, 313, 314, 315, 316, 317, 318, 320, 321, 345]
def eqs : TypeId → Option (List Sh)
  | 36 => some [.int .i64, .int .i64, .int .i64, .str]
  | 45 => some [.int .i64, .int .i64]
  | 95 => some [.int .i64, .str]
  | 124 => some [.int .i64, .str]
  | 128 => some [.int .i64, .int .i64, .int .i64, .str, .str]
  | 178 => some [.str, .int .i64]
  | 295 => some [.int .i64, .int .i64]
  | 299 => some [.int .i64, .str, .int .i64]
  | 302 => some [.str, .str]
  | _ => none
noncomputable def cfg : Cfg := { P := Tryz.prog, okf := fun f => memB f okl, eqs := eqs }
theorem okl_ok : okl.all (okChk Tryz.prog) = true := by kernel_rfl
theorem eq_36 : eqChk Tryz.prog 6 36 [.int .i64, .int .i64, .int .i64, .str] = true := by kernel_rfl
theorem eq_45 : eqChk Tryz.prog 6 45 [.int .i64, .int .i64] = true := by kernel_rfl
theorem eq_95 : eqChk Tryz.prog 6 95 [.int .i64, .str] = true := by kernel_rfl
theorem eq_124 : eqChk Tryz.prog 6 124 [.int .i64, .str] = true := by kernel_rfl
theorem eq_128 : eqChk Tryz.prog 6 128 [.int .i64, .int .i64, .int .i64, .str, .str] = true := by kernel_rfl
theorem eq_178 : eqChk Tryz.prog 6 178 [.str, .int .i64] = true := by kernel_rfl
theorem eq_295 : eqChk Tryz.prog 6 295 [.int .i64, .int .i64] = true := by kernel_rfl
theorem eq_299 : eqChk Tryz.prog 6 299 [.int .i64, .str, .int .i64] = true := by kernel_rfl
theorem eq_302 : eqChk Tryz.prog 6 302 [.str, .str] = true := by kernel_rfl
theorem cfg_ok : CfgOk cfg where
  okf := fun f h => okChk_spec (List.all_eq_true.1 okl_ok f ((memB_iff f okl).1 h))
  mixed := Checked.mixed Tryz.checked
  eqs := fun t sh h => by
    unfold cfg eqs at h
    simp only at h
    split at h
    · injection h with h; subst h; exact eqChk_spec (by decide) eq_36
    · injection h with h; subst h; exact eqChk_spec (by decide) eq_45
    · injection h with h; subst h; exact eqChk_spec (by decide) eq_95
    · injection h with h; subst h; exact eqChk_spec (by decide) eq_124
    · injection h with h; subst h; exact eqChk_spec (by decide) eq_128
    · injection h with h; subst h; exact eqChk_spec (by decide) eq_178
    · injection h with h; subst h; exact eqChk_spec (by decide) eq_295
    · injection h with h; subst h; exact eqChk_spec (by decide) eq_299
    · injection h with h; subst h; exact eqChk_spec (by decide) eq_302
    · cases h
/-- masonrylaw12.ChainSpoilt -/
def F.masonrylaw12_ChainSpoilt (a : ByteArray) (b : ByteArray) (more : Int) (at_ : Int) (by_ : Int) (swap : Bool) (w : World) (R : Bool → World → Prop) : Prop := RetT Pg [.one .bool] 3 #[.string a, .string b, .int .i64 more, .int .i64 at_, .int .i64 by_, .bool swap] w R
theorem F.masonrylaw12_ChainSpoilt_mono {a : ByteArray} {b : ByteArray} {more : Int} {at_ : Int} {by_ : Int} {swap : Bool} {w : World} {R R' : Bool → World → Prop} (h : F.masonrylaw12_ChainSpoilt a b more at_ by_ swap w R) (hR : ∀ x0 w', R x0 w' → R' x0 w') : F.masonrylaw12_ChainSpoilt a b more at_ by_ swap w R' :=
  Calls.mono h fun e w' hx => by
    obtain ⟨x0, he, hr⟩ := hx
    exact ⟨x0, he, hR x0 w' hr⟩
/-- masonrylaw20.PlanCuts -/
def F.masonrylaw20_PlanCuts (from_ : Int) (to : Int) (l : Sl) (w : World) (R : Bool → World → Prop) : Prop := RetT Pg [.one .bool] 4 #[.int .i64 from_, .int .i64 to, .slice l.a l.len l.cap] w R
theorem F.masonrylaw20_PlanCuts_mono {from_ : Int} {to : Int} {l : Sl} {w : World} {R R' : Bool → World → Prop} (h : F.masonrylaw20_PlanCuts from_ to l w R) (hR : ∀ x0 w', R x0 w' → R' x0 w') : F.masonrylaw20_PlanCuts from_ to l w R' :=
  Calls.mono h fun e w' hx => by
    obtain ⟨x0, he, hr⟩ := hx
    exact ⟨x0, he, hR x0 w' hr⟩
/-- masonrylaw20.PlanWhole -/
def F.masonrylaw20_PlanWhole (l : Sl) (at_ : Int) (w : World) (R : Bool → World → Prop) : Prop := RetT Pg [.one .bool] 5 #[.slice l.a l.len l.cap, .int .i64 at_] w R
theorem F.masonrylaw20_PlanWhole_mono {l : Sl} {at_ : Int} {w : World} {R R' : Bool → World → Prop} (h : F.masonrylaw20_PlanWhole l at_ w R) (hR : ∀ x0 w', R x0 w' → R' x0 w') : F.masonrylaw20_PlanWhole l at_ w R' :=
  Calls.mono h fun e w' hx => by
    obtain ⟨x0, he, hr⟩ := hx
    exact ⟨x0, he, hR x0 w' hr⟩
/-- masonrylaw20.PlanSpoilt -/
def F.masonrylaw20_PlanSpoilt (gen : Int) (tag : Int) (s : ByteArray) (w : World) (R : Bool → World → Prop) : Prop := RetT Pg [.one .bool] 6 #[.int .i64 gen, .int .i64 tag, .string s] w R
theorem F.masonrylaw20_PlanSpoilt_mono {gen : Int} {tag : Int} {s : ByteArray} {w : World} {R R' : Bool → World → Prop} (h : F.masonrylaw20_PlanSpoilt gen tag s w R) (hR : ∀ x0 w', R x0 w' → R' x0 w') : F.masonrylaw20_PlanSpoilt gen tag s w R' :=
  Calls.mono h fun e w' hx => by
    obtain ⟨x0, he, hr⟩ := hx
    exact ⟨x0, he, hR x0 w' hr⟩
/-- masonrylaw11.DeskBacks -/
def F.masonrylaw11_DeskBacks (first : Sl) (then_ : Sl) (twice : Bool) (w : World) (R : Bool → World → Prop) : Prop := RetT Pg [.one .bool] 7 #[.slice first.a first.len first.cap, .slice then_.a then_.len then_.cap, .bool twice] w R
theorem F.masonrylaw11_DeskBacks_mono {first : Sl} {then_ : Sl} {twice : Bool} {w : World} {R R' : Bool → World → Prop} (h : F.masonrylaw11_DeskBacks first then_ twice w R) (hR : ∀ x0 w', R x0 w' → R' x0 w') : F.masonrylaw11_DeskBacks first then_ twice w R' :=
  Calls.mono h fun e w' hx => by
    obtain ⟨x0, he, hr⟩ := hx
    exact ⟨x0, he, hR x0 w' hr⟩
/-- masonrylaw21.TableKeeps -/
def F.masonrylaw21_TableKeeps (gen : Int) (l : Sl) (w : World) (R : Bool → World → Prop) : Prop := RetT Pg [.one .bool] 8 #[.int .i64 gen, .slice l.a l.len l.cap] w R
theorem F.masonrylaw21_TableKeeps_mono {gen : Int} {l : Sl} {w : World} {R R' : Bool → World → Prop} (h : F.masonrylaw21_TableKeeps gen l w R) (hR : ∀ x0 w', R x0 w' → R' x0 w') : F.masonrylaw21_TableKeeps gen l w R' :=
  Calls.mono h fun e w' hx => by
    obtain ⟨x0, he, hr⟩ := hx
    exact ⟨x0, he, hR x0 w' hr⟩
/-- masonrylaw11.DeskSpoilt -/
def F.masonrylaw11_DeskSpoilt (n : Int) (at_ : Int) (s : ByteArray) (w : World) (R : Bool → World → Prop) : Prop := RetT Pg [.one .bool] 9 #[.int .i64 n, .int .i64 at_, .string s] w R
theorem F.masonrylaw11_DeskSpoilt_mono {n : Int} {at_ : Int} {s : ByteArray} {w : World} {R R' : Bool → World → Prop} (h : F.masonrylaw11_DeskSpoilt n at_ s w R) (hR : ∀ x0 w', R x0 w' → R' x0 w') : F.masonrylaw11_DeskSpoilt n at_ s w R' :=
  Calls.mono h fun e w' hx => by
    obtain ⟨x0, he, hr⟩ := hx
    exact ⟨x0, he, hR x0 w' hr⟩
/-- masonrylaw11.DeskPlays -/
def F.masonrylaw11_DeskPlays (n : Int) (l : Sl) (w : World) (R : Bool → World → Prop) : Prop := RetT Pg [.one .bool] 10 #[.int .i64 n, .slice l.a l.len l.cap] w R
theorem F.masonrylaw11_DeskPlays_mono {n : Int} {l : Sl} {w : World} {R R' : Bool → World → Prop} (h : F.masonrylaw11_DeskPlays n l w R) (hR : ∀ x0 w', R x0 w' → R' x0 w') : F.masonrylaw11_DeskPlays n l w R' :=
  Calls.mono h fun e w' hx => by
    obtain ⟨x0, he, hr⟩ := hx
    exact ⟨x0, he, hR x0 w' hr⟩
/-- masonrylaw12.ChainPlays -/
def F.masonrylaw12_ChainPlays (n : Int) (l : Sl) (size : Int) (w : World) (R : Bool → World → Prop) : Prop := RetT Pg [.one .bool] 11 #[.int .i64 n, .slice l.a l.len l.cap, .int .i64 size] w R
theorem F.masonrylaw12_ChainPlays_mono {n : Int} {l : Sl} {size : Int} {w : World} {R R' : Bool → World → Prop} (h : F.masonrylaw12_ChainPlays n l size w R) (hR : ∀ x0 w', R x0 w' → R' x0 w') : F.masonrylaw12_ChainPlays n l size w R' :=
  Calls.mono h fun e w' hx => by
    obtain ⟨x0, he, hr⟩ := hx
    exact ⟨x0, he, hR x0 w' hr⟩
/-- masonrylaw16.BrickSpoilt -/
def F.masonrylaw16_BrickSpoilt (gen : Int) (tag : Int) (s : ByteArray) (own : Bool) (w : World) (R : Bool → World → Prop) : Prop := RetT Pg [.one .bool] 12 #[.int .i64 gen, .int .i64 tag, .string s, .bool own] w R
theorem F.masonrylaw16_BrickSpoilt_mono {gen : Int} {tag : Int} {s : ByteArray} {own : Bool} {w : World} {R R' : Bool → World → Prop} (h : F.masonrylaw16_BrickSpoilt gen tag s own w R) (hR : ∀ x0 w', R x0 w' → R' x0 w') : F.masonrylaw16_BrickSpoilt gen tag s own w R' :=
  Calls.mono h fun e w' hx => by
    obtain ⟨x0, he, hr⟩ := hx
    exact ⟨x0, he, hR x0 w' hr⟩
/-- masonrylaw16.BrickMany -/
def F.masonrylaw16_BrickMany (gen : Int) (l : Sl) (uses : Sl) (w : World) (R : Bool → World → Prop) : Prop := RetT Pg [.one .bool] 13 #[.int .i64 gen, .slice l.a l.len l.cap, .slice uses.a uses.len uses.cap] w R
theorem F.masonrylaw16_BrickMany_mono {gen : Int} {l : Sl} {uses : Sl} {w : World} {R R' : Bool → World → Prop} (h : F.masonrylaw16_BrickMany gen l uses w R) (hR : ∀ x0 w', R x0 w' → R' x0 w') : F.masonrylaw16_BrickMany gen l uses w R' :=
  Calls.mono h fun e w' hx => by
    obtain ⟨x0, he, hr⟩ := hx
    exact ⟨x0, he, hR x0 w' hr⟩
/-- masonrylaw20.PlanTells -/
def F.masonrylaw20_PlanTells (gen : Int) (l : Sl) (by_ : Int) (w : World) (R : Bool → World → Prop) : Prop := RetT Pg [.one .bool] 14 #[.int .i64 gen, .slice l.a l.len l.cap, .int .i64 by_] w R
theorem F.masonrylaw20_PlanTells_mono {gen : Int} {l : Sl} {by_ : Int} {w : World} {R R' : Bool → World → Prop} (h : F.masonrylaw20_PlanTells gen l by_ w R) (hR : ∀ x0 w', R x0 w' → R' x0 w') : F.masonrylaw20_PlanTells gen l by_ w R' :=
  Calls.mono h fun e w' hx => by
    obtain ⟨x0, he, hr⟩ := hx
    exact ⟨x0, he, hR x0 w' hr⟩
/-- masonrylaw16.BrickTells -/
def F.masonrylaw16_BrickTells (gen : Int) (l : Sl) (by_ : Int) (w : World) (R : Bool → World → Prop) : Prop := RetT Pg [.one .bool] 15 #[.int .i64 gen, .slice l.a l.len l.cap, .int .i64 by_] w R
theorem F.masonrylaw16_BrickTells_mono {gen : Int} {l : Sl} {by_ : Int} {w : World} {R R' : Bool → World → Prop} (h : F.masonrylaw16_BrickTells gen l by_ w R) (hR : ∀ x0 w', R x0 w' → R' x0 w') : F.masonrylaw16_BrickTells gen l by_ w R' :=
  Calls.mono h fun e w' hx => by
    obtain ⟨x0, he, hr⟩ := hx
    exact ⟨x0, he, hR x0 w' hr⟩
/-- masonrylaw12.alive -/
def F.masonrylaw12_alive (w : World) (R : Bool → World → Prop) : Prop := RetT Pg [.one .bool] 16 #[] w R
theorem F.masonrylaw12_alive_mono {w : World} {R R' : Bool → World → Prop} (h : F.masonrylaw12_alive  w R) (hR : ∀ x0 w', R x0 w' → R' x0 w') : F.masonrylaw12_alive  w R' :=
  Calls.mono h fun e w' hx => by
    obtain ⟨x0, he, hr⟩ := hx
    exact ⟨x0, he, hR x0 w' hr⟩
/-- masonrylaw12.Fresh -/
def F.masonrylaw12_Fresh (n : Int) (w : World) (R : Option Addr → World → Prop) : Prop := RetT Pg [.one .ptr] 17 #[.int .i64 n] w R
theorem F.masonrylaw12_Fresh_mono {n : Int} {w : World} {R R' : Option Addr → World → Prop} (h : F.masonrylaw12_Fresh n w R) (hR : ∀ x0 w', R x0 w' → R' x0 w') : F.masonrylaw12_Fresh n w R' :=
  Calls.mono h fun e w' hx => by
    obtain ⟨x0, he, hr⟩ := hx
    exact ⟨x0, he, hR x0 w' hr⟩
/-- masonryref1.Zeros -/
def F.masonryref1_Zeros (n : Int) (w : World) (R : ByteArray → World → Prop) : Prop := RetT Pg [.one .str] 18 #[.int .i64 n] w R
theorem F.masonryref1_Zeros_mono {n : Int} {w : World} {R R' : ByteArray → World → Prop} (h : F.masonryref1_Zeros n w R) (hR : ∀ x0 w', R x0 w' → R' x0 w') : F.masonryref1_Zeros n w R' :=
  Calls.mono h fun e w' hx => by
    obtain ⟨x0, he, hr⟩ := hx
    exact ⟨x0, he, hR x0 w' hr⟩
/-- chain.Put -/
def F.chain_Put (k : Option Addr) (gen : Int) (tag : Int) (b : ByteArray) (w : World) (R : Int → Int → World → Prop) : Prop := RetT Pg [.one (.int .i64), .one (.int .i64)] 19 #[.pointer k, .int .i64 gen, .int .i64 tag, .string b] w R
theorem F.chain_Put_mono {k : Option Addr} {gen : Int} {tag : Int} {b : ByteArray} {w : World} {R R' : Int → Int → World → Prop} (h : F.chain_Put k gen tag b w R) (hR : ∀ x0 x1 w', R x0 x1 w' → R' x0 x1 w') : F.chain_Put k gen tag b w R' :=
  Calls.mono h fun e w' hx => by
    obtain ⟨x0, x1, he, hr⟩ := hx
    exact ⟨x0, x1, he, hR x0 x1 w' hr⟩
/-- chain.Sectors -/
def F.chain_Sectors (k : Option Addr) (at_ : Int) (w : World) (R : Sl → Int → World → Prop) : Prop := RetT Pg [.one .slice, .one (.int .i64)] 20 #[.pointer k, .int .i64 at_] w R
theorem F.chain_Sectors_mono {k : Option Addr} {at_ : Int} {w : World} {R R' : Sl → Int → World → Prop} (h : F.chain_Sectors k at_ w R) (hR : ∀ x0 x1 w', R x0 x1 w' → R' x0 x1 w') : F.chain_Sectors k at_ w R' :=
  Calls.mono h fun e w' hx => by
    obtain ⟨x0, x1, he, hr⟩ := hx
    exact ⟨x0, x1, he, hR x0 x1 w' hr⟩
/-- (*desk.Desk).Get -/
def F.desk_Desk_Get (k : Option Addr) (at_ : Int) (w : World) (R : ByteArray → Int → World → Prop) : Prop := RetT Pg [.one .str, .one (.int .i64)] 21 #[.pointer k, .int .i64 at_] w R
theorem F.desk_Desk_Get_mono {k : Option Addr} {at_ : Int} {w : World} {R R' : ByteArray → Int → World → Prop} (h : F.desk_Desk_Get k at_ w R) (hR : ∀ x0 x1 w', R x0 x1 w' → R' x0 x1 w') : F.desk_Desk_Get k at_ w R' :=
  Calls.mono h fun e w' hx => by
    obtain ⟨x0, x1, he, hr⟩ := hx
    exact ⟨x0, x1, he, hR x0 x1 w' hr⟩
/-- (*desk.Desk).Set -/
def F.desk_Desk_Set (k : Option Addr) (at_ : Int) (data : ByteArray) (w : World) (R : Int → World → Prop) : Prop := RetT Pg [.one (.int .i64)] 22 #[.pointer k, .int .i64 at_, .string data] w R
theorem F.desk_Desk_Set_mono {k : Option Addr} {at_ : Int} {data : ByteArray} {w : World} {R R' : Int → World → Prop} (h : F.desk_Desk_Set k at_ data w R) (hR : ∀ x0 w', R x0 w' → R' x0 w') : F.desk_Desk_Set k at_ data w R' :=
  Calls.mono h fun e w' hx => by
    obtain ⟨x0, he, hr⟩ := hx
    exact ⟨x0, he, hR x0 w' hr⟩
/-- chain.Get -/
def F.chain_Get (k : Option Addr) (at_ : Int) (w : World) (R : Int → Int → Int → ByteArray → Int → World → Prop) : Prop := RetT Pg [.agg [.int .i64, .int .i64, .int .i64, .str], .one (.int .i64)] 23 #[.pointer k, .int .i64 at_] w R
theorem F.chain_Get_mono {k : Option Addr} {at_ : Int} {w : World} {R R' : Int → Int → Int → ByteArray → Int → World → Prop} (h : F.chain_Get k at_ w R) (hR : ∀ x0 x1 x2 x3 x4 w', R x0 x1 x2 x3 x4 w' → R' x0 x1 x2 x3 x4 w') : F.chain_Get k at_ w R' :=
  Calls.mono h fun e w' hx => by
    obtain ⟨x0, x1, x2, x3, x4, he, hr⟩ := hx
    exact ⟨x0, x1, x2, x3, x4, he, hR x0 x1 x2 x3 x4 w' hr⟩
/-- chain.Refs -/
def F.chain_Refs (k : Option Addr) (at_ : Int) (by_ : Int) (w : World) (R : Int → Int → World → Prop) : Prop := RetT Pg [.one (.int .i64), .one (.int .i64)] 24 #[.pointer k, .int .i64 at_, .int .i64 by_] w R
theorem F.chain_Refs_mono {k : Option Addr} {at_ : Int} {by_ : Int} {w : World} {R R' : Int → Int → World → Prop} (h : F.chain_Refs k at_ by_ w R) (hR : ∀ x0 x1 w', R x0 x1 w' → R' x0 x1 w') : F.chain_Refs k at_ by_ w R' :=
  Calls.mono h fun e w' hx => by
    obtain ⟨x0, x1, he, hr⟩ := hx
    exact ⟨x0, x1, he, hR x0 x1 w' hr⟩
/-- chain.Drop -/
def F.chain_Drop (k : Option Addr) (at_ : Int) (w : World) (R : Int → World → Prop) : Prop := RetT Pg [.one (.int .i64)] 25 #[.pointer k, .int .i64 at_] w R
theorem F.chain_Drop_mono {k : Option Addr} {at_ : Int} {w : World} {R R' : Int → World → Prop} (h : F.chain_Drop k at_ w R) (hR : ∀ x0 w', R x0 w' → R' x0 w') : F.chain_Drop k at_ w R' :=
  Calls.mono h fun e w' hx => by
    obtain ⟨x0, he, hr⟩ := hx
    exact ⟨x0, he, hR x0 w' hr⟩
/-- masonrylaw20.alive -/
def F.masonrylaw20_alive (w : World) (R : Bool → World → Prop) : Prop := RetT Pg [.one .bool] 26 #[] w R
theorem F.masonrylaw20_alive_mono {w : World} {R R' : Bool → World → Prop} (h : F.masonrylaw20_alive  w R) (hR : ∀ x0 w', R x0 w' → R' x0 w') : F.masonrylaw20_alive  w R' :=
  Calls.mono h fun e w' hx => by
    obtain ⟨x0, he, hr⟩ := hx
    exact ⟨x0, he, hR x0 w' hr⟩
/-- plan.Cut -/
def F.plan_Cut (from_ : Int) (to : Int) (l : Sl) (w : World) (R : Sl → Int → Int → World → Prop) : Prop := RetT Pg [.one .slice, .one (.int .i64), .one (.int .i64)] 27 #[.int .i64 from_, .int .i64 to, .slice l.a l.len l.cap] w R
theorem F.plan_Cut_mono {from_ : Int} {to : Int} {l : Sl} {w : World} {R R' : Sl → Int → Int → World → Prop} (h : F.plan_Cut from_ to l w R) (hR : ∀ x0 x1 x2 w', R x0 x1 x2 w' → R' x0 x1 x2 w') : F.plan_Cut from_ to l w R' :=
  Calls.mono h fun e w' hx => by
    obtain ⟨x0, x1, x2, he, hr⟩ := hx
    exact ⟨x0, x1, x2, he, hR x0 x1 x2 w' hr⟩
/-- masonrybook.SamePieces -/
def F.masonrybook_SamePieces (a : Sl) (b : Sl) (w : World) (R : Bool → World → Prop) : Prop := RetT Pg [.one .bool] 28 #[.slice a.a a.len a.cap, .slice b.a b.len b.cap] w R
theorem F.masonrybook_SamePieces_mono {a : Sl} {b : Sl} {w : World} {R R' : Bool → World → Prop} (h : F.masonrybook_SamePieces a b w R) (hR : ∀ x0 w', R x0 w' → R' x0 w') : F.masonrybook_SamePieces a b w R' :=
  Calls.mono h fun e w' hx => by
    obtain ⟨x0, he, hr⟩ := hx
    exact ⟨x0, he, hR x0 w' hr⟩
/-- plan.Size -/
def F.plan_Size (l : Sl) (w : World) (R : Int → World → Prop) : Prop := RetT Pg [.one (.int .i64)] 29 #[.slice l.a l.len l.cap] w R
theorem F.plan_Size_mono {l : Sl} {w : World} {R R' : Int → World → Prop} (h : F.plan_Size l w R) (hR : ∀ x0 w', R x0 w' → R' x0 w') : F.plan_Size l w R' :=
  Calls.mono h fun e w' hx => by
    obtain ⟨x0, he, hr⟩ := hx
    exact ⟨x0, he, hR x0 w' hr⟩
/-- masonryref1.Num -/
def F.masonryref1_Num (s : ByteArray) (w : World) (R : Int → World → Prop) : Prop := RetT Pg [.one (.int .u64)] 30 #[.string s] w R
theorem F.masonryref1_Num_mono {s : ByteArray} {w : World} {R R' : Int → World → Prop} (h : F.masonryref1_Num s w R) (hR : ∀ x0 w', R x0 w' → R' x0 w') : F.masonryref1_Num s w R' :=
  Calls.mono h fun e w' hx => by
    obtain ⟨x0, he, hr⟩ := hx
    exact ⟨x0, he, hR x0 w' hr⟩
/-- plan.Get -/
def F.plan_Get (k : Option Addr) (at_ : Int) (w : World) (R : Int → Int → Sl → Int → World → Prop) : Prop := RetT Pg [.agg [.int .i64, .int .i64, .slice], .one (.int .i64)] 31 #[.pointer k, .int .i64 at_] w R
theorem F.plan_Get_mono {k : Option Addr} {at_ : Int} {w : World} {R R' : Int → Int → Sl → Int → World → Prop} (h : F.plan_Get k at_ w R) (hR : ∀ x0 x1 x2 x3 w', R x0 x1 x2 x3 w' → R' x0 x1 x2 x3 w') : F.plan_Get k at_ w R' :=
  Calls.mono h fun e w' hx => by
    obtain ⟨x0, x1, x2, x3, he, hr⟩ := hx
    exact ⟨x0, x1, x2, x3, he, hR x0 x1 x2 x3 w' hr⟩
/-- plan.Drop -/
def F.plan_Drop (k : Option Addr) (at_ : Int) (w : World) (R : Int → World → Prop) : Prop := RetT Pg [.one (.int .i64)] 32 #[.pointer k, .int .i64 at_] w R
theorem F.plan_Drop_mono {k : Option Addr} {at_ : Int} {w : World} {R R' : Int → World → Prop} (h : F.plan_Drop k at_ w R) (hR : ∀ x0 w', R x0 w' → R' x0 w') : F.plan_Drop k at_ w R' :=
  Calls.mono h fun e w' hx => by
    obtain ⟨x0, he, hr⟩ := hx
    exact ⟨x0, he, hR x0 w' hr⟩
/-- masonrylaw11.Light -/
def F.masonrylaw11_Light (l : Sl) (w : World) (R : Bool → World → Prop) : Prop := RetT Pg [.one .bool] 33 #[.slice l.a l.len l.cap] w R
theorem F.masonrylaw11_Light_mono {l : Sl} {w : World} {R R' : Bool → World → Prop} (h : F.masonrylaw11_Light l w R) (hR : ∀ x0 w', R x0 w' → R' x0 w') : F.masonrylaw11_Light l w R' :=
  Calls.mono h fun e w' hx => by
    obtain ⟨x0, he, hr⟩ := hx
    exact ⟨x0, he, hR x0 w' hr⟩
/-- masonrylaw11.alive -/
def F.masonrylaw11_alive (w : World) (R : Bool → World → Prop) : Prop := RetT Pg [.one .bool] 34 #[] w R
theorem F.masonrylaw11_alive_mono {w : World} {R R' : Bool → World → Prop} (h : F.masonrylaw11_alive  w R) (hR : ∀ x0 w', R x0 w' → R' x0 w') : F.masonrylaw11_alive  w R' :=
  Calls.mono h fun e w' hx => by
    obtain ⟨x0, he, hr⟩ := hx
    exact ⟨x0, he, hR x0 w' hr⟩
/-- disk.New -/
def F.disk_New (n : Int) (w : World) (R : Option Addr → Int → World → Prop) : Prop := RetT Pg [.one .ptr, .one (.int .i64)] 35 #[.int .i64 n] w R
theorem F.disk_New_mono {n : Int} {w : World} {R R' : Option Addr → Int → World → Prop} (h : F.disk_New n w R) (hR : ∀ x0 x1 w', R x0 x1 w' → R' x0 x1 w') : F.disk_New n w R' :=
  Calls.mono h fun e w' hx => by
    obtain ⟨x0, x1, he, hr⟩ := hx
    exact ⟨x0, x1, he, hR x0 x1 w' hr⟩
/-- desk.Format -/
def F.desk_Format (d : Option Addr) (w : World) (R : Option Addr → Int → World → Prop) : Prop := RetT Pg [.one .ptr, .one (.int .i64)] 36 #[.pointer d] w R
theorem F.desk_Format_mono {d : Option Addr} {w : World} {R R' : Option Addr → Int → World → Prop} (h : F.desk_Format d w R) (hR : ∀ x0 x1 w', R x0 x1 w' → R' x0 x1 w') : F.desk_Format d w R' :=
  Calls.mono h fun e w' hx => by
    obtain ⟨x0, x1, he, hr⟩ := hx
    exact ⟨x0, x1, he, hR x0 x1 w' hr⟩
/-- masonrylaw11.run -/
def F.masonrylaw11_run (k : Option Addr) (l : Sl) (w : World) (R : World → Prop) : Prop := RetT Pg [] 37 #[.pointer k, .slice l.a l.len l.cap] w R
theorem F.masonrylaw11_run_mono {k : Option Addr} {l : Sl} {w : World} {R R' : World → Prop} (h : F.masonrylaw11_run k l w R) (hR : ∀ w', R  w' → R'  w') : F.masonrylaw11_run k l w R' :=
  Calls.mono h fun e w' hx => by
    obtain ⟨he, hr⟩ := hx
    exact ⟨he, hR  w' hr⟩
/-- (*desk.Desk).Mark -/
def F.desk_Desk_Mark (k : Option Addr) (w : World) (R : Option Addr → Option Addr → Option Nat → Int → World → Prop) : Prop := RetT Pg [.agg [.ptr, .ptr, .map, .int .i64]] 38 #[.pointer k] w R
theorem F.desk_Desk_Mark_mono {k : Option Addr} {w : World} {R R' : Option Addr → Option Addr → Option Nat → Int → World → Prop} (h : F.desk_Desk_Mark k w R) (hR : ∀ x0 x1 x2 x3 w', R x0 x1 x2 x3 w' → R' x0 x1 x2 x3 w') : F.desk_Desk_Mark k w R' :=
  Calls.mono h fun e w' hx => by
    obtain ⟨x0, x1, x2, x3, he, hr⟩ := hx
    exact ⟨x0, x1, x2, x3, he, hR x0 x1 x2 x3 w' hr⟩
/-- masonrylaw11.seen -/
def F.masonrylaw11_seen (k : Option Addr) (w : World) (R : ByteArray → World → Prop) : Prop := RetT Pg [.one .str] 39 #[.pointer k] w R
theorem F.masonrylaw11_seen_mono {k : Option Addr} {w : World} {R R' : ByteArray → World → Prop} (h : F.masonrylaw11_seen k w R) (hR : ∀ x0 w', R x0 w' → R' x0 w') : F.masonrylaw11_seen k w R' :=
  Calls.mono h fun e w' hx => by
    obtain ⟨x0, he, hr⟩ := hx
    exact ⟨x0, he, hR x0 w' hr⟩
/-- (*desk.Desk).Back -/
def F.desk_Desk_Back (k : Option Addr) (m_0 : Option Addr) (m_1 : Option Addr) (m_2 : Option Nat) (m_3 : Int) (w : World) (R : World → Prop) : Prop := RetT Pg [] 40 #[.pointer k, .agg #[.pointer m_0, .pointer m_1, .map m_2, .int .i64 m_3]] w R
theorem F.desk_Desk_Back_mono {k : Option Addr} {m_0 : Option Addr} {m_1 : Option Addr} {m_2 : Option Nat} {m_3 : Int} {w : World} {R R' : World → Prop} (h : F.desk_Desk_Back k m_0 m_1 m_2 m_3 w R) (hR : ∀ w', R  w' → R'  w') : F.desk_Desk_Back k m_0 m_1 m_2 m_3 w R' :=
  Calls.mono h fun e w' hx => by
    obtain ⟨he, hr⟩ := hx
    exact ⟨he, hR  w' hr⟩
/-- (*desk.Desk).Bad -/
def F.desk_Desk_Bad (k : Option Addr) (w : World) (R : Int → World → Prop) : Prop := RetT Pg [.one (.int .i64)] 41 #[.pointer k] w R
theorem F.desk_Desk_Bad_mono {k : Option Addr} {w : World} {R R' : Int → World → Prop} (h : F.desk_Desk_Bad k w R) (hR : ∀ x0 w', R x0 w' → R' x0 w') : F.desk_Desk_Bad k w R' :=
  Calls.mono h fun e w' hx => by
    obtain ⟨x0, he, hr⟩ := hx
    exact ⟨x0, he, hR x0 w' hr⟩
/-- masonrylaw21.alive -/
def F.masonrylaw21_alive (w : World) (R : Bool → World → Prop) : Prop := RetT Pg [.one .bool] 42 #[] w R
theorem F.masonrylaw21_alive_mono {w : World} {R R' : Bool → World → Prop} (h : F.masonrylaw21_alive  w R) (hR : ∀ x0 w', R x0 w' → R' x0 w') : F.masonrylaw21_alive  w R' :=
  Calls.mono h fun e w' hx => by
    obtain ⟨x0, he, hr⟩ := hx
    exact ⟨x0, he, hR x0 w' hr⟩
/-- masonrylaw21.Light -/
def F.masonrylaw21_Light (l : Sl) (w : World) (R : Bool → World → Prop) : Prop := RetT Pg [.one .bool] 43 #[.slice l.a l.len l.cap] w R
theorem F.masonrylaw21_Light_mono {l : Sl} {w : World} {R R' : Bool → World → Prop} (h : F.masonrylaw21_Light l w R) (hR : ∀ x0 w', R x0 w' → R' x0 w') : F.masonrylaw21_Light l w R' :=
  Calls.mono h fun e w' hx => by
    obtain ⟨x0, he, hr⟩ := hx
    exact ⟨x0, he, hR x0 w' hr⟩
/-- masonryref1.LayNames -/
def F.masonryref1_LayNames (l : Sl) (w : World) (R : ByteArray → Int → World → Prop) : Prop := RetT Pg [.one .str, .one (.int .i64)] 44 #[.slice l.a l.len l.cap] w R
theorem F.masonryref1_LayNames_mono {l : Sl} {w : World} {R R' : ByteArray → Int → World → Prop} (h : F.masonryref1_LayNames l w R) (hR : ∀ x0 x1 w', R x0 x1 w' → R' x0 x1 w') : F.masonryref1_LayNames l w R' :=
  Calls.mono h fun e w' hx => by
    obtain ⟨x0, x1, he, hr⟩ := hx
    exact ⟨x0, x1, he, hR x0 x1 w' hr⟩
/-- masonrylaw21.plain -/
def F.masonrylaw21_plain (l : Sl) (w : World) (R : Sl → World → Prop) : Prop := RetT Pg [.one .slice] 45 #[.slice l.a l.len l.cap] w R
theorem F.masonrylaw21_plain_mono {l : Sl} {w : World} {R R' : Sl → World → Prop} (h : F.masonrylaw21_plain l w R) (hR : ∀ x0 w', R x0 w' → R' x0 w') : F.masonrylaw21_plain l w R' :=
  Calls.mono h fun e w' hx => by
    obtain ⟨x0, he, hr⟩ := hx
    exact ⟨x0, he, hR x0 w' hr⟩
/-- table.Put -/
def F.table_Put (k : Option Addr) (gen : Int) (old : Int) (l : Sl) (w : World) (R : Int → Int → World → Prop) : Prop := RetT Pg [.one (.int .i64), .one (.int .i64)] 46 #[.pointer k, .int .i64 gen, .int .i64 old, .slice l.a l.len l.cap] w R
theorem F.table_Put_mono {k : Option Addr} {gen : Int} {old : Int} {l : Sl} {w : World} {R R' : Int → Int → World → Prop} (h : F.table_Put k gen old l w R) (hR : ∀ x0 x1 w', R x0 x1 w' → R' x0 x1 w') : F.table_Put k gen old l w R' :=
  Calls.mono h fun e w' hx => by
    obtain ⟨x0, x1, he, hr⟩ := hx
    exact ⟨x0, x1, he, hR x0 x1 w' hr⟩
/-- table.Get -/
def F.table_Get (k : Option Addr) (gen : Int) (at_ : Int) (w : World) (R : Sl → Int → World → Prop) : Prop := RetT Pg [.one .slice, .one (.int .i64)] 47 #[.pointer k, .int .i64 gen, .int .i64 at_] w R
theorem F.table_Get_mono {k : Option Addr} {gen : Int} {at_ : Int} {w : World} {R R' : Sl → Int → World → Prop} (h : F.table_Get k gen at_ w R) (hR : ∀ x0 x1 w', R x0 x1 w' → R' x0 x1 w') : F.table_Get k gen at_ w R' :=
  Calls.mono h fun e w' hx => by
    obtain ⟨x0, x1, he, hr⟩ := hx
    exact ⟨x0, x1, he, hR x0 x1 w' hr⟩
/-- masonrylaw21.same -/
def F.masonrylaw21_same (l : Sl) (r : Sl) (w : World) (R : Bool → World → Prop) : Prop := RetT Pg [.one .bool] 48 #[.slice l.a l.len l.cap, .slice r.a r.len r.cap] w R
theorem F.masonrylaw21_same_mono {l : Sl} {r : Sl} {w : World} {R R' : Bool → World → Prop} (h : F.masonrylaw21_same l r w R) (hR : ∀ x0 w', R x0 w' → R' x0 w') : F.masonrylaw21_same l r w R' :=
  Calls.mono h fun e w' hx => by
    obtain ⟨x0, he, hr⟩ := hx
    exact ⟨x0, he, hR x0 w' hr⟩
/-- (*desk.Desk).Room -/
def F.desk_Desk_Room (k : Option Addr) (w : World) (R : Option Addr → World → Prop) : Prop := RetT Pg [.one .ptr] 49 #[.pointer k] w R
theorem F.desk_Desk_Room_mono {k : Option Addr} {w : World} {R R' : Option Addr → World → Prop} (h : F.desk_Desk_Room k w R) (hR : ∀ x0 w', R x0 w' → R' x0 w') : F.desk_Desk_Room k w R' :=
  Calls.mono h fun e w' hx => by
    obtain ⟨x0, he, hr⟩ := hx
    exact ⟨x0, he, hR x0 w' hr⟩
/-- (*room.Room).All -/
def F.room_Room_All (r : Option Addr) (w : World) (R : Sl → World → Prop) : Prop := RetT Pg [.one .slice] 50 #[.pointer r] w R
theorem F.room_Room_All_mono {r : Option Addr} {w : World} {R R' : Sl → World → Prop} (h : F.room_Room_All r w R) (hR : ∀ x0 w', R x0 w' → R' x0 w') : F.room_Room_All r w R' :=
  Calls.mono h fun e w' hx => by
    obtain ⟨x0, he, hr⟩ := hx
    exact ⟨x0, he, hR x0 w' hr⟩
/-- desk.Open -/
def F.desk_Open (d : Option Addr) (w : World) (R : Option Addr → Int → World → Prop) : Prop := RetT Pg [.one .ptr, .one (.int .i64)] 51 #[.pointer d] w R
theorem F.desk_Open_mono {d : Option Addr} {w : World} {R R' : Option Addr → Int → World → Prop} (h : F.desk_Open d w R) (hR : ∀ x0 x1 w', R x0 x1 w' → R' x0 x1 w') : F.desk_Open d w R' :=
  Calls.mono h fun e w' hx => by
    obtain ⟨x0, x1, he, hr⟩ := hx
    exact ⟨x0, x1, he, hR x0 x1 w' hr⟩
/-- (*disk.Disk).Write -/
def F.disk_Disk_Write (d : Option Addr) (l : Sl) (w : World) (R : Int → World → Prop) : Prop := RetT Pg [.one (.int .i64)] 52 #[.pointer d, .slice l.a l.len l.cap] w R
theorem F.disk_Disk_Write_mono {d : Option Addr} {l : Sl} {w : World} {R R' : Int → World → Prop} (h : F.disk_Disk_Write d l w R) (hR : ∀ x0 w', R x0 w' → R' x0 w') : F.disk_Disk_Write d l w R' :=
  Calls.mono h fun e w' hx => by
    obtain ⟨x0, he, hr⟩ := hx
    exact ⟨x0, he, hR x0 w' hr⟩
/-- masonrylaw7.Fill -/
def F.masonrylaw7_Fill (s : ByteArray) (w : World) (R : ByteArray → World → Prop) : Prop := RetT Pg [.one .str] 53 #[.string s] w R
theorem F.masonrylaw7_Fill_mono {s : ByteArray} {w : World} {R R' : ByteArray → World → Prop} (h : F.masonrylaw7_Fill s w R) (hR : ∀ x0 w', R x0 w' → R' x0 w') : F.masonrylaw7_Fill s w R' :=
  Calls.mono h fun e w' hx => by
    obtain ⟨x0, he, hr⟩ := hx
    exact ⟨x0, he, hR x0 w' hr⟩
/-- (*desk.Desk).Dirty -/
def F.desk_Desk_Dirty (k : Option Addr) (w : World) (R : Sl → World → Prop) : Prop := RetT Pg [.one .slice] 54 #[.pointer k] w R
theorem F.desk_Desk_Dirty_mono {k : Option Addr} {w : World} {R R' : Sl → World → Prop} (h : F.desk_Desk_Dirty k w R) (hR : ∀ x0 w', R x0 w' → R' x0 w') : F.desk_Desk_Dirty k w R' :=
  Calls.mono h fun e w' hx => by
    obtain ⟨x0, he, hr⟩ := hx
    exact ⟨x0, he, hR x0 w' hr⟩
/-- (*desk.Desk).New -/
def F.desk_Desk_New (k : Option Addr) (data : ByteArray) (w : World) (R : Int → Int → World → Prop) : Prop := RetT Pg [.one (.int .i64), .one (.int .i64)] 55 #[.pointer k, .string data] w R
theorem F.desk_Desk_New_mono {k : Option Addr} {data : ByteArray} {w : World} {R R' : Int → Int → World → Prop} (h : F.desk_Desk_New k data w R) (hR : ∀ x0 x1 w', R x0 x1 w' → R' x0 x1 w') : F.desk_Desk_New k data w R' :=
  Calls.mono h fun e w' hx => by
    obtain ⟨x0, x1, he, hr⟩ := hx
    exact ⟨x0, x1, he, hR x0 x1 w' hr⟩
/-- masonrybook.SameInts -/
def F.masonrybook_SameInts (a : Sl) (b : Sl) (w : World) (R : Bool → World → Prop) : Prop := RetT Pg [.one .bool] 56 #[.slice a.a a.len a.cap, .slice b.a b.len b.cap] w R
theorem F.masonrybook_SameInts_mono {a : Sl} {b : Sl} {w : World} {R R' : Bool → World → Prop} (h : F.masonrybook_SameInts a b w R) (hR : ∀ x0 w', R x0 w' → R' x0 w') : F.masonrybook_SameInts a b w R' :=
  Calls.mono h fun e w' hx => by
    obtain ⟨x0, he, hr⟩ := hx
    exact ⟨x0, he, hR x0 w' hr⟩
/-- (*desk.Desk).Drop -/
def F.desk_Desk_Drop (k : Option Addr) (l : Sl) (w : World) (R : Int → World → Prop) : Prop := RetT Pg [.one (.int .i64)] 57 #[.pointer k, .slice l.a l.len l.cap] w R
theorem F.desk_Desk_Drop_mono {k : Option Addr} {l : Sl} {w : World} {R R' : Int → World → Prop} (h : F.desk_Desk_Drop k l w R) (hR : ∀ x0 w', R x0 w' → R' x0 w') : F.desk_Desk_Drop k l w R' :=
  Calls.mono h fun e w' hx => by
    obtain ⟨x0, he, hr⟩ := hx
    exact ⟨x0, he, hR x0 w' hr⟩
/-- (*desk.Desk).Keep -/
def F.desk_Desk_Keep (k : Option Addr) (l : Sl) (w : World) (R : Int → World → Prop) : Prop := RetT Pg [.one (.int .i64)] 58 #[.pointer k, .slice l.a l.len l.cap] w R
theorem F.desk_Desk_Keep_mono {k : Option Addr} {l : Sl} {w : World} {R R' : Int → World → Prop} (h : F.desk_Desk_Keep k l w R) (hR : ∀ x0 w', R x0 w' → R' x0 w') : F.desk_Desk_Keep k l w R' :=
  Calls.mono h fun e w' hx => by
    obtain ⟨x0, he, hr⟩ := hx
    exact ⟨x0, he, hR x0 w' hr⟩
/-- (*desk.Desk).Sync -/
def F.desk_Desk_Sync (k : Option Addr) (w : World) (R : Int → World → Prop) : Prop := RetT Pg [.one (.int .i64)] 59 #[.pointer k] w R
theorem F.desk_Desk_Sync_mono {k : Option Addr} {w : World} {R R' : Int → World → Prop} (h : F.desk_Desk_Sync k w R) (hR : ∀ x0 w', R x0 w' → R' x0 w') : F.desk_Desk_Sync k w R' :=
  Calls.mono h fun e w' hx => by
    obtain ⟨x0, he, hr⟩ := hx
    exact ⟨x0, he, hR x0 w' hr⟩
/-- (*masonrylaw11.state).sync -/
def F.masonrylaw11_state_sync (x : Option Addr) (w : World) (R : Option Addr → World → Prop) : Prop := RetT Pg [.one .ptr] 60 #[.pointer x] w R
theorem F.masonrylaw11_state_sync_mono {x : Option Addr} {w : World} {R R' : Option Addr → World → Prop} (h : F.masonrylaw11_state_sync x w R) (hR : ∀ x0 w', R x0 w' → R' x0 w') : F.masonrylaw11_state_sync x w R' :=
  Calls.mono h fun e w' hx => by
    obtain ⟨x0, he, hr⟩ := hx
    exact ⟨x0, he, hR x0 w' hr⟩
/-- masonryref1.Among -/
def F.masonryref1_Among (l : Sl) (id : Int) (w : World) (R : Bool → World → Prop) : Prop := RetT Pg [.one .bool] 61 #[.slice l.a l.len l.cap, .int .i64 id] w R
theorem F.masonryref1_Among_mono {l : Sl} {id : Int} {w : World} {R R' : Bool → World → Prop} (h : F.masonryref1_Among l id w R) (hR : ∀ x0 w', R x0 w' → R' x0 w') : F.masonryref1_Among l id w R' :=
  Calls.mono h fun e w' hx => by
    obtain ⟨x0, he, hr⟩ := hx
    exact ⟨x0, he, hR x0 w' hr⟩
/-- masonryref1.Put -/
def F.masonryref1_Put (l : Sl) (id : Int) (w : World) (R : Sl → World → Prop) : Prop := RetT Pg [.one .slice] 62 #[.slice l.a l.len l.cap, .int .i64 id] w R
theorem F.masonryref1_Put_mono {l : Sl} {id : Int} {w : World} {R R' : Sl → World → Prop} (h : F.masonryref1_Put l id w R) (hR : ∀ x0 w', R x0 w' → R' x0 w') : F.masonryref1_Put l id w R' :=
  Calls.mono h fun e w' hx => by
    obtain ⟨x0, he, hr⟩ := hx
    exact ⟨x0, he, hR x0 w' hr⟩
/-- masonryref1.Drop -/
def F.masonryref1_Drop (l : Sl) (id : Int) (w : World) (R : Sl → World → Prop) : Prop := RetT Pg [.one .slice] 63 #[.slice l.a l.len l.cap, .int .i64 id] w R
theorem F.masonryref1_Drop_mono {l : Sl} {id : Int} {w : World} {R R' : Sl → World → Prop} (h : F.masonryref1_Drop l id w R) (hR : ∀ x0 w', R x0 w' → R' x0 w') : F.masonryref1_Drop l id w R' :=
  Calls.mono h fun e w' hx => by
    obtain ⟨x0, he, hr⟩ := hx
    exact ⟨x0, he, hR x0 w' hr⟩
/-- masonrybook.LentInts -/
def F.masonrybook_LentInts (l : Sl) (w : World) (R : Sl → World → Prop) : Prop := RetT Pg [.one .slice] 64 #[.slice l.a l.len l.cap] w R
theorem F.masonrybook_LentInts_mono {l : Sl} {w : World} {R R' : Sl → World → Prop} (h : F.masonrybook_LentInts l w R) (hR : ∀ x0 w', R x0 w' → R' x0 w') : F.masonrybook_LentInts l w R' :=
  Calls.mono h fun e w' hx => by
    obtain ⟨x0, he, hr⟩ := hx
    exact ⟨x0, he, hR x0 w' hr⟩
/-- masonrybook.StaysInts -/
def F.masonrybook_StaysInts (m : Sl) (was : Sl) (w : World) (R : Bool → World → Prop) : Prop := RetT Pg [.one .bool] 65 #[.slice m.a m.len m.cap, .slice was.a was.len was.cap] w R
theorem F.masonrybook_StaysInts_mono {m : Sl} {was : Sl} {w : World} {R R' : Bool → World → Prop} (h : F.masonrybook_StaysInts m was w R) (hR : ∀ x0 w', R x0 w' → R' x0 w') : F.masonrybook_StaysInts m was w R' :=
  Calls.mono h fun e w' hx => by
    obtain ⟨x0, he, hr⟩ := hx
    exact ⟨x0, he, hR x0 w' hr⟩
/-- (*masonrylaw11.state).copy -/
def F.masonrylaw11_state_copy (x : Option Addr) (w : World) (R : Option Addr → World → Prop) : Prop := RetT Pg [.one .ptr] 66 #[.pointer x] w R
theorem F.masonrylaw11_state_copy_mono {x : Option Addr} {w : World} {R R' : Option Addr → World → Prop} (h : F.masonrylaw11_state_copy x w R) (hR : ∀ x0 w', R x0 w' → R' x0 w') : F.masonrylaw11_state_copy x w R' :=
  Calls.mono h fun e w' hx => by
    obtain ⟨x0, he, hr⟩ := hx
    exact ⟨x0, he, hR x0 w' hr⟩
/-- (*masonrylaw11.state).dirty -/
def F.masonrylaw11_state_dirty (x : Option Addr) (w : World) (R : Sl → World → Prop) : Prop := RetT Pg [.one .slice] 67 #[.pointer x] w R
theorem F.masonrylaw11_state_dirty_mono {x : Option Addr} {w : World} {R R' : Sl → World → Prop} (h : F.masonrylaw11_state_dirty x w R) (hR : ∀ x0 w', R x0 w' → R' x0 w') : F.masonrylaw11_state_dirty x w R' :=
  Calls.mono h fun e w' hx => by
    obtain ⟨x0, he, hr⟩ := hx
    exact ⟨x0, he, hR x0 w' hr⟩
/-- (*disk.Disk).On -/
def F.disk_Disk_On (d : Option Addr) (w : World) (R : Bool → World → Prop) : Prop := RetT Pg [.one .bool] 68 #[.pointer d] w R
theorem F.disk_Disk_On_mono {d : Option Addr} {w : World} {R R' : Bool → World → Prop} (h : F.disk_Disk_On d w R) (hR : ∀ x0 w', R x0 w' → R' x0 w') : F.disk_Disk_On d w R' :=
  Calls.mono h fun e w' hx => by
    obtain ⟨x0, he, hr⟩ := hx
    exact ⟨x0, he, hR x0 w' hr⟩
/-- (*disk.Disk).Restore -/
def F.disk_Disk_Restore (d : Option Addr) (w : World) (R : World → Prop) : Prop := RetT Pg [] 69 #[.pointer d] w R
theorem F.disk_Disk_Restore_mono {d : Option Addr} {w : World} {R R' : World → Prop} (h : F.disk_Disk_Restore d w R) (hR : ∀ w', R  w' → R'  w') : F.disk_Disk_Restore d w R' :=
  Calls.mono h fun e w' hx => by
    obtain ⟨he, hr⟩ := hx
    exact ⟨he, hR  w' hr⟩
/-- masonrylaw11.is -/
def F.masonrylaw11_is (k : Option Addr) (x : Option Addr) (w : World) (R : Bool → World → Prop) : Prop := RetT Pg [.one .bool] 70 #[.pointer k, .pointer x] w R
theorem F.masonrylaw11_is_mono {k : Option Addr} {x : Option Addr} {w : World} {R R' : Bool → World → Prop} (h : F.masonrylaw11_is k x w R) (hR : ∀ x0 w', R x0 w' → R' x0 w') : F.masonrylaw11_is k x w R' :=
  Calls.mono h fun e w' hx => by
    obtain ⟨x0, he, hr⟩ := hx
    exact ⟨x0, he, hR x0 w' hr⟩
/-- (*disk.Disk).Crash -/
def F.disk_Disk_Crash (d : Option Addr) (keep : Sl) (w : World) (R : Int → World → Prop) : Prop := RetT Pg [.one (.int .i64)] 71 #[.pointer d, .slice keep.a keep.len keep.cap] w R
theorem F.disk_Disk_Crash_mono {d : Option Addr} {keep : Sl} {w : World} {R R' : Int → World → Prop} (h : F.disk_Disk_Crash d keep w R) (hR : ∀ x0 w', R x0 w' → R' x0 w') : F.disk_Disk_Crash d keep w R' :=
  Calls.mono h fun e w' hx => by
    obtain ⟨x0, he, hr⟩ := hx
    exact ⟨x0, he, hR x0 w' hr⟩
/-- (*disk.Disk).Arm -/
def F.disk_Disk_Arm (d : Option Addr) (n : Int) (keep : Sl) (w : World) (R : World → Prop) : Prop := RetT Pg [] 72 #[.pointer d, .int .i64 n, .slice keep.a keep.len keep.cap] w R
theorem F.disk_Disk_Arm_mono {d : Option Addr} {n : Int} {keep : Sl} {w : World} {R R' : World → Prop} (h : F.disk_Disk_Arm d n keep w R) (hR : ∀ w', R  w' → R'  w') : F.disk_Disk_Arm d n keep w R' :=
  Calls.mono h fun e w' hx => by
    obtain ⟨he, hr⟩ := hx
    exact ⟨he, hR  w' hr⟩
/-- masonrylaw12.Light -/
def F.masonrylaw12_Light (l : Sl) (w : World) (R : Bool → World → Prop) : Prop := RetT Pg [.one .bool] 73 #[.slice l.a l.len l.cap] w R
theorem F.masonrylaw12_Light_mono {l : Sl} {w : World} {R R' : Bool → World → Prop} (h : F.masonrylaw12_Light l w R) (hR : ∀ x0 w', R x0 w' → R' x0 w') : F.masonrylaw12_Light l w R' :=
  Calls.mono h fun e w' hx => by
    obtain ⟨x0, he, hr⟩ := hx
    exact ⟨x0, he, hR x0 w' hr⟩
/-- masonrylaw12.need -/
def F.masonrylaw12_need (n : Int) (w : World) (R : Int → World → Prop) : Prop := RetT Pg [.one (.int .i64)] 74 #[.int .i64 n] w R
theorem F.masonrylaw12_need_mono {n : Int} {w : World} {R R' : Int → World → Prop} (h : F.masonrylaw12_need n w R) (hR : ∀ x0 w', R x0 w' → R' x0 w') : F.masonrylaw12_need n w R' :=
  Calls.mono h fun e w' hx => by
    obtain ⟨x0, he, hr⟩ := hx
    exact ⟨x0, he, hR x0 w' hr⟩
/-- (*room.Room).Free -/
def F.room_Room_Free (r : Option Addr) (w : World) (R : Int → World → Prop) : Prop := RetT Pg [.one (.int .i64)] 75 #[.pointer r] w R
theorem F.room_Room_Free_mono {r : Option Addr} {w : World} {R R' : Int → World → Prop} (h : F.room_Room_Free r w R) (hR : ∀ x0 w', R x0 w' → R' x0 w') : F.room_Room_Free r w R' :=
  Calls.mono h fun e w' hx => by
    obtain ⟨x0, he, hr⟩ := hx
    exact ⟨x0, he, hR x0 w' hr⟩
/-- chain.Need -/
def F.chain_Need (n : Int) (w : World) (R : Int → World → Prop) : Prop := RetT Pg [.one (.int .i64)] 76 #[.int .i64 n] w R
theorem F.chain_Need_mono {n : Int} {w : World} {R R' : Int → World → Prop} (h : F.chain_Need n w R) (hR : ∀ x0 w', R x0 w' → R' x0 w') : F.chain_Need n w R' :=
  Calls.mono h fun e w' hx => by
    obtain ⟨x0, he, hr⟩ := hx
    exact ⟨x0, he, hR x0 w' hr⟩
/-- masonrylaw16.alive -/
def F.masonrylaw16_alive (w : World) (R : Bool → World → Prop) : Prop := RetT Pg [.one .bool] 77 #[] w R
theorem F.masonrylaw16_alive_mono {w : World} {R R' : Bool → World → Prop} (h : F.masonrylaw16_alive  w R) (hR : ∀ x0 w', R x0 w' → R' x0 w') : F.masonrylaw16_alive  w R' :=
  Calls.mono h fun e w' hx => by
    obtain ⟨x0, he, hr⟩ := hx
    exact ⟨x0, he, hR x0 w' hr⟩
/-- masonryref1.Print -/
def F.masonryref1_Print (kind : Int) (s : ByteArray) (w : World) (R : Int → ByteArray → World → Prop) : Prop := RetT Pg [.agg [.int .i64, .str]] 78 #[.int .i64 kind, .string s] w R
theorem F.masonryref1_Print_mono {kind : Int} {s : ByteArray} {w : World} {R R' : Int → ByteArray → World → Prop} (h : F.masonryref1_Print kind s w R) (hR : ∀ x0 x1 w', R x0 x1 w' → R' x0 x1 w') : F.masonryref1_Print kind s w R' :=
  Calls.mono h fun e w' hx => by
    obtain ⟨x0, x1, he, hr⟩ := hx
    exact ⟨x0, x1, he, hR x0 x1 w' hr⟩
/-- masonryref1.LayPrint -/
def F.masonryref1_LayPrint (p_0 : Int) (p_1 : ByteArray) (w : World) (R : ByteArray → World → Prop) : Prop := RetT Pg [.one .str] 79 #[.agg #[.int .i64 p_0, .string p_1]] w R
theorem F.masonryref1_LayPrint_mono {p_0 : Int} {p_1 : ByteArray} {w : World} {R R' : ByteArray → World → Prop} (h : F.masonryref1_LayPrint p_0 p_1 w R) (hR : ∀ x0 w', R x0 w' → R' x0 w') : F.masonryref1_LayPrint p_0 p_1 w R' :=
  Calls.mono h fun e w' hx => by
    obtain ⟨x0, he, hr⟩ := hx
    exact ⟨x0, he, hR x0 w' hr⟩
/-- brick.Get -/
def F.brick_Get (k : Option Addr) (at_ : Int) (w : World) (R : Int → Int → Int → ByteArray → ByteArray → Int → World → Prop) : Prop := RetT Pg [.agg [.int .i64, .int .i64, .int .i64, .str, .str], .one (.int .i64)] 80 #[.pointer k, .int .i64 at_] w R
theorem F.brick_Get_mono {k : Option Addr} {at_ : Int} {w : World} {R R' : Int → Int → Int → ByteArray → ByteArray → Int → World → Prop} (h : F.brick_Get k at_ w R) (hR : ∀ x0 x1 x2 x3 x4 x5 w', R x0 x1 x2 x3 x4 x5 w' → R' x0 x1 x2 x3 x4 x5 w') : F.brick_Get k at_ w R' :=
  Calls.mono h fun e w' hx => by
    obtain ⟨x0, x1, x2, x3, x4, x5, he, hr⟩ := hx
    exact ⟨x0, x1, x2, x3, x4, x5, he, hR x0 x1 x2 x3 x4 x5 w' hr⟩
/-- brick.Use -/
def F.brick_Use (k : Option Addr) (at_ : Int) (by_ : Int) (w : World) (R : Int → Int → World → Prop) : Prop := RetT Pg [.one (.int .i64), .one (.int .i64)] 81 #[.pointer k, .int .i64 at_, .int .i64 by_] w R
theorem F.brick_Use_mono {k : Option Addr} {at_ : Int} {by_ : Int} {w : World} {R R' : Int → Int → World → Prop} (h : F.brick_Use k at_ by_ w R) (hR : ∀ x0 x1 w', R x0 x1 w' → R' x0 x1 w') : F.brick_Use k at_ by_ w R' :=
  Calls.mono h fun e w' hx => by
    obtain ⟨x0, x1, he, hr⟩ := hx
    exact ⟨x0, x1, he, hR x0 x1 w' hr⟩
/-- brick.Drop -/
def F.brick_Drop (k : Option Addr) (at_ : Int) (w : World) (R : Int → World → Prop) : Prop := RetT Pg [.one (.int .i64)] 82 #[.pointer k, .int .i64 at_] w R
theorem F.brick_Drop_mono {k : Option Addr} {at_ : Int} {w : World} {R R' : Int → World → Prop} (h : F.brick_Drop k at_ w R) (hR : ∀ x0 w', R x0 w' → R' x0 w') : F.brick_Drop k at_ w R' :=
  Calls.mono h fun e w' hx => by
    obtain ⟨x0, he, hr⟩ := hx
    exact ⟨x0, he, hR x0 w' hr⟩
/-- brick.Put -/
def F.brick_Put (k : Option Addr) (gen : Int) (l : Sl) (w : World) (R : Int → Int → World → Prop) : Prop := RetT Pg [.one (.int .i64), .one (.int .i64)] 83 #[.pointer k, .int .i64 gen, .slice l.a l.len l.cap] w R
theorem F.brick_Put_mono {k : Option Addr} {gen : Int} {l : Sl} {w : World} {R R' : Int → Int → World → Prop} (h : F.brick_Put k gen l w R) (hR : ∀ x0 x1 w', R x0 x1 w' → R' x0 x1 w') : F.brick_Put k gen l w R' :=
  Calls.mono h fun e w' hx => by
    obtain ⟨x0, x1, he, hr⟩ := hx
    exact ⟨x0, x1, he, hR x0 x1 w' hr⟩
/-- brick.Kind -/
def F.brick_Kind (gen : Int) (w : World) (R : Int → World → Prop) : Prop := RetT Pg [.one (.int .i64)] 84 #[.int .i64 gen] w R
theorem F.brick_Kind_mono {gen : Int} {w : World} {R R' : Int → World → Prop} (h : F.brick_Kind gen w R) (hR : ∀ x0 w', R x0 w' → R' x0 w') : F.brick_Kind gen w R' :=
  Calls.mono h fun e w' hx => by
    obtain ⟨x0, he, hr⟩ := hx
    exact ⟨x0, he, hR x0 w' hr⟩
/-- masonrybook.LentPieces -/
def F.masonrybook_LentPieces (l : Sl) (w : World) (R : Sl → World → Prop) : Prop := RetT Pg [.one .slice] 85 #[.slice l.a l.len l.cap] w R
theorem F.masonrybook_LentPieces_mono {l : Sl} {w : World} {R R' : Sl → World → Prop} (h : F.masonrybook_LentPieces l w R) (hR : ∀ x0 w', R x0 w' → R' x0 w') : F.masonrybook_LentPieces l w R' :=
  Calls.mono h fun e w' hx => by
    obtain ⟨x0, he, hr⟩ := hx
    exact ⟨x0, he, hR x0 w' hr⟩
/-- plan.Put -/
def F.plan_Put (k : Option Addr) (gen : Int) (l : Sl) (w : World) (R : Int → Int → World → Prop) : Prop := RetT Pg [.one (.int .i64), .one (.int .i64)] 86 #[.pointer k, .int .i64 gen, .slice l.a l.len l.cap] w R
theorem F.plan_Put_mono {k : Option Addr} {gen : Int} {l : Sl} {w : World} {R R' : Int → Int → World → Prop} (h : F.plan_Put k gen l w R) (hR : ∀ x0 x1 w', R x0 x1 w' → R' x0 x1 w') : F.plan_Put k gen l w R' :=
  Calls.mono h fun e w' hx => by
    obtain ⟨x0, x1, he, hr⟩ := hx
    exact ⟨x0, x1, he, hR x0 x1 w' hr⟩
/-- masonrybook.StaysPieces -/
def F.masonrybook_StaysPieces (m : Sl) (was : Sl) (w : World) (R : Bool → World → Prop) : Prop := RetT Pg [.one .bool] 87 #[.slice m.a m.len m.cap, .slice was.a was.len was.cap] w R
theorem F.masonrybook_StaysPieces_mono {m : Sl} {was : Sl} {w : World} {R R' : Bool → World → Prop} (h : F.masonrybook_StaysPieces m was w R) (hR : ∀ x0 w', R x0 w' → R' x0 w') : F.masonrybook_StaysPieces m was w R' :=
  Calls.mono h fun e w' hx => by
    obtain ⟨x0, he, hr⟩ := hx
    exact ⟨x0, he, hR x0 w' hr⟩
/-- (*masonrybook.Book).Pieces -/
def F.masonrybook_Book_Pieces (b : Option Addr) (l : Sl) (w : World) (R : World → Prop) : Prop := RetT Pg [] 88 #[.pointer b, .slice l.a l.len l.cap] w R
theorem F.masonrybook_Book_Pieces_mono {b : Option Addr} {l : Sl} {w : World} {R R' : World → Prop} (h : F.masonrybook_Book_Pieces b l w R) (hR : ∀ w', R  w' → R'  w') : F.masonrybook_Book_Pieces b l w R' :=
  Calls.mono h fun e w' hx => by
    obtain ⟨he, hr⟩ := hx
    exact ⟨he, hR  w' hr⟩
/-- plan.Use -/
def F.plan_Use (k : Option Addr) (at_ : Int) (by_ : Int) (w : World) (R : Int → Int → World → Prop) : Prop := RetT Pg [.one (.int .i64), .one (.int .i64)] 89 #[.pointer k, .int .i64 at_, .int .i64 by_] w R
theorem F.plan_Use_mono {k : Option Addr} {at_ : Int} {by_ : Int} {w : World} {R R' : Int → Int → World → Prop} (h : F.plan_Use k at_ by_ w R) (hR : ∀ x0 x1 w', R x0 x1 w' → R' x0 x1 w') : F.plan_Use k at_ by_ w R' :=
  Calls.mono h fun e w' hx => by
    obtain ⟨x0, x1, he, hr⟩ := hx
    exact ⟨x0, x1, he, hR x0 x1 w' hr⟩
/-- (*masonrybook.Book).Apart -/
def F.masonrybook_Book_Apart (b : Option Addr) (w : World) (R : Bool → World → Prop) : Prop := RetT Pg [.one .bool] 90 #[.pointer b] w R
theorem F.masonrybook_Book_Apart_mono {b : Option Addr} {w : World} {R R' : Bool → World → Prop} (h : F.masonrybook_Book_Apart b w R) (hR : ∀ x0 w', R x0 w' → R' x0 w') : F.masonrybook_Book_Apart b w R' :=
  Calls.mono h fun e w' hx => by
    obtain ⟨x0, he, hr⟩ := hx
    exact ⟨x0, he, hR x0 w' hr⟩
/-- masonrybook.Short -/
def F.masonrybook_Short (few : Int) (room : Int) (l : Sl) (w : World) (R : Bool → World → Prop) : Prop := RetT Pg [.one .bool] 91 #[.int .i64 few, .int .i64 room, .slice l.a l.len l.cap] w R
theorem F.masonrybook_Short_mono {few : Int} {room : Int} {l : Sl} {w : World} {R R' : Bool → World → Prop} (h : F.masonrybook_Short few room l w R) (hR : ∀ x0 w', R x0 w' → R' x0 w') : F.masonrybook_Short few room l w R' :=
  Calls.mono h fun e w' hx => by
    obtain ⟨x0, he, hr⟩ := hx
    exact ⟨x0, he, hR x0 w' hr⟩
/-- masonrybook.Join -/
def F.masonrybook_Join (l : Sl) (w : World) (R : ByteArray → World → Prop) : Prop := RetT Pg [.one .str] 92 #[.slice l.a l.len l.cap] w R
theorem F.masonrybook_Join_mono {l : Sl} {w : World} {R R' : ByteArray → World → Prop} (h : F.masonrybook_Join l w R) (hR : ∀ x0 w', R x0 w' → R' x0 w') : F.masonrybook_Join l w R' :=
  Calls.mono h fun e w' hx => by
    obtain ⟨x0, he, hr⟩ := hx
    exact ⟨x0, he, hR x0 w' hr⟩
/-- masonrybook.LentTexts -/
def F.masonrybook_LentTexts (l : Sl) (w : World) (R : Sl → World → Prop) : Prop := RetT Pg [.one .slice] 93 #[.slice l.a l.len l.cap] w R
theorem F.masonrybook_LentTexts_mono {l : Sl} {w : World} {R R' : Sl → World → Prop} (h : F.masonrybook_LentTexts l w R) (hR : ∀ x0 w', R x0 w' → R' x0 w') : F.masonrybook_LentTexts l w R' :=
  Calls.mono h fun e w' hx => by
    obtain ⟨x0, he, hr⟩ := hx
    exact ⟨x0, he, hR x0 w' hr⟩
/-- masonrybook.StaysTexts -/
def F.masonrybook_StaysTexts (m : Sl) (was : Sl) (w : World) (R : Bool → World → Prop) : Prop := RetT Pg [.one .bool] 94 #[.slice m.a m.len m.cap, .slice was.a was.len was.cap] w R
theorem F.masonrybook_StaysTexts_mono {m : Sl} {was : Sl} {w : World} {R R' : Bool → World → Prop} (h : F.masonrybook_StaysTexts m was w R) (hR : ∀ x0 w', R x0 w' → R' x0 w') : F.masonrybook_StaysTexts m was w R' :=
  Calls.mono h fun e w' hx => by
    obtain ⟨x0, he, hr⟩ := hx
    exact ⟨x0, he, hR x0 w' hr⟩
/-- (chain.link).lay -/
def F.chain_link_lay (x_0 : Int) (x_1 : Int) (x_2 : Int) (x_3 : Int) (x_4 : Int) (x_5 : ByteArray) (w : World) (R : ByteArray → World → Prop) : Prop := RetT Pg [.one .str] 95 #[.agg #[.int .i64 x_0, .int .i64 x_1, .int .i64 x_2, .int .i64 x_3, .int .i64 x_4, .string x_5]] w R
theorem F.chain_link_lay_mono {x_0 : Int} {x_1 : Int} {x_2 : Int} {x_3 : Int} {x_4 : Int} {x_5 : ByteArray} {w : World} {R R' : ByteArray → World → Prop} (h : F.chain_link_lay x_0 x_1 x_2 x_3 x_4 x_5 w R) (hR : ∀ x0 w', R x0 w' → R' x0 w') : F.chain_link_lay x_0 x_1 x_2 x_3 x_4 x_5 w R' :=
  Calls.mono h fun e w' hx => by
    obtain ⟨x0, he, hr⟩ := hx
    exact ⟨x0, he, hR x0 w' hr⟩
/-- chain.walk -/
def F.chain_walk (k : Option Addr) (at_ : Int) (w : World) (R : Sl → Sl → Int → World → Prop) : Prop := RetT Pg [.one .slice, .one .slice, .one (.int .i64)] 96 #[.pointer k, .int .i64 at_] w R
theorem F.chain_walk_mono {k : Option Addr} {at_ : Int} {w : World} {R R' : Sl → Sl → Int → World → Prop} (h : F.chain_walk k at_ w R) (hR : ∀ x0 x1 x2 w', R x0 x1 x2 w' → R' x0 x1 x2 w') : F.chain_walk k at_ w R' :=
  Calls.mono h fun e w' hx => by
    obtain ⟨x0, x1, x2, he, hr⟩ := hx
    exact ⟨x0, x1, x2, he, hR x0 x1 x2 w' hr⟩
/-- (*wal.Wal).Read -/
def F.wal_Wal_Read (w' : Option Addr) (at_ : Int) (w : World) (R : ByteArray → Int → World → Prop) : Prop := RetT Pg [.one .str, .one (.int .i64)] 97 #[.pointer w', .int .i64 at_] w R
theorem F.wal_Wal_Read_mono {w' : Option Addr} {at_ : Int} {w : World} {R R' : ByteArray → Int → World → Prop} (h : F.wal_Wal_Read w' at_ w R) (hR : ∀ x0 x1 w', R x0 x1 w' → R' x0 x1 w') : F.wal_Wal_Read w' at_ w R' :=
  Calls.mono h fun e w' hx => by
    obtain ⟨x0, x1, he, hr⟩ := hx
    exact ⟨x0, x1, he, hR x0 x1 w' hr⟩
/-- (*room.Room).Used -/
def F.room_Room_Used (r : Option Addr) (at_ : Int) (w : World) (R : Bool → World → Prop) : Prop := RetT Pg [.one .bool] 98 #[.pointer r, .int .i64 at_] w R
theorem F.room_Room_Used_mono {r : Option Addr} {at_ : Int} {w : World} {R R' : Bool → World → Prop} (h : F.room_Room_Used r at_ w R) (hR : ∀ x0 w', R x0 w' → R' x0 w') : F.room_Room_Used r at_ w R' :=
  Calls.mono h fun e w' hx => by
    obtain ⟨x0, he, hr⟩ := hx
    exact ⟨x0, he, hR x0 w' hr⟩
/-- strings.Clone -/
def F.strings_Clone (s : ByteArray) (w : World) (R : ByteArray → World → Prop) : Prop := RetT Pg [.one .str] 99 #[.string s] w R
theorem F.strings_Clone_mono {s : ByteArray} {w : World} {R R' : ByteArray → World → Prop} (h : F.strings_Clone s w R) (hR : ∀ x0 w', R x0 w' → R' x0 w') : F.strings_Clone s w R' :=
  Calls.mono h fun e w' hx => by
    obtain ⟨x0, he, hr⟩ := hx
    exact ⟨x0, he, hR x0 w' hr⟩
/-- bits.On -/
def F.bits_On (b : ByteArray) (w : World) (R : Option Addr → World → Prop) : Prop := RetT Pg [.one .ptr] 100 #[.string b] w R
theorem F.bits_On_mono {b : ByteArray} {w : World} {R R' : Option Addr → World → Prop} (h : F.bits_On b w R) (hR : ∀ x0 w', R x0 w' → R' x0 w') : F.bits_On b w R' :=
  Calls.mono h fun e w' hx => by
    obtain ⟨x0, he, hr⟩ := hx
    exact ⟨x0, he, hR x0 w' hr⟩
/-- (*bits.In).Half -/
def F.bits_In_Half (i : Option Addr) (w : World) (R : Int → World → Prop) : Prop := RetT Pg [.one (.int .i64)] 101 #[.pointer i] w R
theorem F.bits_In_Half_mono {i : Option Addr} {w : World} {R R' : Int → World → Prop} (h : F.bits_In_Half i w R) (hR : ∀ x0 w', R x0 w' → R' x0 w') : F.bits_In_Half i w R' :=
  Calls.mono h fun e w' hx => by
    obtain ⟨x0, he, hr⟩ := hx
    exact ⟨x0, he, hR x0 w' hr⟩
/-- (*bits.In).Byte -/
def F.bits_In_Byte (i : Option Addr) (w : World) (R : Int → World → Prop) : Prop := RetT Pg [.one (.int .i64)] 102 #[.pointer i] w R
theorem F.bits_In_Byte_mono {i : Option Addr} {w : World} {R R' : Int → World → Prop} (h : F.bits_In_Byte i w R) (hR : ∀ x0 w', R x0 w' → R' x0 w') : F.bits_In_Byte i w R' :=
  Calls.mono h fun e w' hx => by
    obtain ⟨x0, he, hr⟩ := hx
    exact ⟨x0, he, hR x0 w' hr⟩
/-- plan.may -/
def F.plan_may (gen : Int) (l : Sl) (w : World) (R : Int → World → Prop) : Prop := RetT Pg [.one (.int .i64)] 103 #[.int .i64 gen, .slice l.a l.len l.cap] w R
theorem F.plan_may_mono {gen : Int} {l : Sl} {w : World} {R R' : Int → World → Prop} (h : F.plan_may gen l w R) (hR : ∀ x0 w', R x0 w' → R' x0 w') : F.plan_may gen l w R' :=
  Calls.mono h fun e w' hx => by
    obtain ⟨x0, he, hr⟩ := hx
    exact ⟨x0, he, hR x0 w' hr⟩
/-- masonrybook.Room -/
def F.masonrybook_Room (left : Int) (sizes : Sl) (w : World) (R : Int → World → Prop) : Prop := RetT Pg [.one (.int .i64)] 104 #[.int .i64 left, .slice sizes.a sizes.len sizes.cap] w R
theorem F.masonrybook_Room_mono {left : Int} {sizes : Sl} {w : World} {R R' : Int → World → Prop} (h : F.masonrybook_Room left sizes w R) (hR : ∀ x0 w', R x0 w' → R' x0 w') : F.masonrybook_Room left sizes w R' :=
  Calls.mono h fun e w' hx => by
    obtain ⟨x0, he, hr⟩ := hx
    exact ⟨x0, he, hR x0 w' hr⟩
/-- (*wal.Wal).Size -/
def F.wal_Wal_Size (w' : Option Addr) (w : World) (R : Int → World → Prop) : Prop := RetT Pg [.one (.int .i64)] 105 #[.pointer w'] w R
theorem F.wal_Wal_Size_mono {w' : Option Addr} {w : World} {R R' : Int → World → Prop} (h : F.wal_Wal_Size w' w R) (hR : ∀ x0 w', R x0 w' → R' x0 w') : F.wal_Wal_Size w' w R' :=
  Calls.mono h fun e w' hx => by
    obtain ⟨x0, he, hr⟩ := hx
    exact ⟨x0, he, hR x0 w' hr⟩
/-- slices.Repeat[[]string,string] -/
def F.slices_Repeat_sl_string_string (x : Sl) (count : Int) (w : World) (R : Sl → World → Prop) : Prop := RetT Pg [.one .slice] 106 #[.slice x.a x.len x.cap, .int .i64 count] w R
theorem F.slices_Repeat_sl_string_string_mono {x : Sl} {count : Int} {w : World} {R R' : Sl → World → Prop} (h : F.slices_Repeat_sl_string_string x count w R) (hR : ∀ x0 w', R x0 w' → R' x0 w') : F.slices_Repeat_sl_string_string x count w R' :=
  Calls.mono h fun e w' hx => by
    obtain ⟨x0, he, hr⟩ := hx
    exact ⟨x0, he, hR x0 w' hr⟩
/-- strings.Repeat -/
def F.strings_Repeat (s : ByteArray) (count : Int) (w : World) (R : ByteArray → World → Prop) : Prop := RetT Pg [.one .str] 107 #[.string s, .int .i64 count] w R
theorem F.strings_Repeat_mono {s : ByteArray} {count : Int} {w : World} {R R' : ByteArray → World → Prop} (h : F.strings_Repeat s count w R) (hR : ∀ x0 w', R x0 w' → R' x0 w') : F.strings_Repeat s count w R' :=
  Calls.mono h fun e w' hx => by
    obtain ⟨x0, he, hr⟩ := hx
    exact ⟨x0, he, hR x0 w' hr⟩
/-- slices.Clone[[]string,string] -/
def F.slices_Clone_sl_string_string (s : Sl) (w : World) (R : Sl → World → Prop) : Prop := RetT Pg [.one .slice] 108 #[.slice s.a s.len s.cap] w R
theorem F.slices_Clone_sl_string_string_mono {s : Sl} {w : World} {R R' : Sl → World → Prop} (h : F.slices_Clone_sl_string_string s w R) (hR : ∀ x0 w', R x0 w' → R' x0 w') : F.slices_Clone_sl_string_string s w R' :=
  Calls.mono h fun e w' hx => by
    obtain ⟨x0, he, hr⟩ := hx
    exact ⟨x0, he, hR x0 w' hr⟩
/-- desk.opened -/
def F.desk_opened (d : Option Addr) (w : World) (R : Option Addr → Int → World → Prop) : Prop := RetT Pg [.one .ptr, .one (.int .i64)] 109 #[.pointer d] w R
theorem F.desk_opened_mono {d : Option Addr} {w : World} {R R' : Option Addr → Int → World → Prop} (h : F.desk_opened d w R) (hR : ∀ x0 x1 w', R x0 x1 w' → R' x0 x1 w') : F.desk_opened d w R' :=
  Calls.mono h fun e w' hx => by
    obtain ⟨x0, x1, he, hr⟩ := hx
    exact ⟨x0, x1, he, hR x0 x1 w' hr⟩
/-- room.New -/
def F.room_New (n : Int) (used : Sl) (w : World) (R : Option Addr → Int → World → Prop) : Prop := RetT Pg [.one .ptr, .one (.int .i64)] 110 #[.int .i64 n, .slice used.a used.len used.cap] w R
theorem F.room_New_mono {n : Int} {used : Sl} {w : World} {R R' : Option Addr → Int → World → Prop} (h : F.room_New n used w R) (hR : ∀ x0 x1 w', R x0 x1 w' → R' x0 x1 w') : F.room_New n used w R' :=
  Calls.mono h fun e w' hx => by
    obtain ⟨x0, x1, he, hr⟩ := hx
    exact ⟨x0, x1, he, hR x0 x1 w' hr⟩
/-- (*room.Room).Lay -/
def F.room_Room_Lay (r : Option Addr) (w : World) (R : ByteArray → Int → World → Prop) : Prop := RetT Pg [.one .str, .one (.int .i64)] 111 #[.pointer r] w R
theorem F.room_Room_Lay_mono {r : Option Addr} {w : World} {R R' : ByteArray → Int → World → Prop} (h : F.room_Room_Lay r w R) (hR : ∀ x0 x1 w', R x0 x1 w' → R' x0 x1 w') : F.room_Room_Lay r w R' :=
  Calls.mono h fun e w' hx => by
    obtain ⟨x0, x1, he, hr⟩ := hx
    exact ⟨x0, x1, he, hR x0 x1 w' hr⟩
/-- (*wal.Wal).Commit -/
def F.wal_Wal_Commit (w' : Option Addr) (l : Sl) (w : World) (R : Int → World → Prop) : Prop := RetT Pg [.one (.int .i64)] 112 #[.pointer w', .slice l.a l.len l.cap] w R
theorem F.wal_Wal_Commit_mono {w' : Option Addr} {l : Sl} {w : World} {R R' : Int → World → Prop} (h : F.wal_Wal_Commit w' l w R) (hR : ∀ x0 w', R x0 w' → R' x0 w') : F.wal_Wal_Commit w' l w R' :=
  Calls.mono h fun e w' hx => by
    obtain ⟨x0, he, hr⟩ := hx
    exact ⟨x0, he, hR x0 w' hr⟩
/-- desk.zeros -/
def F.desk_zeros (w : World) (R : ByteArray → World → Prop) : Prop := RetT Pg [.one .str] 113 #[] w R
theorem F.desk_zeros_mono {w : World} {R R' : ByteArray → World → Prop} (h : F.desk_zeros  w R) (hR : ∀ x0 w', R x0 w' → R' x0 w') : F.desk_zeros  w R' :=
  Calls.mono h fun e w' hx => by
    obtain ⟨x0, he, hr⟩ := hx
    exact ⟨x0, he, hR x0 w' hr⟩
/-- (*room.Room).Copy -/
def F.room_Room_Copy (r : Option Addr) (w : World) (R : Option Addr → World → Prop) : Prop := RetT Pg [.one .ptr] 114 #[.pointer r] w R
theorem F.room_Room_Copy_mono {r : Option Addr} {w : World} {R R' : Option Addr → World → Prop} (h : F.room_Room_Copy r w R) (hR : ∀ x0 w', R x0 w' → R' x0 w') : F.room_Room_Copy r w R' :=
  Calls.mono h fun e w' hx => by
    obtain ⟨x0, he, hr⟩ := hx
    exact ⟨x0, he, hR x0 w' hr⟩
/-- maps.Clone[map[int]string,int,string] -/
def F.maps_Clone_map_int_string_int_string (m : Option Nat) (w : World) (R : Option Nat → World → Prop) : Prop := RetT Pg [.one .map] 115 #[.map m] w R
theorem F.maps_Clone_map_int_string_int_string_mono {m : Option Nat} {w : World} {R R' : Option Nat → World → Prop} (h : F.maps_Clone_map_int_string_int_string m w R) (hR : ∀ x0 w', R x0 w' → R' x0 w') : F.maps_Clone_map_int_string_int_string m w R' :=
  Calls.mono h fun e w' hx => by
    obtain ⟨x0, he, hr⟩ := hx
    exact ⟨x0, he, hR x0 w' hr⟩
/-- table.Find -/
def F.table_Find (l : Sl) (name : ByteArray) (w : World) (R : Int → Bool → World → Prop) : Prop := RetT Pg [.one (.int .i64), .one .bool] 116 #[.slice l.a l.len l.cap, .string name] w R
theorem F.table_Find_mono {l : Sl} {name : ByteArray} {w : World} {R R' : Int → Bool → World → Prop} (h : F.table_Find l name w R) (hR : ∀ x0 x1 w', R x0 x1 w' → R' x0 x1 w') : F.table_Find l name w R' :=
  Calls.mono h fun e w' hx => by
    obtain ⟨x0, x1, he, hr⟩ := hx
    exact ⟨x0, x1, he, hR x0 x1 w' hr⟩
/-- table.Lay -/
def F.table_Lay (l : Sl) (w : World) (R : ByteArray → Int → World → Prop) : Prop := RetT Pg [.one .str, .one (.int .i64)] 117 #[.slice l.a l.len l.cap] w R
theorem F.table_Lay_mono {l : Sl} {w : World} {R R' : ByteArray → Int → World → Prop} (h : F.table_Lay l w R) (hR : ∀ x0 x1 w', R x0 x1 w' → R' x0 x1 w') : F.table_Lay l w R' :=
  Calls.mono h fun e w' hx => by
    obtain ⟨x0, x1, he, hr⟩ := hx
    exact ⟨x0, x1, he, hR x0 x1 w' hr⟩
/-- table.Read -/
def F.table_Read (b : ByteArray) (w : World) (R : Sl → Int → World → Prop) : Prop := RetT Pg [.one .slice, .one (.int .i64)] 118 #[.string b] w R
theorem F.table_Read_mono {b : ByteArray} {w : World} {R R' : Sl → Int → World → Prop} (h : F.table_Read b w R) (hR : ∀ x0 x1 w', R x0 x1 w' → R' x0 x1 w') : F.table_Read b w R' :=
  Calls.mono h fun e w' hx => by
    obtain ⟨x0, x1, he, hr⟩ := hx
    exact ⟨x0, x1, he, hR x0 x1 w' hr⟩
/-- table.Valid -/
def F.table_Valid (name : ByteArray) (w : World) (R : Bool → World → Prop) : Prop := RetT Pg [.one .bool] 119 #[.string name] w R
theorem F.table_Valid_mono {name : ByteArray} {w : World} {R R' : Bool → World → Prop} (h : F.table_Valid name w R) (hR : ∀ x0 w', R x0 w' → R' x0 w') : F.table_Valid name w R' :=
  Calls.mono h fun e w' hx => by
    obtain ⟨x0, he, hr⟩ := hx
    exact ⟨x0, he, hR x0 w' hr⟩
/-- masonryref1.ValidName -/
def F.masonryref1_ValidName (s : ByteArray) (w : World) (R : Bool → World → Prop) : Prop := RetT Pg [.one .bool] 120 #[.string s] w R
theorem F.masonryref1_ValidName_mono {s : ByteArray} {w : World} {R R' : Bool → World → Prop} (h : F.masonryref1_ValidName s w R) (hR : ∀ x0 w', R x0 w' → R' x0 w') : F.masonryref1_ValidName s w R' :=
  Calls.mono h fun e w' hx => by
    obtain ⟨x0, he, hr⟩ := hx
    exact ⟨x0, he, hR x0 w' hr⟩
/-- masonryref1.Low -/
def F.masonryref1_Low (v : Int) (n : Int) (w : World) (R : ByteArray → World → Prop) : Prop := RetT Pg [.one .str] 121 #[.int .u64 v, .int .i64 n] w R
theorem F.masonryref1_Low_mono {v : Int} {n : Int} {w : World} {R R' : ByteArray → World → Prop} (h : F.masonryref1_Low v n w R) (hR : ∀ x0 w', R x0 w' → R' x0 w') : F.masonryref1_Low v n w R' :=
  Calls.mono h fun e w' hx => by
    obtain ⟨x0, he, hr⟩ := hx
    exact ⟨x0, he, hR x0 w' hr⟩
/-- table.put -/
def F.table_put (k : Option Addr) (gen : Int) (old : Int) (many : Int) (b : ByteArray) (w : World) (R : Int → Int → World → Prop) : Prop := RetT Pg [.one (.int .i64), .one (.int .i64)] 122 #[.pointer k, .int .i64 gen, .int .i64 old, .int .i64 many, .string b] w R
theorem F.table_put_mono {k : Option Addr} {gen : Int} {old : Int} {many : Int} {b : ByteArray} {w : World} {R R' : Int → Int → World → Prop} (h : F.table_put k gen old many b w R) (hR : ∀ x0 x1 w', R x0 x1 w' → R' x0 x1 w') : F.table_put k gen old many b w R' :=
  Calls.mono h fun e w' hx => by
    obtain ⟨x0, x1, he, hr⟩ := hx
    exact ⟨x0, x1, he, hR x0 x1 w' hr⟩
/-- wal.Open -/
def F.wal_Open (d : Option Addr) (w : World) (R : Option Addr → Int → World → Prop) : Prop := RetT Pg [.one .ptr, .one (.int .i64)] 123 #[.pointer d] w R
theorem F.wal_Open_mono {d : Option Addr} {w : World} {R R' : Option Addr → Int → World → Prop} (h : F.wal_Open d w R) (hR : ∀ x0 x1 w', R x0 x1 w' → R' x0 x1 w') : F.wal_Open d w R' :=
  Calls.mono h fun e w' hx => by
    obtain ⟨x0, x1, he, hr⟩ := hx
    exact ⟨x0, x1, he, hR x0 x1 w' hr⟩
/-- room.Read -/
def F.room_Read (b : ByteArray) (w : World) (R : Option Addr → Int → World → Prop) : Prop := RetT Pg [.one .ptr, .one (.int .i64)] 124 #[.string b] w R
theorem F.room_Read_mono {b : ByteArray} {w : World} {R R' : Option Addr → Int → World → Prop} (h : F.room_Read b w R) (hR : ∀ x0 x1 w', R x0 x1 w' → R' x0 x1 w') : F.room_Read b w R' :=
  Calls.mono h fun e w' hx => by
    obtain ⟨x0, x1, he, hr⟩ := hx
    exact ⟨x0, x1, he, hR x0 x1 w' hr⟩
/-- (*room.Room).Size -/
def F.room_Room_Size (r : Option Addr) (w : World) (R : Int → World → Prop) : Prop := RetT Pg [.one (.int .i64)] 125 #[.pointer r] w R
theorem F.room_Room_Size_mono {r : Option Addr} {w : World} {R R' : Int → World → Prop} (h : F.room_Room_Size r w R) (hR : ∀ x0 w', R x0 w' → R' x0 w') : F.room_Room_Size r w R' :=
  Calls.mono h fun e w' hx => by
    obtain ⟨x0, he, hr⟩ := hx
    exact ⟨x0, he, hR x0 w' hr⟩
/-- (*disk.Disk).write -/
def F.disk_Disk_write (d : Option Addr) (w_0 : Int) (w_1 : ByteArray) (w : World) (R : Int → World → Prop) : Prop := RetT Pg [.one (.int .i64)] 126 #[.pointer d, .agg #[.int .i64 w_0, .string w_1]] w R
theorem F.disk_Disk_write_mono {d : Option Addr} {w_0 : Int} {w_1 : ByteArray} {w : World} {R R' : Int → World → Prop} (h : F.disk_Disk_write d w_0 w_1 w R) (hR : ∀ x0 w', R x0 w' → R' x0 w') : F.disk_Disk_write d w_0 w_1 w R' :=
  Calls.mono h fun e w' hx => by
    obtain ⟨x0, he, hr⟩ := hx
    exact ⟨x0, he, hR x0 w' hr⟩
/-- (*desk.Desk).written -/
def F.desk_Desk_written (k : Option Addr) (w : World) (R : Sl → World → Prop) : Prop := RetT Pg [.one .slice] 127 #[.pointer k] w R
theorem F.desk_Desk_written_mono {k : Option Addr} {w : World} {R R' : Sl → World → Prop} (h : F.desk_Desk_written k w R) (hR : ∀ x0 w', R x0 w' → R' x0 w') : F.desk_Desk_written k w R' :=
  Calls.mono h fun e w' hx => by
    obtain ⟨x0, he, hr⟩ := hx
    exact ⟨x0, he, hR x0 w' hr⟩
/-- (*room.Room).Take -/
def F.room_Room_Take (r : Option Addr) (w : World) (R : Int → Int → World → Prop) : Prop := RetT Pg [.one (.int .i64), .one (.int .i64)] 128 #[.pointer r] w R
theorem F.room_Room_Take_mono {r : Option Addr} {w : World} {R R' : Int → Int → World → Prop} (h : F.room_Room_Take r w R) (hR : ∀ x0 x1 w', R x0 x1 w' → R' x0 x1 w') : F.room_Room_Take r w R' :=
  Calls.mono h fun e w' hx => by
    obtain ⟨x0, x1, he, hr⟩ := hx
    exact ⟨x0, x1, he, hR x0 x1 w' hr⟩
/-- slices.Contains[[]int,int] -/
def F.slices_Contains_sl_int_int (s : Sl) (v : Int) (w : World) (R : Bool → World → Prop) : Prop := RetT Pg [.one .bool] 129 #[.slice s.a s.len s.cap, .int .i64 v] w R
theorem F.slices_Contains_sl_int_int_mono {s : Sl} {v : Int} {w : World} {R R' : Bool → World → Prop} (h : F.slices_Contains_sl_int_int s v w R) (hR : ∀ x0 w', R x0 w' → R' x0 w') : F.slices_Contains_sl_int_int s v w R' :=
  Calls.mono h fun e w' hx => by
    obtain ⟨x0, he, hr⟩ := hx
    exact ⟨x0, he, hR x0 w' hr⟩
/-- (*room.Room).Give -/
def F.room_Room_Give (r : Option Addr) (l : Sl) (w : World) (R : Int → World → Prop) : Prop := RetT Pg [.one (.int .i64)] 130 #[.pointer r, .slice l.a l.len l.cap] w R
theorem F.room_Room_Give_mono {r : Option Addr} {l : Sl} {w : World} {R R' : Int → World → Prop} (h : F.room_Room_Give r l w R) (hR : ∀ x0 w', R x0 w' → R' x0 w') : F.room_Room_Give r l w R' :=
  Calls.mono h fun e w' hx => by
    obtain ⟨x0, he, hr⟩ := hx
    exact ⟨x0, he, hR x0 w' hr⟩
/-- slices.Clone[[]int,int] -/
def F.slices_Clone_sl_int_int (s : Sl) (w : World) (R : Sl → World → Prop) : Prop := RetT Pg [.one .slice] 131 #[.slice s.a s.len s.cap] w R
theorem F.slices_Clone_sl_int_int_mono {s : Sl} {w : World} {R R' : Sl → World → Prop} (h : F.slices_Clone_sl_int_int s w R) (hR : ∀ x0 w', R x0 w' → R' x0 w') : F.slices_Clone_sl_int_int s w R' :=
  Calls.mono h fun e w' hx => by
    obtain ⟨x0, he, hr⟩ := hx
    exact ⟨x0, he, hR x0 w' hr⟩
/-- maps.DeleteFunc[map[int]string,int,string] -/
def F.maps_DeleteFunc_map_int_string_int_string (m : Option Nat) (del : Value) (w : World) (R : World → Prop) : Prop := RetT Pg [] 132 #[.map m, del] w R
theorem F.maps_DeleteFunc_map_int_string_int_string_mono {m : Option Nat} {del : Value} {w : World} {R R' : World → Prop} (h : F.maps_DeleteFunc_map_int_string_int_string m del w R) (hR : ∀ w', R  w' → R'  w') : F.maps_DeleteFunc_map_int_string_int_string m del w R' :=
  Calls.mono h fun e w' hx => by
    obtain ⟨he, hr⟩ := hx
    exact ⟨he, hR  w' hr⟩
/-- (*desk.Desk).Keep$1 -/
def F.desk_Desk_Keep_fn1 (at_ : Int) (x_ : ByteArray) (c : Addr) (w : World) (R : Bool → World → Prop) : Prop := RetT Pg [.one .bool] 133 #[.int .i64 at_, .string x_, .pointer (some c)] w R
theorem F.desk_Desk_Keep_fn1_mono {at_ : Int} {x_ : ByteArray} {c : Addr} {w : World} {R R' : Bool → World → Prop} (h : F.desk_Desk_Keep_fn1 at_ x_ c w R) (hR : ∀ x0 w', R x0 w' → R' x0 w') : F.desk_Desk_Keep_fn1 at_ x_ c w R' :=
  Calls.mono h fun e w' hx => by
    obtain ⟨x0, he, hr⟩ := hx
    exact ⟨x0, he, hR x0 w' hr⟩
/-- masonryref1.LayRoom -/
def F.masonryref1_LayRoom (n : Int) (used : Sl) (w : World) (R : ByteArray → World → Prop) : Prop := RetT Pg [.one .str] 134 #[.int .i64 n, .slice used.a used.len used.cap] w R
theorem F.masonryref1_LayRoom_mono {n : Int} {used : Sl} {w : World} {R R' : ByteArray → World → Prop} (h : F.masonryref1_LayRoom n used w R) (hR : ∀ x0 w', R x0 w' → R' x0 w') : F.masonryref1_LayRoom n used w R' :=
  Calls.mono h fun e w' hx => by
    obtain ⟨x0, he, hr⟩ := hx
    exact ⟨x0, he, hR x0 w' hr⟩
/-- masonrybook.copyInts -/
def F.masonrybook_copyInts (l : Sl) (w : World) (R : Sl → World → Prop) : Prop := RetT Pg [.one .slice] 135 #[.slice l.a l.len l.cap] w R
theorem F.masonrybook_copyInts_mono {l : Sl} {w : World} {R R' : Sl → World → Prop} (h : F.masonrybook_copyInts l w R) (hR : ∀ x0 w', R x0 w' → R' x0 w') : F.masonrybook_copyInts l w R' :=
  Calls.mono h fun e w' hx => by
    obtain ⟨x0, he, hr⟩ := hx
    exact ⟨x0, he, hR x0 w' hr⟩
/-- masonryref1.ShaOne -/
def F.masonryref1_ShaOne (s : ByteArray) (w : World) (R : ByteArray → World → Prop) : Prop := RetT Pg [.one .str] 136 #[.string s] w R
theorem F.masonryref1_ShaOne_mono {s : ByteArray} {w : World} {R R' : ByteArray → World → Prop} (h : F.masonryref1_ShaOne s w R) (hR : ∀ x0 w', R x0 w' → R' x0 w') : F.masonryref1_ShaOne s w R' :=
  Calls.mono h fun e w' hx => by
    obtain ⟨x0, he, hr⟩ := hx
    exact ⟨x0, he, hR x0 w' hr⟩
/-- masonryref1.ShaTwo -/
def F.masonryref1_ShaTwo (s : ByteArray) (w : World) (R : ByteArray → World → Prop) : Prop := RetT Pg [.one .str] 137 #[.string s] w R
theorem F.masonryref1_ShaTwo_mono {s : ByteArray} {w : World} {R R' : ByteArray → World → Prop} (h : F.masonryref1_ShaTwo s w R) (hR : ∀ x0 w', R x0 w' → R' x0 w') : F.masonryref1_ShaTwo s w R' :=
  Calls.mono h fun e w' hx => by
    obtain ⟨x0, he, hr⟩ := hx
    exact ⟨x0, he, hR x0 w' hr⟩
/-- mark.Read -/
def F.mark_Read (b : ByteArray) (w : World) (R : Int → ByteArray → Int → World → Prop) : Prop := RetT Pg [.agg [.int .i64, .str], .one (.int .i64)] 138 #[.string b] w R
theorem F.mark_Read_mono {b : ByteArray} {w : World} {R R' : Int → ByteArray → Int → World → Prop} (h : F.mark_Read b w R) (hR : ∀ x0 x1 x2 w', R x0 x1 x2 w' → R' x0 x1 x2 w') : F.mark_Read b w R' :=
  Calls.mono h fun e w' hx => by
    obtain ⟨x0, x1, x2, he, hr⟩ := hx
    exact ⟨x0, x1, x2, he, hR x0 x1 x2 w' hr⟩
/-- mark.Of -/
def F.mark_Of (kind : Int) (l : Sl) (w : World) (R : Int → ByteArray → Int → World → Prop) : Prop := RetT Pg [.agg [.int .i64, .str], .one (.int .i64)] 139 #[.int .i64 kind, .slice l.a l.len l.cap] w R
theorem F.mark_Of_mono {kind : Int} {l : Sl} {w : World} {R R' : Int → ByteArray → Int → World → Prop} (h : F.mark_Of kind l w R) (hR : ∀ x0 x1 x2 w', R x0 x1 x2 w' → R' x0 x1 x2 w') : F.mark_Of kind l w R' :=
  Calls.mono h fun e w' hx => by
    obtain ⟨x0, x1, x2, he, hr⟩ := hx
    exact ⟨x0, x1, x2, he, hR x0 x1 x2 w' hr⟩
/-- strings.Join -/
def F.strings_Join (elems : Sl) (sep : ByteArray) (w : World) (R : ByteArray → World → Prop) : Prop := RetT Pg [.one .str] 140 #[.slice elems.a elems.len elems.cap, .string sep] w R
theorem F.strings_Join_mono {elems : Sl} {sep : ByteArray} {w : World} {R R' : ByteArray → World → Prop} (h : F.strings_Join elems sep w R) (hR : ∀ x0 w', R x0 w' → R' x0 w') : F.strings_Join elems sep w R' :=
  Calls.mono h fun e w' hx => by
    obtain ⟨x0, he, hr⟩ := hx
    exact ⟨x0, he, hR x0 w' hr⟩
/-- mark.Lay -/
def F.mark_Lay (p_0 : Int) (p_1 : ByteArray) (w : World) (R : ByteArray → Int → World → Prop) : Prop := RetT Pg [.one .str, .one (.int .i64)] 141 #[.agg #[.int .i64 p_0, .string p_1]] w R
theorem F.mark_Lay_mono {p_0 : Int} {p_1 : ByteArray} {w : World} {R R' : ByteArray → Int → World → Prop} (h : F.mark_Lay p_0 p_1 w R) (hR : ∀ x0 x1 w', R x0 x1 w' → R' x0 x1 w') : F.mark_Lay p_0 p_1 w R' :=
  Calls.mono h fun e w' hx => by
    obtain ⟨x0, x1, he, hr⟩ := hx
    exact ⟨x0, x1, he, hR x0 x1 w' hr⟩
/-- masonrybook.copyPieces -/
def F.masonrybook_copyPieces (l : Sl) (w : World) (R : Sl → World → Prop) : Prop := RetT Pg [.one .slice] 142 #[.slice l.a l.len l.cap] w R
theorem F.masonrybook_copyPieces_mono {l : Sl} {w : World} {R R' : Sl → World → Prop} (h : F.masonrybook_copyPieces l w R) (hR : ∀ x0 w', R x0 w' → R' x0 w') : F.masonrybook_copyPieces l w R' :=
  Calls.mono h fun e w' hx => by
    obtain ⟨x0, he, hr⟩ := hx
    exact ⟨x0, he, hR x0 w' hr⟩
/-- (*bits.Out).Half -/
def F.bits_Out_Half (o : Option Addr) (l : Sl) (w : World) (R : Option Addr → World → Prop) : Prop := RetT Pg [.one .ptr] 143 #[.pointer o, .slice l.a l.len l.cap] w R
theorem F.bits_Out_Half_mono {o : Option Addr} {l : Sl} {w : World} {R R' : Option Addr → World → Prop} (h : F.bits_Out_Half o l w R) (hR : ∀ x0 w', R x0 w' → R' x0 w') : F.bits_Out_Half o l w R' :=
  Calls.mono h fun e w' hx => by
    obtain ⟨x0, he, hr⟩ := hx
    exact ⟨x0, he, hR x0 w' hr⟩
/-- (*bits.Out).Byte -/
def F.bits_Out_Byte (o : Option Addr) (l : Sl) (w : World) (R : Option Addr → World → Prop) : Prop := RetT Pg [.one .ptr] 144 #[.pointer o, .slice l.a l.len l.cap] w R
theorem F.bits_Out_Byte_mono {o : Option Addr} {l : Sl} {w : World} {R R' : Option Addr → World → Prop} (h : F.bits_Out_Byte o l w R) (hR : ∀ x0 w', R x0 w' → R' x0 w') : F.bits_Out_Byte o l w R' :=
  Calls.mono h fun e w' hx => by
    obtain ⟨x0, he, hr⟩ := hx
    exact ⟨x0, he, hR x0 w' hr⟩
/-- (*bits.Out).End -/
def F.bits_Out_End (o : Option Addr) (w : World) (R : ByteArray → Int → World → Prop) : Prop := RetT Pg [.one .str, .one (.int .i64)] 145 #[.pointer o] w R
theorem F.bits_Out_End_mono {o : Option Addr} {w : World} {R R' : ByteArray → Int → World → Prop} (h : F.bits_Out_End o w R) (hR : ∀ x0 x1 w', R x0 x1 w' → R' x0 x1 w') : F.bits_Out_End o w R' :=
  Calls.mono h fun e w' hx => by
    obtain ⟨x0, x1, he, hr⟩ := hx
    exact ⟨x0, x1, he, hR x0 x1 w' hr⟩
/-- (*masonrybook.Book).stillTexts -/
def F.masonrybook_Book_stillTexts (b : Option Addr) (w : World) (R : Bool → World → Prop) : Prop := RetT Pg [.one .bool] 146 #[.pointer b] w R
theorem F.masonrybook_Book_stillTexts_mono {b : Option Addr} {w : World} {R R' : Bool → World → Prop} (h : F.masonrybook_Book_stillTexts b w R) (hR : ∀ x0 w', R x0 w' → R' x0 w') : F.masonrybook_Book_stillTexts b w R' :=
  Calls.mono h fun e w' hx => by
    obtain ⟨x0, he, hr⟩ := hx
    exact ⟨x0, he, hR x0 w' hr⟩
/-- (*masonrybook.Book).stillInts -/
def F.masonrybook_Book_stillInts (b : Option Addr) (w : World) (R : Bool → World → Prop) : Prop := RetT Pg [.one .bool] 147 #[.pointer b] w R
theorem F.masonrybook_Book_stillInts_mono {b : Option Addr} {w : World} {R R' : Bool → World → Prop} (h : F.masonrybook_Book_stillInts b w R) (hR : ∀ x0 w', R x0 w' → R' x0 w') : F.masonrybook_Book_stillInts b w R' :=
  Calls.mono h fun e w' hx => by
    obtain ⟨x0, he, hr⟩ := hx
    exact ⟨x0, he, hR x0 w' hr⟩
/-- (*masonrybook.Book).stillSpans -/
def F.masonrybook_Book_stillSpans (b : Option Addr) (w : World) (R : Bool → World → Prop) : Prop := RetT Pg [.one .bool] 148 #[.pointer b] w R
theorem F.masonrybook_Book_stillSpans_mono {b : Option Addr} {w : World} {R R' : Bool → World → Prop} (h : F.masonrybook_Book_stillSpans b w R) (hR : ∀ x0 w', R x0 w' → R' x0 w') : F.masonrybook_Book_stillSpans b w R' :=
  Calls.mono h fun e w' hx => by
    obtain ⟨x0, he, hr⟩ := hx
    exact ⟨x0, he, hR x0 w' hr⟩
/-- (*masonrybook.Book).stillPieces -/
def F.masonrybook_Book_stillPieces (b : Option Addr) (w : World) (R : Bool → World → Prop) : Prop := RetT Pg [.one .bool] 149 #[.pointer b] w R
theorem F.masonrybook_Book_stillPieces_mono {b : Option Addr} {w : World} {R R' : Bool → World → Prop} (h : F.masonrybook_Book_stillPieces b w R) (hR : ∀ x0 w', R x0 w' → R' x0 w') : F.masonrybook_Book_stillPieces b w R' :=
  Calls.mono h fun e w' hx => by
    obtain ⟨x0, he, hr⟩ := hx
    exact ⟨x0, he, hR x0 w' hr⟩
/-- (*masonrybook.Book).stillEntries -/
def F.masonrybook_Book_stillEntries (b : Option Addr) (w : World) (R : Bool → World → Prop) : Prop := RetT Pg [.one .bool] 150 #[.pointer b] w R
theorem F.masonrybook_Book_stillEntries_mono {b : Option Addr} {w : World} {R R' : Bool → World → Prop} (h : F.masonrybook_Book_stillEntries b w R) (hR : ∀ x0 w', R x0 w' → R' x0 w') : F.masonrybook_Book_stillEntries b w R' :=
  Calls.mono h fun e w' hx => by
    obtain ⟨x0, he, hr⟩ := hx
    exact ⟨x0, he, hR x0 w' hr⟩
/-- (*masonrybook.Book).stillObjects -/
def F.masonrybook_Book_stillObjects (b : Option Addr) (w : World) (R : Bool → World → Prop) : Prop := RetT Pg [.one .bool] 151 #[.pointer b] w R
theorem F.masonrybook_Book_stillObjects_mono {b : Option Addr} {w : World} {R R' : Bool → World → Prop} (h : F.masonrybook_Book_stillObjects b w R) (hR : ∀ x0 w', R x0 w' → R' x0 w') : F.masonrybook_Book_stillObjects b w R' :=
  Calls.mono h fun e w' hx => by
    obtain ⟨x0, he, hr⟩ := hx
    exact ⟨x0, he, hR x0 w' hr⟩
/-- (*masonrybook.Book).stillWrites -/
def F.masonrybook_Book_stillWrites (b : Option Addr) (w : World) (R : Bool → World → Prop) : Prop := RetT Pg [.one .bool] 152 #[.pointer b] w R
theorem F.masonrybook_Book_stillWrites_mono {b : Option Addr} {w : World} {R R' : Bool → World → Prop} (h : F.masonrybook_Book_stillWrites b w R) (hR : ∀ x0 w', R x0 w' → R' x0 w') : F.masonrybook_Book_stillWrites b w R' :=
  Calls.mono h fun e w' hx => by
    obtain ⟨x0, he, hr⟩ := hx
    exact ⟨x0, he, hR x0 w' hr⟩
/-- (*masonrybook.Book).stillSteps -/
def F.masonrybook_Book_stillSteps (b : Option Addr) (w : World) (R : Bool → World → Prop) : Prop := RetT Pg [.one .bool] 153 #[.pointer b] w R
theorem F.masonrybook_Book_stillSteps_mono {b : Option Addr} {w : World} {R R' : Bool → World → Prop} (h : F.masonrybook_Book_stillSteps b w R) (hR : ∀ x0 w', R x0 w' → R' x0 w') : F.masonrybook_Book_stillSteps b w R' :=
  Calls.mono h fun e w' hx => by
    obtain ⟨x0, he, hr⟩ := hx
    exact ⟨x0, he, hR x0 w' hr⟩
/-- (*masonrybook.Book).putSteps -/
def F.masonrybook_Book_putSteps (b : Option Addr) (w : World) (R : World → Prop) : Prop := RetT Pg [] 154 #[.pointer b] w R
theorem F.masonrybook_Book_putSteps_mono {b : Option Addr} {w : World} {R R' : World → Prop} (h : F.masonrybook_Book_putSteps b w R) (hR : ∀ w', R  w' → R'  w') : F.masonrybook_Book_putSteps b w R' :=
  Calls.mono h fun e w' hx => by
    obtain ⟨he, hr⟩ := hx
    exact ⟨he, hR  w' hr⟩
/-- (*masonrybook.Book).putTexts -/
def F.masonrybook_Book_putTexts (b : Option Addr) (w : World) (R : World → Prop) : Prop := RetT Pg [] 155 #[.pointer b] w R
theorem F.masonrybook_Book_putTexts_mono {b : Option Addr} {w : World} {R R' : World → Prop} (h : F.masonrybook_Book_putTexts b w R) (hR : ∀ w', R  w' → R'  w') : F.masonrybook_Book_putTexts b w R' :=
  Calls.mono h fun e w' hx => by
    obtain ⟨he, hr⟩ := hx
    exact ⟨he, hR  w' hr⟩
/-- (*masonrybook.Book).putInts -/
def F.masonrybook_Book_putInts (b : Option Addr) (w : World) (R : World → Prop) : Prop := RetT Pg [] 156 #[.pointer b] w R
theorem F.masonrybook_Book_putInts_mono {b : Option Addr} {w : World} {R R' : World → Prop} (h : F.masonrybook_Book_putInts b w R) (hR : ∀ w', R  w' → R'  w') : F.masonrybook_Book_putInts b w R' :=
  Calls.mono h fun e w' hx => by
    obtain ⟨he, hr⟩ := hx
    exact ⟨he, hR  w' hr⟩
/-- (*masonrybook.Book).putSpans -/
def F.masonrybook_Book_putSpans (b : Option Addr) (w : World) (R : World → Prop) : Prop := RetT Pg [] 157 #[.pointer b] w R
theorem F.masonrybook_Book_putSpans_mono {b : Option Addr} {w : World} {R R' : World → Prop} (h : F.masonrybook_Book_putSpans b w R) (hR : ∀ w', R  w' → R'  w') : F.masonrybook_Book_putSpans b w R' :=
  Calls.mono h fun e w' hx => by
    obtain ⟨he, hr⟩ := hx
    exact ⟨he, hR  w' hr⟩
/-- (*masonrybook.Book).putPieces -/
def F.masonrybook_Book_putPieces (b : Option Addr) (w : World) (R : World → Prop) : Prop := RetT Pg [] 158 #[.pointer b] w R
theorem F.masonrybook_Book_putPieces_mono {b : Option Addr} {w : World} {R R' : World → Prop} (h : F.masonrybook_Book_putPieces b w R) (hR : ∀ w', R  w' → R'  w') : F.masonrybook_Book_putPieces b w R' :=
  Calls.mono h fun e w' hx => by
    obtain ⟨he, hr⟩ := hx
    exact ⟨he, hR  w' hr⟩
/-- (*masonrybook.Book).putEntries -/
def F.masonrybook_Book_putEntries (b : Option Addr) (w : World) (R : World → Prop) : Prop := RetT Pg [] 159 #[.pointer b] w R
theorem F.masonrybook_Book_putEntries_mono {b : Option Addr} {w : World} {R R' : World → Prop} (h : F.masonrybook_Book_putEntries b w R) (hR : ∀ w', R  w' → R'  w') : F.masonrybook_Book_putEntries b w R' :=
  Calls.mono h fun e w' hx => by
    obtain ⟨he, hr⟩ := hx
    exact ⟨he, hR  w' hr⟩
/-- (*masonrybook.Book).putObjects -/
def F.masonrybook_Book_putObjects (b : Option Addr) (w : World) (R : World → Prop) : Prop := RetT Pg [] 160 #[.pointer b] w R
theorem F.masonrybook_Book_putObjects_mono {b : Option Addr} {w : World} {R R' : World → Prop} (h : F.masonrybook_Book_putObjects b w R) (hR : ∀ w', R  w' → R'  w') : F.masonrybook_Book_putObjects b w R' :=
  Calls.mono h fun e w' hx => by
    obtain ⟨he, hr⟩ := hx
    exact ⟨he, hR  w' hr⟩
/-- (*masonrybook.Book).putWrites -/
def F.masonrybook_Book_putWrites (b : Option Addr) (w : World) (R : World → Prop) : Prop := RetT Pg [] 161 #[.pointer b] w R
theorem F.masonrybook_Book_putWrites_mono {b : Option Addr} {w : World} {R R' : World → Prop} (h : F.masonrybook_Book_putWrites b w R) (hR : ∀ w', R  w' → R'  w') : F.masonrybook_Book_putWrites b w R' :=
  Calls.mono h fun e w' hx => by
    obtain ⟨he, hr⟩ := hx
    exact ⟨he, hR  w' hr⟩
/-- (*masonrybook.Book).growTexts -/
def F.masonrybook_Book_growTexts (b : Option Addr) (w : World) (R : Sl → World → Prop) : Prop := RetT Pg [.one .slice] 162 #[.pointer b] w R
theorem F.masonrybook_Book_growTexts_mono {b : Option Addr} {w : World} {R R' : Sl → World → Prop} (h : F.masonrybook_Book_growTexts b w R) (hR : ∀ x0 w', R x0 w' → R' x0 w') : F.masonrybook_Book_growTexts b w R' :=
  Calls.mono h fun e w' hx => by
    obtain ⟨x0, he, hr⟩ := hx
    exact ⟨x0, he, hR x0 w' hr⟩
/-- (*masonrybook.Book).growInts -/
def F.masonrybook_Book_growInts (b : Option Addr) (w : World) (R : Sl → World → Prop) : Prop := RetT Pg [.one .slice] 163 #[.pointer b] w R
theorem F.masonrybook_Book_growInts_mono {b : Option Addr} {w : World} {R R' : Sl → World → Prop} (h : F.masonrybook_Book_growInts b w R) (hR : ∀ x0 w', R x0 w' → R' x0 w') : F.masonrybook_Book_growInts b w R' :=
  Calls.mono h fun e w' hx => by
    obtain ⟨x0, he, hr⟩ := hx
    exact ⟨x0, he, hR x0 w' hr⟩
/-- (*masonrybook.Book).growSpans -/
def F.masonrybook_Book_growSpans (b : Option Addr) (w : World) (R : Sl → World → Prop) : Prop := RetT Pg [.one .slice] 164 #[.pointer b] w R
theorem F.masonrybook_Book_growSpans_mono {b : Option Addr} {w : World} {R R' : Sl → World → Prop} (h : F.masonrybook_Book_growSpans b w R) (hR : ∀ x0 w', R x0 w' → R' x0 w') : F.masonrybook_Book_growSpans b w R' :=
  Calls.mono h fun e w' hx => by
    obtain ⟨x0, he, hr⟩ := hx
    exact ⟨x0, he, hR x0 w' hr⟩
/-- (*masonrybook.Book).growPieces -/
def F.masonrybook_Book_growPieces (b : Option Addr) (w : World) (R : Sl → World → Prop) : Prop := RetT Pg [.one .slice] 165 #[.pointer b] w R
theorem F.masonrybook_Book_growPieces_mono {b : Option Addr} {w : World} {R R' : Sl → World → Prop} (h : F.masonrybook_Book_growPieces b w R) (hR : ∀ x0 w', R x0 w' → R' x0 w') : F.masonrybook_Book_growPieces b w R' :=
  Calls.mono h fun e w' hx => by
    obtain ⟨x0, he, hr⟩ := hx
    exact ⟨x0, he, hR x0 w' hr⟩
/-- (*masonrybook.Book).growEntries -/
def F.masonrybook_Book_growEntries (b : Option Addr) (w : World) (R : Sl → World → Prop) : Prop := RetT Pg [.one .slice] 166 #[.pointer b] w R
theorem F.masonrybook_Book_growEntries_mono {b : Option Addr} {w : World} {R R' : Sl → World → Prop} (h : F.masonrybook_Book_growEntries b w R) (hR : ∀ x0 w', R x0 w' → R' x0 w') : F.masonrybook_Book_growEntries b w R' :=
  Calls.mono h fun e w' hx => by
    obtain ⟨x0, he, hr⟩ := hx
    exact ⟨x0, he, hR x0 w' hr⟩
/-- (*masonrybook.Book).growObjects -/
def F.masonrybook_Book_growObjects (b : Option Addr) (w : World) (R : Sl → World → Prop) : Prop := RetT Pg [.one .slice] 167 #[.pointer b] w R
theorem F.masonrybook_Book_growObjects_mono {b : Option Addr} {w : World} {R R' : Sl → World → Prop} (h : F.masonrybook_Book_growObjects b w R) (hR : ∀ x0 w', R x0 w' → R' x0 w') : F.masonrybook_Book_growObjects b w R' :=
  Calls.mono h fun e w' hx => by
    obtain ⟨x0, he, hr⟩ := hx
    exact ⟨x0, he, hR x0 w' hr⟩
/-- (*masonrybook.Book).growWrites -/
def F.masonrybook_Book_growWrites (b : Option Addr) (w : World) (R : Sl → World → Prop) : Prop := RetT Pg [.one .slice] 168 #[.pointer b] w R
theorem F.masonrybook_Book_growWrites_mono {b : Option Addr} {w : World} {R R' : Sl → World → Prop} (h : F.masonrybook_Book_growWrites b w R) (hR : ∀ x0 w', R x0 w' → R' x0 w') : F.masonrybook_Book_growWrites b w R' :=
  Calls.mono h fun e w' hx => by
    obtain ⟨x0, he, hr⟩ := hx
    exact ⟨x0, he, hR x0 w' hr⟩
/-- (*masonrybook.Book).growSteps -/
def F.masonrybook_Book_growSteps (b : Option Addr) (w : World) (R : Sl → World → Prop) : Prop := RetT Pg [.one .slice] 169 #[.pointer b] w R
theorem F.masonrybook_Book_growSteps_mono {b : Option Addr} {w : World} {R R' : Sl → World → Prop} (h : F.masonrybook_Book_growSteps b w R) (hR : ∀ x0 w', R x0 w' → R' x0 w') : F.masonrybook_Book_growSteps b w R' :=
  Calls.mono h fun e w' hx => by
    obtain ⟨x0, he, hr⟩ := hx
    exact ⟨x0, he, hR x0 w' hr⟩
/-- masonrybook.markedTexts -/
def F.masonrybook_markedTexts (l : Sl) (w : World) (R : Bool → World → Prop) : Prop := RetT Pg [.one .bool] 170 #[.slice l.a l.len l.cap] w R
theorem F.masonrybook_markedTexts_mono {l : Sl} {w : World} {R R' : Bool → World → Prop} (h : F.masonrybook_markedTexts l w R) (hR : ∀ x0 w', R x0 w' → R' x0 w') : F.masonrybook_markedTexts l w R' :=
  Calls.mono h fun e w' hx => by
    obtain ⟨x0, he, hr⟩ := hx
    exact ⟨x0, he, hR x0 w' hr⟩
/-- masonrybook.markedInts -/
def F.masonrybook_markedInts (l : Sl) (w : World) (R : Bool → World → Prop) : Prop := RetT Pg [.one .bool] 171 #[.slice l.a l.len l.cap] w R
theorem F.masonrybook_markedInts_mono {l : Sl} {w : World} {R R' : Bool → World → Prop} (h : F.masonrybook_markedInts l w R) (hR : ∀ x0 w', R x0 w' → R' x0 w') : F.masonrybook_markedInts l w R' :=
  Calls.mono h fun e w' hx => by
    obtain ⟨x0, he, hr⟩ := hx
    exact ⟨x0, he, hR x0 w' hr⟩
/-- masonrybook.markedSpans -/
def F.masonrybook_markedSpans (l : Sl) (w : World) (R : Bool → World → Prop) : Prop := RetT Pg [.one .bool] 172 #[.slice l.a l.len l.cap] w R
theorem F.masonrybook_markedSpans_mono {l : Sl} {w : World} {R R' : Bool → World → Prop} (h : F.masonrybook_markedSpans l w R) (hR : ∀ x0 w', R x0 w' → R' x0 w') : F.masonrybook_markedSpans l w R' :=
  Calls.mono h fun e w' hx => by
    obtain ⟨x0, he, hr⟩ := hx
    exact ⟨x0, he, hR x0 w' hr⟩
/-- masonrybook.markedPieces -/
def F.masonrybook_markedPieces (l : Sl) (w : World) (R : Bool → World → Prop) : Prop := RetT Pg [.one .bool] 173 #[.slice l.a l.len l.cap] w R
theorem F.masonrybook_markedPieces_mono {l : Sl} {w : World} {R R' : Bool → World → Prop} (h : F.masonrybook_markedPieces l w R) (hR : ∀ x0 w', R x0 w' → R' x0 w') : F.masonrybook_markedPieces l w R' :=
  Calls.mono h fun e w' hx => by
    obtain ⟨x0, he, hr⟩ := hx
    exact ⟨x0, he, hR x0 w' hr⟩
/-- masonrybook.markedEntries -/
def F.masonrybook_markedEntries (l : Sl) (w : World) (R : Bool → World → Prop) : Prop := RetT Pg [.one .bool] 174 #[.slice l.a l.len l.cap] w R
theorem F.masonrybook_markedEntries_mono {l : Sl} {w : World} {R R' : Bool → World → Prop} (h : F.masonrybook_markedEntries l w R) (hR : ∀ x0 w', R x0 w' → R' x0 w') : F.masonrybook_markedEntries l w R' :=
  Calls.mono h fun e w' hx => by
    obtain ⟨x0, he, hr⟩ := hx
    exact ⟨x0, he, hR x0 w' hr⟩
/-- masonrybook.markedObjects -/
def F.masonrybook_markedObjects (l : Sl) (w : World) (R : Bool → World → Prop) : Prop := RetT Pg [.one .bool] 175 #[.slice l.a l.len l.cap] w R
theorem F.masonrybook_markedObjects_mono {l : Sl} {w : World} {R R' : Bool → World → Prop} (h : F.masonrybook_markedObjects l w R) (hR : ∀ x0 w', R x0 w' → R' x0 w') : F.masonrybook_markedObjects l w R' :=
  Calls.mono h fun e w' hx => by
    obtain ⟨x0, he, hr⟩ := hx
    exact ⟨x0, he, hR x0 w' hr⟩
/-- masonrybook.markedWrites -/
def F.masonrybook_markedWrites (l : Sl) (w : World) (R : Bool → World → Prop) : Prop := RetT Pg [.one .bool] 176 #[.slice l.a l.len l.cap] w R
theorem F.masonrybook_markedWrites_mono {l : Sl} {w : World} {R R' : Bool → World → Prop} (h : F.masonrybook_markedWrites l w R) (hR : ∀ x0 w', R x0 w' → R' x0 w') : F.masonrybook_markedWrites l w R' :=
  Calls.mono h fun e w' hx => by
    obtain ⟨x0, he, hr⟩ := hx
    exact ⟨x0, he, hR x0 w' hr⟩
/-- masonrybook.markedSteps -/
def F.masonrybook_markedSteps (l : Sl) (w : World) (R : Bool → World → Prop) : Prop := RetT Pg [.one .bool] 177 #[.slice l.a l.len l.cap] w R
theorem F.masonrybook_markedSteps_mono {l : Sl} {w : World} {R R' : Bool → World → Prop} (h : F.masonrybook_markedSteps l w R) (hR : ∀ x0 w', R x0 w' → R' x0 w') : F.masonrybook_markedSteps l w R' :=
  Calls.mono h fun e w' hx => by
    obtain ⟨x0, he, hr⟩ := hx
    exact ⟨x0, he, hR x0 w' hr⟩
/-- masonrybook.copyTexts -/
def F.masonrybook_copyTexts (l : Sl) (w : World) (R : Sl → World → Prop) : Prop := RetT Pg [.one .slice] 178 #[.slice l.a l.len l.cap] w R
theorem F.masonrybook_copyTexts_mono {l : Sl} {w : World} {R R' : Sl → World → Prop} (h : F.masonrybook_copyTexts l w R) (hR : ∀ x0 w', R x0 w' → R' x0 w') : F.masonrybook_copyTexts l w R' :=
  Calls.mono h fun e w' hx => by
    obtain ⟨x0, he, hr⟩ := hx
    exact ⟨x0, he, hR x0 w' hr⟩
/-- masonrybook.SameTexts -/
def F.masonrybook_SameTexts (a : Sl) (b : Sl) (w : World) (R : Bool → World → Prop) : Prop := RetT Pg [.one .bool] 179 #[.slice a.a a.len a.cap, .slice b.a b.len b.cap] w R
theorem F.masonrybook_SameTexts_mono {a : Sl} {b : Sl} {w : World} {R R' : Bool → World → Prop} (h : F.masonrybook_SameTexts a b w R) (hR : ∀ x0 w', R x0 w' → R' x0 w') : F.masonrybook_SameTexts a b w R' :=
  Calls.mono h fun e w' hx => by
    obtain ⟨x0, he, hr⟩ := hx
    exact ⟨x0, he, hR x0 w' hr⟩
/-- (*bits.Out).Text -/
def F.bits_Out_Text (o : Option Addr) (l : Sl) (w : World) (R : Option Addr → World → Prop) : Prop := RetT Pg [.one .ptr] 180 #[.pointer o, .slice l.a l.len l.cap] w R
theorem F.bits_Out_Text_mono {o : Option Addr} {l : Sl} {w : World} {R R' : Option Addr → World → Prop} (h : F.bits_Out_Text o l w R) (hR : ∀ x0 w', R x0 w' → R' x0 w') : F.bits_Out_Text o l w R' :=
  Calls.mono h fun e w' hx => by
    obtain ⟨x0, he, hr⟩ := hx
    exact ⟨x0, he, hR x0 w' hr⟩
/-- crc.Seal -/
def F.crc_Seal (n : Int) (l : Sl) (w : World) (R : ByteArray → Int → World → Prop) : Prop := RetT Pg [.one .str, .one (.int .i64)] 181 #[.int .i64 n, .slice l.a l.len l.cap] w R
theorem F.crc_Seal_mono {n : Int} {l : Sl} {w : World} {R R' : ByteArray → Int → World → Prop} (h : F.crc_Seal n l w R) (hR : ∀ x0 x1 w', R x0 x1 w' → R' x0 x1 w') : F.crc_Seal n l w R' :=
  Calls.mono h fun e w' hx => by
    obtain ⟨x0, x1, he, hr⟩ := hx
    exact ⟨x0, x1, he, hR x0 x1 w' hr⟩
/-- chain.read -/
def F.chain_read (b : ByteArray) (w : World) (R : Int → Int → Int → Int → Int → ByteArray → Bool → World → Prop) : Prop := RetT Pg [.agg [.int .i64, .int .i64, .int .i64, .int .i64, .int .i64, .str], .one .bool] 182 #[.string b] w R
theorem F.chain_read_mono {b : ByteArray} {w : World} {R R' : Int → Int → Int → Int → Int → ByteArray → Bool → World → Prop} (h : F.chain_read b w R) (hR : ∀ x0 x1 x2 x3 x4 x5 x6 w', R x0 x1 x2 x3 x4 x5 x6 w' → R' x0 x1 x2 x3 x4 x5 x6 w') : F.chain_read b w R' :=
  Calls.mono h fun e w' hx => by
    obtain ⟨x0, x1, x2, x3, x4, x5, x6, he, hr⟩ := hx
    exact ⟨x0, x1, x2, x3, x4, x5, x6, he, hR x0 x1 x2 x3 x4 x5 x6 w' hr⟩
/-- (*wal.Wal).Up -/
def F.wal_Wal_Up (w' : Option Addr) (w : World) (R : Bool → World → Prop) : Prop := RetT Pg [.one .bool] 183 #[.pointer w'] w R
theorem F.wal_Wal_Up_mono {w' : Option Addr} {w : World} {R R' : Bool → World → Prop} (h : F.wal_Wal_Up w' w R) (hR : ∀ x0 w', R x0 w' → R' x0 w') : F.wal_Wal_Up w' w R' :=
  Calls.mono h fun e w' hx => by
    obtain ⟨x0, he, hr⟩ := hx
    exact ⟨x0, he, hR x0 w' hr⟩
/-- (*disk.Disk).Read -/
def F.disk_Disk_Read (d : Option Addr) (at_ : Int) (w : World) (R : ByteArray → Int → World → Prop) : Prop := RetT Pg [.one .str, .one (.int .i64)] 184 #[.pointer d, .int .i64 at_] w R
theorem F.disk_Disk_Read_mono {d : Option Addr} {at_ : Int} {w : World} {R R' : ByteArray → Int → World → Prop} (h : F.disk_Disk_Read d at_ w R) (hR : ∀ x0 x1 w', R x0 x1 w' → R' x0 x1 w') : F.disk_Disk_Read d at_ w R' :=
  Calls.mono h fun e w' hx => by
    obtain ⟨x0, x1, he, hr⟩ := hx
    exact ⟨x0, x1, he, hR x0 x1 w' hr⟩
/-- internal/stringslite.Clone -/
def F.stringslite_Clone (s : ByteArray) (w : World) (R : ByteArray → World → Prop) : Prop := RetT Pg [.one .str] 185 #[.string s] w R
theorem F.stringslite_Clone_mono {s : ByteArray} {w : World} {R R' : ByteArray → World → Prop} (h : F.stringslite_Clone s w R) (hR : ∀ x0 w', R x0 w' → R' x0 w') : F.stringslite_Clone s w R' :=
  Calls.mono h fun e w' hx => by
    obtain ⟨x0, he, hr⟩ := hx
    exact ⟨x0, he, hR x0 w' hr⟩
/-- (*bits.In).low -/
def F.bits_In_low (i : Option Addr) (size : Int) (w : World) (R : Int → World → Prop) : Prop := RetT Pg [.one (.int .i64)] 186 #[.pointer i, .int .i64 size] w R
theorem F.bits_In_low_mono {i : Option Addr} {size : Int} {w : World} {R R' : Int → World → Prop} (h : F.bits_In_low i size w R) (hR : ∀ x0 w', R x0 w' → R' x0 w') : F.bits_In_low i size w R' :=
  Calls.mono h fun e w' hx => by
    obtain ⟨x0, he, hr⟩ := hx
    exact ⟨x0, he, hR x0 w' hr⟩
/-- (*disk.Disk).Size -/
def F.disk_Disk_Size (d : Option Addr) (w : World) (R : Int → World → Prop) : Prop := RetT Pg [.one (.int .i64)] 187 #[.pointer d] w R
theorem F.disk_Disk_Size_mono {d : Option Addr} {w : World} {R R' : Int → World → Prop} (h : F.disk_Disk_Size d w R) (hR : ∀ x0 w', R x0 w' → R' x0 w') : F.disk_Disk_Size d w R' :=
  Calls.mono h fun e w' hx => by
    obtain ⟨x0, he, hr⟩ := hx
    exact ⟨x0, he, hR x0 w' hr⟩
/-- math/bits.Mul -/
def F.bits_Mul (x : Int) (y : Int) (w : World) (R : Int → Int → World → Prop) : Prop := RetT Pg [.one (.int .u64), .one (.int .u64)] 188 #[.int .u64 x, .int .u64 y] w R
theorem F.bits_Mul_mono {x : Int} {y : Int} {w : World} {R R' : Int → Int → World → Prop} (h : F.bits_Mul x y w R) (hR : ∀ x0 x1 w', R x0 x1 w' → R' x0 x1 w') : F.bits_Mul x y w R' :=
  Calls.mono h fun e w' hx => by
    obtain ⟨x0, x1, he, hr⟩ := hx
    exact ⟨x0, x1, he, hR x0 x1 w' hr⟩
/-- strings.HasPrefix -/
def F.strings_HasPrefix (s : ByteArray) (prefix_ : ByteArray) (w : World) (R : Bool → World → Prop) : Prop := RetT Pg [.one .bool] 189 #[.string s, .string prefix_] w R
theorem F.strings_HasPrefix_mono {s : ByteArray} {prefix_ : ByteArray} {w : World} {R R' : Bool → World → Prop} (h : F.strings_HasPrefix s prefix_ w R) (hR : ∀ x0 w', R x0 w' → R' x0 w') : F.strings_HasPrefix s prefix_ w R' :=
  Calls.mono h fun e w' hx => by
    obtain ⟨x0, he, hr⟩ := hx
    exact ⟨x0, he, hR x0 w' hr⟩
/-- (*strings.Builder).Grow -/
def F.strings_Builder_Grow (b : Option Addr) (n : Int) (w : World) (R : World → Prop) : Prop := RetT Pg [] 190 #[.pointer b, .int .i64 n] w R
theorem F.strings_Builder_Grow_mono {b : Option Addr} {n : Int} {w : World} {R R' : World → Prop} (h : F.strings_Builder_Grow b n w R) (hR : ∀ w', R  w' → R'  w') : F.strings_Builder_Grow b n w R' :=
  Calls.mono h fun e w' hx => by
    obtain ⟨he, hr⟩ := hx
    exact ⟨he, hR  w' hr⟩
/-- (*strings.Builder).WriteString -/
def F.strings_Builder_WriteString (b : Option Addr) (s : ByteArray) (w : World) (R : Int → Value → World → Prop) : Prop := RetT Pg [.one (.int .i64), .one .any] 191 #[.pointer b, .string s] w R
theorem F.strings_Builder_WriteString_mono {b : Option Addr} {s : ByteArray} {w : World} {R R' : Int → Value → World → Prop} (h : F.strings_Builder_WriteString b s w R) (hR : ∀ x0 x1 w', R x0 x1 w' → R' x0 x1 w') : F.strings_Builder_WriteString b s w R' :=
  Calls.mono h fun e w' hx => by
    obtain ⟨x0, x1, he, hr⟩ := hx
    exact ⟨x0, x1, he, hR x0 x1 w' hr⟩
/-- (*strings.Builder).Len -/
def F.strings_Builder_Len (b : Option Addr) (w : World) (R : Int → World → Prop) : Prop := RetT Pg [.one (.int .i64)] 192 #[.pointer b] w R
theorem F.strings_Builder_Len_mono {b : Option Addr} {w : World} {R R' : Int → World → Prop} (h : F.strings_Builder_Len b w R) (hR : ∀ x0 w', R x0 w' → R' x0 w') : F.strings_Builder_Len b w R' :=
  Calls.mono h fun e w' hx => by
    obtain ⟨x0, he, hr⟩ := hx
    exact ⟨x0, he, hR x0 w' hr⟩
/-- (*strings.Builder).String -/
def F.strings_Builder_String (b : Option Addr) (w : World) (R : ByteArray → World → Prop) : Prop := RetT Pg [.one .str] 193 #[.pointer b] w R
theorem F.strings_Builder_String_mono {b : Option Addr} {w : World} {R R' : ByteArray → World → Prop} (h : F.strings_Builder_String b w R) (hR : ∀ x0 w', R x0 w' → R' x0 w') : F.strings_Builder_String b w R' :=
  Calls.mono h fun e w' hx => by
    obtain ⟨x0, he, hr⟩ := hx
    exact ⟨x0, he, hR x0 w' hr⟩
/-- (*disk.Disk).Flush -/
def F.disk_Disk_Flush (d : Option Addr) (w : World) (R : Int → World → Prop) : Prop := RetT Pg [.one (.int .i64)] 194 #[.pointer d] w R
theorem F.disk_Disk_Flush_mono {d : Option Addr} {w : World} {R R' : Int → World → Prop} (h : F.disk_Disk_Flush d w R) (hR : ∀ x0 w', R x0 w' → R' x0 w') : F.disk_Disk_Flush d w R' :=
  Calls.mono h fun e w' hx => by
    obtain ⟨x0, he, hr⟩ := hx
    exact ⟨x0, he, hR x0 w' hr⟩
/-- (*bits.Out).Raw -/
def F.bits_Out_Raw (o : Option Addr) (l : Sl) (w : World) (R : Option Addr → World → Prop) : Prop := RetT Pg [.one .ptr] 195 #[.pointer o, .slice l.a l.len l.cap] w R
theorem F.bits_Out_Raw_mono {o : Option Addr} {l : Sl} {w : World} {R R' : Option Addr → World → Prop} (h : F.bits_Out_Raw o l w R) (hR : ∀ x0 w', R x0 w' → R' x0 w') : F.bits_Out_Raw o l w R' :=
  Calls.mono h fun e w' hx => by
    obtain ⟨x0, he, hr⟩ := hx
    exact ⟨x0, he, hR x0 w' hr⟩
/-- (*wal.Wal).last -/
def F.wal_Wal_last (w' : Option Addr) (l : Sl) (w : World) (R : Option Nat → Int → World → Prop) : Prop := RetT Pg [.one .map, .one (.int .i64)] 196 #[.pointer w', .slice l.a l.len l.cap] w R
theorem F.wal_Wal_last_mono {w' : Option Addr} {l : Sl} {w : World} {R R' : Option Nat → Int → World → Prop} (h : F.wal_Wal_last w' l w R) (hR : ∀ x0 x1 w', R x0 x1 w' → R' x0 x1 w') : F.wal_Wal_last w' l w R' :=
  Calls.mono h fun e w' hx => by
    obtain ⟨x0, x1, he, hr⟩ := hx
    exact ⟨x0, x1, he, hR x0 x1 w' hr⟩
/-- slices.Sorted[int] -/
def F.slices_Sorted_int (seq : Value) (w : World) (R : Sl → World → Prop) : Prop := RetT Pg [.one .slice] 197 #[seq] w R
theorem F.slices_Sorted_int_mono {seq : Value} {w : World} {R R' : Sl → World → Prop} (h : F.slices_Sorted_int seq w R) (hR : ∀ x0 w', R x0 w' → R' x0 w') : F.slices_Sorted_int seq w R' :=
  Calls.mono h fun e w' hx => by
    obtain ⟨x0, he, hr⟩ := hx
    exact ⟨x0, he, hR x0 w' hr⟩
/-- maps.Keys[map[int]string,int,string] -/
def F.maps_Keys_map_int_string_int_string (m : Option Nat) (w : World) (R : Value → World → Prop) : Prop := RetT Pg [.one .any] 198 #[.map m] w R
theorem F.maps_Keys_map_int_string_int_string_mono {m : Option Nat} {w : World} {R R' : Value → World → Prop} (h : F.maps_Keys_map_int_string_int_string m w R) (hR : ∀ x0 w', R x0 w' → R' x0 w') : F.maps_Keys_map_int_string_int_string m w R' :=
  Calls.mono h fun e w' hx => by
    obtain ⟨x0, he, hr⟩ := hx
    exact ⟨x0, he, hR x0 w' hr⟩
/-- (*wal.Wal).put -/
def F.wal_Wal_put (w' : Option Addr) (l : Sl) (w : World) (R : Int → World → Prop) : Prop := RetT Pg [.one (.int .i64)] 199 #[.pointer w', .slice l.a l.len l.cap] w R
theorem F.wal_Wal_put_mono {w' : Option Addr} {l : Sl} {w : World} {R R' : Int → World → Prop} (h : F.wal_Wal_put w' l w R) (hR : ∀ x0 w', R x0 w' → R' x0 w') : F.wal_Wal_put w' l w R' :=
  Calls.mono h fun e w' hx => by
    obtain ⟨x0, he, hr⟩ := hx
    exact ⟨x0, he, hR x0 w' hr⟩
/-- (*wal.Wal).putHead -/
def F.wal_Wal_putHead (w' : Option Addr) (h_0 : Int) (h_1 : Bool) (h_2 : Sl) (w : World) (R : Int → World → Prop) : Prop := RetT Pg [.one (.int .i64)] 200 #[.pointer w', .agg #[.int .i64 h_0, .bool h_1, .slice h_2.a h_2.len h_2.cap]] w R
theorem F.wal_Wal_putHead_mono {w' : Option Addr} {h_0 : Int} {h_1 : Bool} {h_2 : Sl} {w : World} {R R' : Int → World → Prop} (h : F.wal_Wal_putHead w' h_0 h_1 h_2 w R) (hR : ∀ x0 w', R x0 w' → R' x0 w') : F.wal_Wal_putHead w' h_0 h_1 h_2 w R' :=
  Calls.mono h fun e w' hx => by
    obtain ⟨x0, he, hr⟩ := hx
    exact ⟨x0, he, hR x0 w' hr⟩
/-- head.Next -/
def F.head_Next (h_0 : Int) (h_1 : Bool) (h_2 : Sl) (targets : Sl) (w : World) (R : Int → Bool → Sl → World → Prop) : Prop := RetT Pg [.agg [.int .i64, .bool, .slice]] 201 #[.agg #[.int .i64 h_0, .bool h_1, .slice h_2.a h_2.len h_2.cap], .slice targets.a targets.len targets.cap] w R
theorem F.head_Next_mono {h_0 : Int} {h_1 : Bool} {h_2 : Sl} {targets : Sl} {w : World} {R R' : Int → Bool → Sl → World → Prop} (h : F.head_Next h_0 h_1 h_2 targets w R) (hR : ∀ x0 x1 x2 w', R x0 x1 x2 w' → R' x0 x1 x2 w') : F.head_Next h_0 h_1 h_2 targets w R' :=
  Calls.mono h fun e w' hx => by
    obtain ⟨x0, x1, x2, he, hr⟩ := hx
    exact ⟨x0, x1, x2, he, hR x0 x1 x2 w' hr⟩
/-- (*wal.Wal).write -/
def F.wal_Wal_write (w' : Option Addr) (l : Sl) (w : World) (R : Int → World → Prop) : Prop := RetT Pg [.one (.int .i64)] 202 #[.pointer w', .slice l.a l.len l.cap] w R
theorem F.wal_Wal_write_mono {w' : Option Addr} {l : Sl} {w : World} {R R' : Int → World → Prop} (h : F.wal_Wal_write w' l w R) (hR : ∀ x0 w', R x0 w' → R' x0 w') : F.wal_Wal_write w' l w R' :=
  Calls.mono h fun e w' hx => by
    obtain ⟨x0, he, hr⟩ := hx
    exact ⟨x0, he, hR x0 w' hr⟩
/-- slices.Clone[[]bool,bool] -/
def F.slices_Clone_sl_bool_bool (s : Sl) (w : World) (R : Sl → World → Prop) : Prop := RetT Pg [.one .slice] 203 #[.slice s.a s.len s.cap] w R
theorem F.slices_Clone_sl_bool_bool_mono {s : Sl} {w : World} {R R' : Sl → World → Prop} (h : F.slices_Clone_sl_bool_bool s w R) (hR : ∀ x0 w', R x0 w' → R' x0 w') : F.slices_Clone_sl_bool_bool s w R' :=
  Calls.mono h fun e w' hx => by
    obtain ⟨x0, he, hr⟩ := hx
    exact ⟨x0, he, hR x0 w' hr⟩
/-- sort.Search -/
def F.sort_Search (n : Int) (f : Value) (w : World) (R : Int → World → Prop) : Prop := RetT Pg [.one (.int .i64)] 205 #[.int .i64 n, f] w R
theorem F.sort_Search_mono {n : Int} {f : Value} {w : World} {R R' : Int → World → Prop} (h : F.sort_Search n f w R) (hR : ∀ x0 w', R x0 w' → R' x0 w') : F.sort_Search n f w R' :=
  Calls.mono h fun e w' hx => by
    obtain ⟨x0, he, hr⟩ := hx
    exact ⟨x0, he, hR x0 w' hr⟩
/-- table.Find$1 -/
def F.table_Find_fn1 (i : Int) (c : Addr) (c' : Addr) (w : World) (R : Bool → World → Prop) : Prop := RetT Pg [.one .bool] 206 #[.int .i64 i, .pointer (some c), .pointer (some c')] w R
theorem F.table_Find_fn1_mono {i : Int} {c : Addr} {c' : Addr} {w : World} {R R' : Bool → World → Prop} (h : F.table_Find_fn1 i c c' w R) (hR : ∀ x0 w', R x0 w' → R' x0 w') : F.table_Find_fn1 i c c' w R' :=
  Calls.mono h fun e w' hx => by
    obtain ⟨x0, he, hr⟩ := hx
    exact ⟨x0, he, hR x0 w' hr⟩
/-- (*bits.In).Raw -/
def F.bits_In_Raw (i : Option Addr) (n : Int) (w : World) (R : ByteArray → World → Prop) : Prop := RetT Pg [.one .str] 207 #[.pointer i, .int .i64 n] w R
theorem F.bits_In_Raw_mono {i : Option Addr} {n : Int} {w : World} {R R' : ByteArray → World → Prop} (h : F.bits_In_Raw i n w R) (hR : ∀ x0 w', R x0 w' → R' x0 w') : F.bits_In_Raw i n w R' :=
  Calls.mono h fun e w' hx => by
    obtain ⟨x0, he, hr⟩ := hx
    exact ⟨x0, he, hR x0 w' hr⟩
/-- (*bits.In).End -/
def F.bits_In_End (i : Option Addr) (w : World) (R : Int → World → Prop) : Prop := RetT Pg [.one (.int .i64)] 208 #[.pointer i] w R
theorem F.bits_In_End_mono {i : Option Addr} {w : World} {R R' : Int → World → Prop} (h : F.bits_In_End i w R) (hR : ∀ x0 w', R x0 w' → R' x0 w') : F.bits_In_End i w R' :=
  Calls.mono h fun e w' hx => by
    obtain ⟨x0, he, hr⟩ := hx
    exact ⟨x0, he, hR x0 w' hr⟩
/-- strings.Trim -/
def F.strings_Trim (s : ByteArray) (cutset : ByteArray) (w : World) (R : ByteArray → World → Prop) : Prop := RetT Pg [.one .str] 209 #[.string s, .string cutset] w R
theorem F.strings_Trim_mono {s : ByteArray} {cutset : ByteArray} {w : World} {R R' : ByteArray → World → Prop} (h : F.strings_Trim s cutset w R) (hR : ∀ x0 w', R x0 w' → R' x0 w') : F.strings_Trim s cutset w R' :=
  Calls.mono h fun e w' hx => by
    obtain ⟨x0, he, hr⟩ := hx
    exact ⟨x0, he, hR x0 w' hr⟩
/-- head.Read -/
def F.head_Read (b : ByteArray) (w : World) (R : Int → Bool → Sl → Int → World → Prop) : Prop := RetT Pg [.agg [.int .i64, .bool, .slice], .one (.int .i64)] 210 #[.string b] w R
theorem F.head_Read_mono {b : ByteArray} {w : World} {R R' : Int → Bool → Sl → Int → World → Prop} (h : F.head_Read b w R) (hR : ∀ x0 x1 x2 x3 w', R x0 x1 x2 x3 w' → R' x0 x1 x2 x3 w') : F.head_Read b w R' :=
  Calls.mono h fun e w' hx => by
    obtain ⟨x0, x1, x2, x3, he, hr⟩ := hx
    exact ⟨x0, x1, x2, x3, he, hR x0 x1 x2 x3 w' hr⟩
/-- (*wal.Wal).logged -/
def F.wal_Wal_logged (w' : Option Addr) (w : World) (R : Sl → Int → World → Prop) : Prop := RetT Pg [.one .slice, .one (.int .i64)] 211 #[.pointer w'] w R
theorem F.wal_Wal_logged_mono {w' : Option Addr} {w : World} {R R' : Sl → Int → World → Prop} (h : F.wal_Wal_logged w' w R) (hR : ∀ x0 x1 w', R x0 x1 w' → R' x0 x1 w') : F.wal_Wal_logged w' w R' :=
  Calls.mono h fun e w' hx => by
    obtain ⟨x0, x1, he, hr⟩ := hx
    exact ⟨x0, x1, he, hR x0 x1 w' hr⟩
/-- crc.Open -/
def F.crc_Open (b : ByteArray) (w : World) (R : ByteArray → Int → World → Prop) : Prop := RetT Pg [.one .str, .one (.int .i64)] 212 #[.string b] w R
theorem F.crc_Open_mono {b : ByteArray} {w : World} {R R' : ByteArray → Int → World → Prop} (h : F.crc_Open b w R) (hR : ∀ x0 x1 w', R x0 x1 w' → R' x0 x1 w') : F.crc_Open b w R' :=
  Calls.mono h fun e w' hx => by
    obtain ⟨x0, x1, he, hr⟩ := hx
    exact ⟨x0, x1, he, hR x0 x1 w' hr⟩
/-- (*disk.Disk).may -/
def F.disk_Disk_may (d : Option Addr) (at_ : Int) (w : World) (R : Int → World → Prop) : Prop := RetT Pg [.one (.int .i64)] 213 #[.pointer d, .int .i64 at_] w R
theorem F.disk_Disk_may_mono {d : Option Addr} {at_ : Int} {w : World} {R R' : Int → World → Prop} (h : F.disk_Disk_may d at_ w R) (hR : ∀ x0 w', R x0 w' → R' x0 w') : F.disk_Disk_may d at_ w R' :=
  Calls.mono h fun e w' hx => by
    obtain ⟨x0, he, hr⟩ := hx
    exact ⟨x0, he, hR x0 w' hr⟩
/-- (*disk.Disk).goes -/
def F.disk_Disk_goes (d : Option Addr) (w : World) (R : Bool → World → Prop) : Prop := RetT Pg [.one .bool] 214 #[.pointer d] w R
theorem F.disk_Disk_goes_mono {d : Option Addr} {w : World} {R R' : Bool → World → Prop} (h : F.disk_Disk_goes d w R) (hR : ∀ x0 w', R x0 w' → R' x0 w') : F.disk_Disk_goes d w R' :=
  Calls.mono h fun e w' hx => by
    obtain ⟨x0, he, hr⟩ := hx
    exact ⟨x0, he, hR x0 w' hr⟩
/-- slices.BinarySearchFunc[[]api.Write,api.Write,int] -/
def F.slices_BinarySearchFunc_sl_api_Write_api_Write_int (x : Sl) (target : Int) (cmp : Value) (w : World) (R : Int → Bool → World → Prop) : Prop := RetT Pg [.one (.int .i64), .one .bool] 215 #[.slice x.a x.len x.cap, .int .i64 target, cmp] w R
theorem F.slices_BinarySearchFunc_sl_api_Write_api_Write_int_mono {x : Sl} {target : Int} {cmp : Value} {w : World} {R R' : Int → Bool → World → Prop} (h : F.slices_BinarySearchFunc_sl_api_Write_api_Write_int x target cmp w R) (hR : ∀ x0 x1 w', R x0 x1 w' → R' x0 x1 w') : F.slices_BinarySearchFunc_sl_api_Write_api_Write_int x target cmp w R' :=
  Calls.mono h fun e w' hx => by
    obtain ⟨x0, x1, he, hr⟩ := hx
    exact ⟨x0, x1, he, hR x0 x1 w' hr⟩
/-- (*desk.Desk).written$1 -/
def F.desk_Desk_written_fn1 (w_0 : Int) (w_1 : ByteArray) (at_ : Int) (w : World) (R : Int → World → Prop) : Prop := RetT Pg [.one (.int .i64)] 216 #[.agg #[.int .i64 w_0, .string w_1], .int .i64 at_] w R
theorem F.desk_Desk_written_fn1_mono {w_0 : Int} {w_1 : ByteArray} {at_ : Int} {w : World} {R R' : Int → World → Prop} (h : F.desk_Desk_written_fn1 w_0 w_1 at_ w R) (hR : ∀ x0 w', R x0 w' → R' x0 w') : F.desk_Desk_written_fn1 w_0 w_1 at_ w R' :=
  Calls.mono h fun e w' hx => by
    obtain ⟨x0, he, hr⟩ := hx
    exact ⟨x0, he, hR x0 w' hr⟩
/-- slices.Insert[[]api.Write,api.Write] -/
def F.slices_Insert_sl_api_Write_api_Write (s : Sl) (i : Int) (v : Sl) (w : World) (R : Sl → World → Prop) : Prop := RetT Pg [.one .slice] 217 #[.slice s.a s.len s.cap, .int .i64 i, .slice v.a v.len v.cap] w R
theorem F.slices_Insert_sl_api_Write_api_Write_mono {s : Sl} {i : Int} {v : Sl} {w : World} {R R' : Sl → World → Prop} (h : F.slices_Insert_sl_api_Write_api_Write s i v w R) (hR : ∀ x0 w', R x0 w' → R' x0 w') : F.slices_Insert_sl_api_Write_api_Write s i v w R' :=
  Calls.mono h fun e w' hx => by
    obtain ⟨x0, he, hr⟩ := hx
    exact ⟨x0, he, hR x0 w' hr⟩
/-- slices.Index[[]bool,bool] -/
def F.slices_Index_sl_bool_bool (s : Sl) (v : Bool) (w : World) (R : Int → World → Prop) : Prop := RetT Pg [.one (.int .i64)] 218 #[.slice s.a s.len s.cap, .bool v] w R
theorem F.slices_Index_sl_bool_bool_mono {s : Sl} {v : Bool} {w : World} {R R' : Int → World → Prop} (h : F.slices_Index_sl_bool_bool s v w R) (hR : ∀ x0 w', R x0 w' → R' x0 w') : F.slices_Index_sl_bool_bool s v w R' :=
  Calls.mono h fun e w' hx => by
    obtain ⟨x0, he, hr⟩ := hx
    exact ⟨x0, he, hR x0 w' hr⟩
/-- slices.Index[[]int,int] -/
def F.slices_Index_sl_int_int (s : Sl) (v : Int) (w : World) (R : Int → World → Prop) : Prop := RetT Pg [.one (.int .i64)] 219 #[.slice s.a s.len s.cap, .int .i64 v] w R
theorem F.slices_Index_sl_int_int_mono {s : Sl} {v : Int} {w : World} {R R' : Int → World → Prop} (h : F.slices_Index_sl_int_int s v w R) (hR : ∀ x0 w', R x0 w' → R' x0 w') : F.slices_Index_sl_int_int s v w R' :=
  Calls.mono h fun e w' hx => by
    obtain ⟨x0, he, hr⟩ := hx
    exact ⟨x0, he, hR x0 w' hr⟩
/-- masonryref1.Seal -/
def F.masonryref1_Seal (n : Int) (s : ByteArray) (w : World) (R : ByteArray → Int → World → Prop) : Prop := RetT Pg [.one .str, .one (.int .i64)] 220 #[.int .i64 n, .string s] w R
theorem F.masonryref1_Seal_mono {n : Int} {s : ByteArray} {w : World} {R R' : ByteArray → Int → World → Prop} (h : F.masonryref1_Seal n s w R) (hR : ∀ x0 x1 w', R x0 x1 w' → R' x0 x1 w') : F.masonryref1_Seal n s w R' :=
  Calls.mono h fun e w' hx => by
    obtain ⟨x0, x1, he, hr⟩ := hx
    exact ⟨x0, x1, he, hR x0 x1 w' hr⟩
/-- masonryref1.Pad -/
def F.masonryref1_Pad (n : Int) (w : World) (R : ByteArray → World → Prop) : Prop := RetT Pg [.one .str] 221 #[.int .i64 n] w R
theorem F.masonryref1_Pad_mono {n : Int} {w : World} {R R' : ByteArray → World → Prop} (h : F.masonryref1_Pad n w R) (hR : ∀ x0 w', R x0 w' → R' x0 w') : F.masonryref1_Pad n w R' :=
  Calls.mono h fun e w' hx => by
    obtain ⟨x0, he, hr⟩ := hx
    exact ⟨x0, he, hR x0 w' hr⟩
/-- masonryref1.word -/
def F.masonryref1_word (s : ByteArray) (w : World) (R : Int → World → Prop) : Prop := RetT Pg [.one (.int .u32)] 222 #[.string s] w R
theorem F.masonryref1_word_mono {s : ByteArray} {w : World} {R R' : Int → World → Prop} (h : F.masonryref1_word s w R) (hR : ∀ x0 w', R x0 w' → R' x0 w') : F.masonryref1_word s w R' :=
  Calls.mono h fun e w' hx => by
    obtain ⟨x0, he, hr⟩ := hx
    exact ⟨x0, he, hR x0 w' hr⟩
/-- masonryref1.turn -/
def F.masonryref1_turn (x : Int) (n : Int) (w : World) (R : Int → World → Prop) : Prop := RetT Pg [.one (.int .u32)] 223 #[.int .u32 x, .int .i64 n] w R
theorem F.masonryref1_turn_mono {x : Int} {n : Int} {w : World} {R R' : Int → World → Prop} (h : F.masonryref1_turn x n w R) (hR : ∀ x0 w', R x0 w' → R' x0 w') : F.masonryref1_turn x n w R' :=
  Calls.mono h fun e w' hx => by
    obtain ⟨x0, he, hr⟩ := hx
    exact ⟨x0, he, hR x0 w' hr⟩
/-- masonryref1.High -/
def F.masonryref1_High (v : Int) (n : Int) (w : World) (R : ByteArray → World → Prop) : Prop := RetT Pg [.one .str] 224 #[.int .u64 v, .int .i64 n] w R
theorem F.masonryref1_High_mono {v : Int} {n : Int} {w : World} {R R' : ByteArray → World → Prop} (h : F.masonryref1_High v n w R) (hR : ∀ x0 w', R x0 w' → R' x0 w') : F.masonryref1_High v n w R' :=
  Calls.mono h fun e w' hx => by
    obtain ⟨x0, he, hr⟩ := hx
    exact ⟨x0, he, hR x0 w' hr⟩
/-- masonryref1.Keys -/
def F.masonryref1_Keys (w : World) (R : Sl → World → Prop) : Prop := RetT Pg [.one .slice] 225 #[] w R
theorem F.masonryref1_Keys_mono {w : World} {R R' : Sl → World → Prop} (h : F.masonryref1_Keys  w R) (hR : ∀ x0 w', R x0 w' → R' x0 w') : F.masonryref1_Keys  w R' :=
  Calls.mono h fun e w' hx => by
    obtain ⟨x0, he, hr⟩ := hx
    exact ⟨x0, he, hR x0 w' hr⟩
/-- mark.Size -/
def F.mark_Size (kind : Int) (w : World) (R : Int → World → Prop) : Prop := RetT Pg [.one (.int .i64)] 226 #[.int .i64 kind] w R
theorem F.mark_Size_mono {kind : Int} {w : World} {R R' : Int → World → Prop} (h : F.mark_Size kind w R) (hR : ∀ x0 w', R x0 w' → R' x0 w') : F.mark_Size kind w R' :=
  Calls.mono h fun e w' hx => by
    obtain ⟨x0, he, hr⟩ := hx
    exact ⟨x0, he, hR x0 w' hr⟩
/-- mark.Valid -/
def F.mark_Valid (p_0 : Int) (p_1 : ByteArray) (w : World) (R : Bool → World → Prop) : Prop := RetT Pg [.one .bool] 227 #[.agg #[.int .i64 p_0, .string p_1]] w R
theorem F.mark_Valid_mono {p_0 : Int} {p_1 : ByteArray} {w : World} {R R' : Bool → World → Prop} (h : F.mark_Valid p_0 p_1 w R) (hR : ∀ x0 w', R x0 w' → R' x0 w') : F.mark_Valid p_0 p_1 w R' :=
  Calls.mono h fun e w' hx => by
    obtain ⟨x0, he, hr⟩ := hx
    exact ⟨x0, he, hR x0 w' hr⟩
/-- (*bits.In).Rest -/
def F.bits_In_Rest (i : Option Addr) (w : World) (R : Bool → World → Prop) : Prop := RetT Pg [.one .bool] 228 #[.pointer i] w R
theorem F.bits_In_Rest_mono {i : Option Addr} {w : World} {R R' : Bool → World → Prop} (h : F.bits_In_Rest i w R) (hR : ∀ x0 w', R x0 w' → R' x0 w') : F.bits_In_Rest i w R' :=
  Calls.mono h fun e w' hx => by
    obtain ⟨x0, he, hr⟩ := hx
    exact ⟨x0, he, hR x0 w' hr⟩
/-- shaone.Sum -/
def F.shaone_Sum (l : Sl) (w : World) (R : ByteArray → World → Prop) : Prop := RetT Pg [.one .str] 229 #[.slice l.a l.len l.cap] w R
theorem F.shaone_Sum_mono {l : Sl} {w : World} {R R' : ByteArray → World → Prop} (h : F.shaone_Sum l w R) (hR : ∀ x0 w', R x0 w' → R' x0 w') : F.shaone_Sum l w R' :=
  Calls.mono h fun e w' hx => by
    obtain ⟨x0, he, hr⟩ := hx
    exact ⟨x0, he, hR x0 w' hr⟩
/-- shatwo.Sum -/
def F.shatwo_Sum (l : Sl) (w : World) (R : ByteArray → World → Prop) : Prop := RetT Pg [.one .str] 230 #[.slice l.a l.len l.cap] w R
theorem F.shatwo_Sum_mono {l : Sl} {w : World} {R R' : ByteArray → World → Prop} (h : F.shatwo_Sum l w R) (hR : ∀ x0 w', R x0 w' → R' x0 w') : F.shatwo_Sum l w R' :=
  Calls.mono h fun e w' hx => by
    obtain ⟨x0, he, hr⟩ := hx
    exact ⟨x0, he, hR x0 w' hr⟩
/-- (*bits.Out).Pad -/
def F.bits_Out_Pad (o : Option Addr) (n : Int) (w : World) (R : Option Addr → World → Prop) : Prop := RetT Pg [.one .ptr] 231 #[.pointer o, .int .i64 n] w R
theorem F.bits_Out_Pad_mono {o : Option Addr} {n : Int} {w : World} {R R' : Option Addr → World → Prop} (h : F.bits_Out_Pad o n w R) (hR : ∀ x0 w', R x0 w' → R' x0 w') : F.bits_Out_Pad o n w R' :=
  Calls.mono h fun e w' hx => by
    obtain ⟨x0, he, hr⟩ := hx
    exact ⟨x0, he, hR x0 w' hr⟩
/-- (*bits.Out).lay -/
def F.bits_Out_lay (o : Option Addr) (size : Int) (l : Sl) (w : World) (R : Option Addr → World → Prop) : Prop := RetT Pg [.one .ptr] 232 #[.pointer o, .int .i64 size, .slice l.a l.len l.cap] w R
theorem F.bits_Out_lay_mono {o : Option Addr} {size : Int} {l : Sl} {w : World} {R R' : Option Addr → World → Prop} (h : F.bits_Out_lay o size l w R) (hR : ∀ x0 w', R x0 w' → R' x0 w') : F.bits_Out_lay o size l w R' :=
  Calls.mono h fun e w' hx => by
    obtain ⟨x0, he, hr⟩ := hx
    exact ⟨x0, he, hR x0 w' hr⟩
/-- masonrybook.SameSpans -/
def F.masonrybook_SameSpans (a : Sl) (b : Sl) (w : World) (R : Bool → World → Prop) : Prop := RetT Pg [.one .bool] 233 #[.slice a.a a.len a.cap, .slice b.a b.len b.cap] w R
theorem F.masonrybook_SameSpans_mono {a : Sl} {b : Sl} {w : World} {R R' : Bool → World → Prop} (h : F.masonrybook_SameSpans a b w R) (hR : ∀ x0 w', R x0 w' → R' x0 w') : F.masonrybook_SameSpans a b w R' :=
  Calls.mono h fun e w' hx => by
    obtain ⟨x0, he, hr⟩ := hx
    exact ⟨x0, he, hR x0 w' hr⟩
/-- masonrybook.SameEntries -/
def F.masonrybook_SameEntries (a : Sl) (b : Sl) (w : World) (R : Bool → World → Prop) : Prop := RetT Pg [.one .bool] 234 #[.slice a.a a.len a.cap, .slice b.a b.len b.cap] w R
theorem F.masonrybook_SameEntries_mono {a : Sl} {b : Sl} {w : World} {R R' : Bool → World → Prop} (h : F.masonrybook_SameEntries a b w R) (hR : ∀ x0 w', R x0 w' → R' x0 w') : F.masonrybook_SameEntries a b w R' :=
  Calls.mono h fun e w' hx => by
    obtain ⟨x0, he, hr⟩ := hx
    exact ⟨x0, he, hR x0 w' hr⟩
/-- masonrybook.SameObjects -/
def F.masonrybook_SameObjects (a : Sl) (b : Sl) (w : World) (R : Bool → World → Prop) : Prop := RetT Pg [.one .bool] 235 #[.slice a.a a.len a.cap, .slice b.a b.len b.cap] w R
theorem F.masonrybook_SameObjects_mono {a : Sl} {b : Sl} {w : World} {R R' : Bool → World → Prop} (h : F.masonrybook_SameObjects a b w R) (hR : ∀ x0 w', R x0 w' → R' x0 w') : F.masonrybook_SameObjects a b w R' :=
  Calls.mono h fun e w' hx => by
    obtain ⟨x0, he, hr⟩ := hx
    exact ⟨x0, he, hR x0 w' hr⟩
/-- masonrybook.SameWrites -/
def F.masonrybook_SameWrites (a : Sl) (b : Sl) (w : World) (R : Bool → World → Prop) : Prop := RetT Pg [.one .bool] 236 #[.slice a.a a.len a.cap, .slice b.a b.len b.cap] w R
theorem F.masonrybook_SameWrites_mono {a : Sl} {b : Sl} {w : World} {R R' : Bool → World → Prop} (h : F.masonrybook_SameWrites a b w R) (hR : ∀ x0 w', R x0 w' → R' x0 w') : F.masonrybook_SameWrites a b w R' :=
  Calls.mono h fun e w' hx => by
    obtain ⟨x0, he, hr⟩ := hx
    exact ⟨x0, he, hR x0 w' hr⟩
/-- masonrybook.SameSteps -/
def F.masonrybook_SameSteps (a : Sl) (b : Sl) (w : World) (R : Bool → World → Prop) : Prop := RetT Pg [.one .bool] 237 #[.slice a.a a.len a.cap, .slice b.a b.len b.cap] w R
theorem F.masonrybook_SameSteps_mono {a : Sl} {b : Sl} {w : World} {R R' : Bool → World → Prop} (h : F.masonrybook_SameSteps a b w R) (hR : ∀ x0 w', R x0 w' → R' x0 w') : F.masonrybook_SameSteps a b w R' :=
  Calls.mono h fun e w' hx => by
    obtain ⟨x0, he, hr⟩ := hx
    exact ⟨x0, he, hR x0 w' hr⟩
/-- masonrybook.markSteps -/
def F.masonrybook_markSteps (i : Int) (from_ : Int) (n : Int) (w : World) (R : Sl → World → Prop) : Prop := RetT Pg [.one .slice] 238 #[.int .i64 i, .int .i64 from_, .int .i64 n] w R
theorem F.masonrybook_markSteps_mono {i : Int} {from_ : Int} {n : Int} {w : World} {R R' : Sl → World → Prop} (h : F.masonrybook_markSteps i from_ n w R) (hR : ∀ x0 w', R x0 w' → R' x0 w') : F.masonrybook_markSteps i from_ n w R' :=
  Calls.mono h fun e w' hx => by
    obtain ⟨x0, he, hr⟩ := hx
    exact ⟨x0, he, hR x0 w' hr⟩
/-- masonrybook.markTexts -/
def F.masonrybook_markTexts (i : Int) (from_ : Int) (n : Int) (w : World) (R : Sl → World → Prop) : Prop := RetT Pg [.one .slice] 239 #[.int .i64 i, .int .i64 from_, .int .i64 n] w R
theorem F.masonrybook_markTexts_mono {i : Int} {from_ : Int} {n : Int} {w : World} {R R' : Sl → World → Prop} (h : F.masonrybook_markTexts i from_ n w R) (hR : ∀ x0 w', R x0 w' → R' x0 w') : F.masonrybook_markTexts i from_ n w R' :=
  Calls.mono h fun e w' hx => by
    obtain ⟨x0, he, hr⟩ := hx
    exact ⟨x0, he, hR x0 w' hr⟩
/-- masonrybook.markInts -/
def F.masonrybook_markInts (i : Int) (from_ : Int) (n : Int) (w : World) (R : Sl → World → Prop) : Prop := RetT Pg [.one .slice] 240 #[.int .i64 i, .int .i64 from_, .int .i64 n] w R
theorem F.masonrybook_markInts_mono {i : Int} {from_ : Int} {n : Int} {w : World} {R R' : Sl → World → Prop} (h : F.masonrybook_markInts i from_ n w R) (hR : ∀ x0 w', R x0 w' → R' x0 w') : F.masonrybook_markInts i from_ n w R' :=
  Calls.mono h fun e w' hx => by
    obtain ⟨x0, he, hr⟩ := hx
    exact ⟨x0, he, hR x0 w' hr⟩
/-- masonrybook.markSpans -/
def F.masonrybook_markSpans (i : Int) (from_ : Int) (n : Int) (w : World) (R : Sl → World → Prop) : Prop := RetT Pg [.one .slice] 241 #[.int .i64 i, .int .i64 from_, .int .i64 n] w R
theorem F.masonrybook_markSpans_mono {i : Int} {from_ : Int} {n : Int} {w : World} {R R' : Sl → World → Prop} (h : F.masonrybook_markSpans i from_ n w R) (hR : ∀ x0 w', R x0 w' → R' x0 w') : F.masonrybook_markSpans i from_ n w R' :=
  Calls.mono h fun e w' hx => by
    obtain ⟨x0, he, hr⟩ := hx
    exact ⟨x0, he, hR x0 w' hr⟩
/-- masonrybook.markPieces -/
def F.masonrybook_markPieces (i : Int) (from_ : Int) (n : Int) (w : World) (R : Sl → World → Prop) : Prop := RetT Pg [.one .slice] 242 #[.int .i64 i, .int .i64 from_, .int .i64 n] w R
theorem F.masonrybook_markPieces_mono {i : Int} {from_ : Int} {n : Int} {w : World} {R R' : Sl → World → Prop} (h : F.masonrybook_markPieces i from_ n w R) (hR : ∀ x0 w', R x0 w' → R' x0 w') : F.masonrybook_markPieces i from_ n w R' :=
  Calls.mono h fun e w' hx => by
    obtain ⟨x0, he, hr⟩ := hx
    exact ⟨x0, he, hR x0 w' hr⟩
/-- masonrybook.markEntries -/
def F.masonrybook_markEntries (i : Int) (from_ : Int) (n : Int) (w : World) (R : Sl → World → Prop) : Prop := RetT Pg [.one .slice] 243 #[.int .i64 i, .int .i64 from_, .int .i64 n] w R
theorem F.masonrybook_markEntries_mono {i : Int} {from_ : Int} {n : Int} {w : World} {R R' : Sl → World → Prop} (h : F.masonrybook_markEntries i from_ n w R) (hR : ∀ x0 w', R x0 w' → R' x0 w') : F.masonrybook_markEntries i from_ n w R' :=
  Calls.mono h fun e w' hx => by
    obtain ⟨x0, he, hr⟩ := hx
    exact ⟨x0, he, hR x0 w' hr⟩
/-- masonrybook.markObjects -/
def F.masonrybook_markObjects (i : Int) (from_ : Int) (n : Int) (w : World) (R : Sl → World → Prop) : Prop := RetT Pg [.one .slice] 244 #[.int .i64 i, .int .i64 from_, .int .i64 n] w R
theorem F.masonrybook_markObjects_mono {i : Int} {from_ : Int} {n : Int} {w : World} {R R' : Sl → World → Prop} (h : F.masonrybook_markObjects i from_ n w R) (hR : ∀ x0 w', R x0 w' → R' x0 w') : F.masonrybook_markObjects i from_ n w R' :=
  Calls.mono h fun e w' hx => by
    obtain ⟨x0, he, hr⟩ := hx
    exact ⟨x0, he, hR x0 w' hr⟩
/-- masonrybook.markWrites -/
def F.masonrybook_markWrites (i : Int) (from_ : Int) (n : Int) (w : World) (R : Sl → World → Prop) : Prop := RetT Pg [.one .slice] 245 #[.int .i64 i, .int .i64 from_, .int .i64 n] w R
theorem F.masonrybook_markWrites_mono {i : Int} {from_ : Int} {n : Int} {w : World} {R R' : Sl → World → Prop} (h : F.masonrybook_markWrites i from_ n w R) (hR : ∀ x0 w', R x0 w' → R' x0 w') : F.masonrybook_markWrites i from_ n w R' :=
  Calls.mono h fun e w' hx => by
    obtain ⟨x0, he, hr⟩ := hx
    exact ⟨x0, he, hR x0 w' hr⟩
/-- (*bits.Out).Word -/
def F.bits_Out_Word (o : Option Addr) (l : Sl) (w : World) (R : Option Addr → World → Prop) : Prop := RetT Pg [.one .ptr] 246 #[.pointer o, .slice l.a l.len l.cap] w R
theorem F.bits_Out_Word_mono {o : Option Addr} {l : Sl} {w : World} {R R' : Option Addr → World → Prop} (h : F.bits_Out_Word o l w R) (hR : ∀ x0 w', R x0 w' → R' x0 w') : F.bits_Out_Word o l w R' :=
  Calls.mono h fun e w' hx => by
    obtain ⟨x0, he, hr⟩ := hx
    exact ⟨x0, he, hR x0 w' hr⟩
/-- crc.Of -/
def F.crc_Of (l : Sl) (w : World) (R : Int → World → Prop) : Prop := RetT Pg [.one (.int .u32)] 247 #[.slice l.a l.len l.cap] w R
theorem F.crc_Of_mono {l : Sl} {w : World} {R R' : Int → World → Prop} (h : F.crc_Of l w R) (hR : ∀ x0 w', R x0 w' → R' x0 w') : F.crc_Of l w R' :=
  Calls.mono h fun e w' hx => by
    obtain ⟨x0, he, hr⟩ := hx
    exact ⟨x0, he, hR x0 w' hr⟩
/-- (*bits.In).Text -/
def F.bits_In_Text (i : Option Addr) (w : World) (R : ByteArray → World → Prop) : Prop := RetT Pg [.one .str] 248 #[.pointer i] w R
theorem F.bits_In_Text_mono {i : Option Addr} {w : World} {R R' : ByteArray → World → Prop} (h : F.bits_In_Text i w R) (hR : ∀ x0 w', R x0 w' → R' x0 w') : F.bits_In_Text i w R' :=
  Calls.mono h fun e w' hx => by
    obtain ⟨x0, he, hr⟩ := hx
    exact ⟨x0, he, hR x0 w' hr⟩
/-- math/bits.Mul32 -/
def F.bits_Mul32 (x : Int) (y : Int) (w : World) (R : Int → Int → World → Prop) : Prop := RetT Pg [.one (.int .u32), .one (.int .u32)] 249 #[.int .u32 x, .int .u32 y] w R
theorem F.bits_Mul32_mono {x : Int} {y : Int} {w : World} {R R' : Int → Int → World → Prop} (h : F.bits_Mul32 x y w R) (hR : ∀ x0 x1 w', R x0 x1 w' → R' x0 x1 w') : F.bits_Mul32 x y w R' :=
  Calls.mono h fun e w' hx => by
    obtain ⟨x0, x1, he, hr⟩ := hx
    exact ⟨x0, x1, he, hR x0 x1 w' hr⟩
/-- math/bits.Mul64 -/
def F.bits_Mul64 (x : Int) (y : Int) (w : World) (R : Int → Int → World → Prop) : Prop := RetT Pg [.one (.int .u64), .one (.int .u64)] 250 #[.int .u64 x, .int .u64 y] w R
theorem F.bits_Mul64_mono {x : Int} {y : Int} {w : World} {R R' : Int → Int → World → Prop} (h : F.bits_Mul64 x y w R) (hR : ∀ x0 x1 w', R x0 x1 w' → R' x0 x1 w') : F.bits_Mul64 x y w R' :=
  Calls.mono h fun e w' hx => by
    obtain ⟨x0, x1, he, hr⟩ := hx
    exact ⟨x0, x1, he, hR x0 x1 w' hr⟩
/-- internal/stringslite.HasPrefix -/
def F.stringslite_HasPrefix (s : ByteArray) (prefix_ : ByteArray) (w : World) (R : Bool → World → Prop) : Prop := RetT Pg [.one .bool] 251 #[.string s, .string prefix_] w R
theorem F.stringslite_HasPrefix_mono {s : ByteArray} {prefix_ : ByteArray} {w : World} {R R' : Bool → World → Prop} (h : F.stringslite_HasPrefix s prefix_ w R) (hR : ∀ x0 w', R x0 w' → R' x0 w') : F.stringslite_HasPrefix s prefix_ w R' :=
  Calls.mono h fun e w' hx => by
    obtain ⟨x0, he, hr⟩ := hx
    exact ⟨x0, he, hR x0 w' hr⟩
/-- (*strings.Builder).copyCheck -/
def F.strings_Builder_copyCheck (b : Option Addr) (w : World) (R : World → Prop) : Prop := RetT Pg [] 252 #[.pointer b] w R
theorem F.strings_Builder_copyCheck_mono {b : Option Addr} {w : World} {R R' : World → Prop} (h : F.strings_Builder_copyCheck b w R) (hR : ∀ w', R  w' → R'  w') : F.strings_Builder_copyCheck b w R' :=
  Calls.mono h fun e w' hx => by
    obtain ⟨he, hr⟩ := hx
    exact ⟨he, hR  w' hr⟩
/-- (*strings.Builder).grow -/
def F.strings_Builder_grow (b : Option Addr) (n : Int) (w : World) (R : World → Prop) : Prop := RetT Pg [] 253 #[.pointer b, .int .i64 n] w R
theorem F.strings_Builder_grow_mono {b : Option Addr} {n : Int} {w : World} {R R' : World → Prop} (h : F.strings_Builder_grow b n w R) (hR : ∀ w', R  w' → R'  w') : F.strings_Builder_grow b n w R' :=
  Calls.mono h fun e w' hx => by
    obtain ⟨he, hr⟩ := hx
    exact ⟨he, hR  w' hr⟩
/-- slices.Collect[int] -/
def F.slices_Collect_int (seq : Value) (w : World) (R : Sl → World → Prop) : Prop := RetT Pg [.one .slice] 254 #[seq] w R
theorem F.slices_Collect_int_mono {seq : Value} {w : World} {R R' : Sl → World → Prop} (h : F.slices_Collect_int seq w R) (hR : ∀ x0 w', R x0 w' → R' x0 w') : F.slices_Collect_int seq w R' :=
  Calls.mono h fun e w' hx => by
    obtain ⟨x0, he, hr⟩ := hx
    exact ⟨x0, he, hR x0 w' hr⟩
/-- slices.Sort[[]int,int] -/
def F.slices_Sort_sl_int_int (x : Sl) (w : World) (R : World → Prop) : Prop := RetT Pg [] 255 #[.slice x.a x.len x.cap] w R
theorem F.slices_Sort_sl_int_int_mono {x : Sl} {w : World} {R R' : World → Prop} (h : F.slices_Sort_sl_int_int x w R) (hR : ∀ w', R  w' → R'  w') : F.slices_Sort_sl_int_int x w R' :=
  Calls.mono h fun e w' hx => by
    obtain ⟨he, hr⟩ := hx
    exact ⟨he, hR  w' hr⟩
/-- maps.Keys[map[int]string,int,string]$1 -/
def F.maps_Keys_map_int_string_int_string__fn1 (yield : Value) (c : Addr) (w : World) (R : World → Prop) : Prop := RetT Pg [] 256 #[yield, .pointer (some c)] w R
theorem F.maps_Keys_map_int_string_int_string__fn1_mono {yield : Value} {c : Addr} {w : World} {R R' : World → Prop} (h : F.maps_Keys_map_int_string_int_string__fn1 yield c w R) (hR : ∀ w', R  w' → R'  w') : F.maps_Keys_map_int_string_int_string__fn1 yield c w R' :=
  Calls.mono h fun e w' hx => by
    obtain ⟨he, hr⟩ := hx
    exact ⟨he, hR  w' hr⟩
/-- head.Lay -/
def F.head_Lay (h_0 : Int) (h_1 : Bool) (h_2 : Sl) (w : World) (R : ByteArray → Int → World → Prop) : Prop := RetT Pg [.one .str, .one (.int .i64)] 257 #[.agg #[.int .i64 h_0, .bool h_1, .slice h_2.a h_2.len h_2.cap]] w R
theorem F.head_Lay_mono {h_0 : Int} {h_1 : Bool} {h_2 : Sl} {w : World} {R R' : ByteArray → Int → World → Prop} (h : F.head_Lay h_0 h_1 h_2 w R) (hR : ∀ x0 x1 w', R x0 x1 w' → R' x0 x1 w') : F.head_Lay h_0 h_1 h_2 w R' :=
  Calls.mono h fun e w' hx => by
    obtain ⟨x0, x1, he, hr⟩ := hx
    exact ⟨x0, x1, he, hR x0 x1 w' hr⟩
/-- slices.Compact[[]int,int] -/
def F.slices_Compact_sl_int_int (s : Sl) (w : World) (R : Sl → World → Prop) : Prop := RetT Pg [.one .slice] 258 #[.slice s.a s.len s.cap] w R
theorem F.slices_Compact_sl_int_int_mono {s : Sl} {w : World} {R R' : Sl → World → Prop} (h : F.slices_Compact_sl_int_int s w R) (hR : ∀ x0 w', R x0 w' → R' x0 w') : F.slices_Compact_sl_int_int s w R' :=
  Calls.mono h fun e w' hx => by
    obtain ⟨x0, he, hr⟩ := hx
    exact ⟨x0, he, hR x0 w' hr⟩
/-- head.Done -/
def F.head_Done (h_0 : Int) (h_1 : Bool) (h_2 : Sl) (w : World) (R : Int → Bool → Sl → World → Prop) : Prop := RetT Pg [.agg [.int .i64, .bool, .slice]] 259 #[.agg #[.int .i64 h_0, .bool h_1, .slice h_2.a h_2.len h_2.cap]] w R
theorem F.head_Done_mono {h_0 : Int} {h_1 : Bool} {h_2 : Sl} {w : World} {R R' : Int → Bool → Sl → World → Prop} (h : F.head_Done h_0 h_1 h_2 w R) (hR : ∀ x0 x1 x2 w', R x0 x1 x2 w' → R' x0 x1 x2 w') : F.head_Done h_0 h_1 h_2 w R' :=
  Calls.mono h fun e w' hx => by
    obtain ⟨x0, x1, x2, he, hr⟩ := hx
    exact ⟨x0, x1, x2, he, hR x0 x1 x2 w' hr⟩
/-- strings.trimLeftByte -/
def F.strings_trimLeftByte (s : ByteArray) (c : Int) (w : World) (R : ByteArray → World → Prop) : Prop := RetT Pg [.one .str] 260 #[.string s, .int .u8 c] w R
theorem F.strings_trimLeftByte_mono {s : ByteArray} {c : Int} {w : World} {R R' : ByteArray → World → Prop} (h : F.strings_trimLeftByte s c w R) (hR : ∀ x0 w', R x0 w' → R' x0 w') : F.strings_trimLeftByte s c w R' :=
  Calls.mono h fun e w' hx => by
    obtain ⟨x0, he, hr⟩ := hx
    exact ⟨x0, he, hR x0 w' hr⟩
/-- strings.trimRightByte -/
def F.strings_trimRightByte (s : ByteArray) (c : Int) (w : World) (R : ByteArray → World → Prop) : Prop := RetT Pg [.one .str] 261 #[.string s, .int .u8 c] w R
theorem F.strings_trimRightByte_mono {s : ByteArray} {c : Int} {w : World} {R R' : ByteArray → World → Prop} (h : F.strings_trimRightByte s c w R) (hR : ∀ x0 w', R x0 w' → R' x0 w') : F.strings_trimRightByte s c w R' :=
  Calls.mono h fun e w' hx => by
    obtain ⟨x0, he, hr⟩ := hx
    exact ⟨x0, he, hR x0 w' hr⟩
/-- strings.trimLeftASCII -/
def F.strings_trimLeftASCII (s : ByteArray) (as_ : Option Addr) (w : World) (R : ByteArray → World → Prop) : Prop := RetT Pg [.one .str] 263 #[.string s, .pointer as_] w R
theorem F.strings_trimLeftASCII_mono {s : ByteArray} {as_ : Option Addr} {w : World} {R R' : ByteArray → World → Prop} (h : F.strings_trimLeftASCII s as_ w R) (hR : ∀ x0 w', R x0 w' → R' x0 w') : F.strings_trimLeftASCII s as_ w R' :=
  Calls.mono h fun e w' hx => by
    obtain ⟨x0, he, hr⟩ := hx
    exact ⟨x0, he, hR x0 w' hr⟩
/-- strings.trimRightASCII -/
def F.strings_trimRightASCII (s : ByteArray) (as_ : Option Addr) (w : World) (R : ByteArray → World → Prop) : Prop := RetT Pg [.one .str] 264 #[.string s, .pointer as_] w R
theorem F.strings_trimRightASCII_mono {s : ByteArray} {as_ : Option Addr} {w : World} {R R' : ByteArray → World → Prop} (h : F.strings_trimRightASCII s as_ w R) (hR : ∀ x0 w', R x0 w' → R' x0 w') : F.strings_trimRightASCII s as_ w R' :=
  Calls.mono h fun e w' hx => by
    obtain ⟨x0, he, hr⟩ := hx
    exact ⟨x0, he, hR x0 w' hr⟩
/-- strings.trimLeftUnicode -/
def F.strings_trimLeftUnicode (s : ByteArray) (cutset : ByteArray) (w : World) (R : ByteArray → World → Prop) : Prop := RetT Pg [.one .str] 265 #[.string s, .string cutset] w R
theorem F.strings_trimLeftUnicode_mono {s : ByteArray} {cutset : ByteArray} {w : World} {R R' : ByteArray → World → Prop} (h : F.strings_trimLeftUnicode s cutset w R) (hR : ∀ x0 w', R x0 w' → R' x0 w') : F.strings_trimLeftUnicode s cutset w R' :=
  Calls.mono h fun e w' hx => by
    obtain ⟨x0, he, hr⟩ := hx
    exact ⟨x0, he, hR x0 w' hr⟩
/-- strings.trimRightUnicode -/
def F.strings_trimRightUnicode (s : ByteArray) (cutset : ByteArray) (w : World) (R : ByteArray → World → Prop) : Prop := RetT Pg [.one .str] 266 #[.string s, .string cutset] w R
theorem F.strings_trimRightUnicode_mono {s : ByteArray} {cutset : ByteArray} {w : World} {R R' : ByteArray → World → Prop} (h : F.strings_trimRightUnicode s cutset w R) (hR : ∀ x0 w', R x0 w' → R' x0 w') : F.strings_trimRightUnicode s cutset w R' :=
  Calls.mono h fun e w' hx => by
    obtain ⟨x0, he, hr⟩ := hx
    exact ⟨x0, he, hR x0 w' hr⟩
/-- (*bits.In).Long -/
def F.bits_In_Long (i : Option Addr) (w : World) (R : Int → World → Prop) : Prop := RetT Pg [.one (.int .i64)] 267 #[.pointer i] w R
theorem F.bits_In_Long_mono {i : Option Addr} {w : World} {R R' : Int → World → Prop} (h : F.bits_In_Long i w R) (hR : ∀ x0 w', R x0 w' → R' x0 w') : F.bits_In_Long i w R' :=
  Calls.mono h fun e w' hx => by
    obtain ⟨x0, he, hr⟩ := hx
    exact ⟨x0, he, hR x0 w' hr⟩
/-- (*bits.In).Word -/
def F.bits_In_Word (i : Option Addr) (w : World) (R : Int → World → Prop) : Prop := RetT Pg [.one (.int .i64)] 268 #[.pointer i] w R
theorem F.bits_In_Word_mono {i : Option Addr} {w : World} {R R' : Int → World → Prop} (h : F.bits_In_Word i w R) (hR : ∀ x0 w', R x0 w' → R' x0 w') : F.bits_In_Word i w R' :=
  Calls.mono h fun e w' hx => by
    obtain ⟨x0, he, hr⟩ := hx
    exact ⟨x0, he, hR x0 w' hr⟩
/-- slices.rotateRight[api.Write] -/
def F.slices_rotateRight_api_Write (s : Sl) (r : Int) (w : World) (R : World → Prop) : Prop := RetT Pg [] 270 #[.slice s.a s.len s.cap, .int .i64 r] w R
theorem F.slices_rotateRight_api_Write_mono {s : Sl} {r : Int} {w : World} {R R' : World → Prop} (h : F.slices_rotateRight_api_Write s r w R) (hR : ∀ w', R  w' → R'  w') : F.slices_rotateRight_api_Write s r w R' :=
  Calls.mono h fun e w' hx => by
    obtain ⟨he, hr⟩ := hx
    exact ⟨he, hR  w' hr⟩
/-- masonryref1.Crc -/
def F.masonryref1_Crc (s : ByteArray) (w : World) (R : Int → World → Prop) : Prop := RetT Pg [.one (.int .u32)] 271 #[.string s] w R
theorem F.masonryref1_Crc_mono {s : ByteArray} {w : World} {R R' : Int → World → Prop} (h : F.masonryref1_Crc s w R) (hR : ∀ x0 w', R x0 w' → R' x0 w') : F.masonryref1_Crc s w R' :=
  Calls.mono h fun e w' hx => by
    obtain ⟨x0, he, hr⟩ := hx
    exact ⟨x0, he, hR x0 w' hr⟩
/-- shaone.Pad -/
def F.shaone_Pad (n : Int) (w : World) (R : ByteArray → World → Prop) : Prop := RetT Pg [.one .str] 272 #[.int .i64 n] w R
theorem F.shaone_Pad_mono {n : Int} {w : World} {R R' : ByteArray → World → Prop} (h : F.shaone_Pad n w R) (hR : ∀ x0 w', R x0 w' → R' x0 w') : F.shaone_Pad n w R' :=
  Calls.mono h fun e w' hx => by
    obtain ⟨x0, he, hr⟩ := hx
    exact ⟨x0, he, hR x0 w' hr⟩
/-- shaone.mix -/
def F.shaone_mix (h_0 : Int) (h_1 : Int) (h_2 : Int) (h_3 : Int) (h_4 : Int) (s : ByteArray) (w : World) (R : Int → Int → Int → Int → Int → World → Prop) : Prop := RetT Pg [.agg [.int .u32, .int .u32, .int .u32, .int .u32, .int .u32]] 273 #[.agg #[.int .u32 h_0, .int .u32 h_1, .int .u32 h_2, .int .u32 h_3, .int .u32 h_4], .string s] w R
theorem F.shaone_mix_mono {h_0 : Int} {h_1 : Int} {h_2 : Int} {h_3 : Int} {h_4 : Int} {s : ByteArray} {w : World} {R R' : Int → Int → Int → Int → Int → World → Prop} (h : F.shaone_mix h_0 h_1 h_2 h_3 h_4 s w R) (hR : ∀ x0 x1 x2 x3 x4 w', R x0 x1 x2 x3 x4 w' → R' x0 x1 x2 x3 x4 w') : F.shaone_mix h_0 h_1 h_2 h_3 h_4 s w R' :=
  Calls.mono h fun e w' hx => by
    obtain ⟨x0, x1, x2, x3, x4, he, hr⟩ := hx
    exact ⟨x0, x1, x2, x3, x4, he, hR x0 x1 x2 x3 x4 w' hr⟩
/-- shaone.high -/
def F.shaone_high (v : Int) (size : Int) (w : World) (R : ByteArray → World → Prop) : Prop := RetT Pg [.one .str] 274 #[.int .u64 v, .int .i64 size] w R
theorem F.shaone_high_mono {v : Int} {size : Int} {w : World} {R R' : ByteArray → World → Prop} (h : F.shaone_high v size w R) (hR : ∀ x0 w', R x0 w' → R' x0 w') : F.shaone_high v size w R' :=
  Calls.mono h fun e w' hx => by
    obtain ⟨x0, he, hr⟩ := hx
    exact ⟨x0, he, hR x0 w' hr⟩
/-- shatwo.mix -/
def F.shatwo_mix (h_0 : Int) (h_1 : Int) (h_2 : Int) (h_3 : Int) (h_4 : Int) (h_5 : Int) (h_6 : Int) (h_7 : Int) (s : ByteArray) (w : World) (R : Int → Int → Int → Int → Int → Int → Int → Int → World → Prop) : Prop := RetT Pg [.agg [.int .u32, .int .u32, .int .u32, .int .u32, .int .u32, .int .u32, .int .u32, .int .u32]] 275 #[.agg #[.int .u32 h_0, .int .u32 h_1, .int .u32 h_2, .int .u32 h_3, .int .u32 h_4, .int .u32 h_5, .int .u32 h_6, .int .u32 h_7], .string s] w R
theorem F.shatwo_mix_mono {h_0 : Int} {h_1 : Int} {h_2 : Int} {h_3 : Int} {h_4 : Int} {h_5 : Int} {h_6 : Int} {h_7 : Int} {s : ByteArray} {w : World} {R R' : Int → Int → Int → Int → Int → Int → Int → Int → World → Prop} (h : F.shatwo_mix h_0 h_1 h_2 h_3 h_4 h_5 h_6 h_7 s w R) (hR : ∀ x0 x1 x2 x3 x4 x5 x6 x7 w', R x0 x1 x2 x3 x4 x5 x6 x7 w' → R' x0 x1 x2 x3 x4 x5 x6 x7 w') : F.shatwo_mix h_0 h_1 h_2 h_3 h_4 h_5 h_6 h_7 s w R' :=
  Calls.mono h fun e w' hx => by
    obtain ⟨x0, x1, x2, x3, x4, x5, x6, x7, he, hr⟩ := hx
    exact ⟨x0, x1, x2, x3, x4, x5, x6, x7, he, hR x0 x1 x2 x3 x4 x5 x6 x7 w' hr⟩
/-- masonrybook.name -/
def F.masonrybook_name (i : Int) (k : Int) (w : World) (R : ByteArray → World → Prop) : Prop := RetT Pg [.one .str] 276 #[.int .i64 i, .int .i64 k] w R
theorem F.masonrybook_name_mono {i : Int} {k : Int} {w : World} {R R' : ByteArray → World → Prop} (h : F.masonrybook_name i k w R) (hR : ∀ x0 w', R x0 w' → R' x0 w') : F.masonrybook_name i k w R' :=
  Calls.mono h fun e w' hx => by
    obtain ⟨x0, he, hr⟩ := hx
    exact ⟨x0, he, hR x0 w' hr⟩
/-- crc.half -/
def F.crc_half (w : World) (R : Int → Int → Int → Int → Int → Int → Int → Int → Int → Int → Int → Int → Int → Int → Int → Int → World → Prop) : Prop := RetT Pg [.agg [.int .u32, .int .u32, .int .u32, .int .u32, .int .u32, .int .u32, .int .u32, .int .u32, .int .u32, .int .u32, .int .u32, .int .u32, .int .u32, .int .u32, .int .u32, .int .u32]] 277 #[] w R
theorem F.crc_half_mono {w : World} {R R' : Int → Int → Int → Int → Int → Int → Int → Int → Int → Int → Int → Int → Int → Int → Int → Int → World → Prop} (h : F.crc_half  w R) (hR : ∀ x0 x1 x2 x3 x4 x5 x6 x7 x8 x9 x10 x11 x12 x13 x14 x15 w', R x0 x1 x2 x3 x4 x5 x6 x7 x8 x9 x10 x11 x12 x13 x14 x15 w' → R' x0 x1 x2 x3 x4 x5 x6 x7 x8 x9 x10 x11 x12 x13 x14 x15 w') : F.crc_half  w R' :=
  Calls.mono h fun e w' hx => by
    obtain ⟨x0, x1, x2, x3, x4, x5, x6, x7, x8, x9, x10, x11, x12, x13, x14, x15, he, hr⟩ := hx
    exact ⟨x0, x1, x2, x3, x4, x5, x6, x7, x8, x9, x10, x11, x12, x13, x14, x15, he, hR x0 x1 x2 x3 x4 x5 x6 x7 x8 x9 x10 x11 x12 x13 x14 x15 w' hr⟩
/-- slices.AppendSeq[[]int,int] -/
def F.slices_AppendSeq_sl_int_int (s : Sl) (seq : Value) (w : World) (R : Sl → World → Prop) : Prop := RetT Pg [.one .slice] 280 #[.slice s.a s.len s.cap, seq] w R
theorem F.slices_AppendSeq_sl_int_int_mono {s : Sl} {seq : Value} {w : World} {R R' : Sl → World → Prop} (h : F.slices_AppendSeq_sl_int_int s seq w R) (hR : ∀ x0 w', R x0 w' → R' x0 w') : F.slices_AppendSeq_sl_int_int s seq w R' :=
  Calls.mono h fun e w' hx => by
    obtain ⟨x0, he, hr⟩ := hx
    exact ⟨x0, he, hR x0 w' hr⟩
/-- slices.pdqsortOrdered[int] -/
def F.slices_pdqsortOrdered_int (data : Sl) (a : Int) (b : Int) (limit : Int) (w : World) (R : World → Prop) : Prop := RetT Pg [] 281 #[.slice data.a data.len data.cap, .int .i64 a, .int .i64 b, .int .i64 limit] w R
theorem F.slices_pdqsortOrdered_int_mono {data : Sl} {a : Int} {b : Int} {limit : Int} {w : World} {R R' : World → Prop} (h : F.slices_pdqsortOrdered_int data a b limit w R) (hR : ∀ w', R  w' → R'  w') : F.slices_pdqsortOrdered_int data a b limit w R' :=
  Calls.mono h fun e w' hx => by
    obtain ⟨he, hr⟩ := hx
    exact ⟨he, hR  w' hr⟩
/-- math/bits.Len -/
def F.bits_Len (x : Int) (w : World) (R : Int → World → Prop) : Prop := RetT Pg [.one (.int .i64)] 282 #[.int .u64 x] w R
theorem F.bits_Len_mono {x : Int} {w : World} {R R' : Int → World → Prop} (h : F.bits_Len x w R) (hR : ∀ x0 w', R x0 w' → R' x0 w') : F.bits_Len x w R' :=
  Calls.mono h fun e w' hx => by
    obtain ⟨x0, he, hr⟩ := hx
    exact ⟨x0, he, hR x0 w' hr⟩
/-- head.Valid -/
def F.head_Valid (h_0 : Int) (h_1 : Bool) (h_2 : Sl) (w : World) (R : Bool → World → Prop) : Prop := RetT Pg [.one .bool] 283 #[.agg #[.int .i64 h_0, .bool h_1, .slice h_2.a h_2.len h_2.cap]] w R
theorem F.head_Valid_mono {h_0 : Int} {h_1 : Bool} {h_2 : Sl} {w : World} {R R' : Bool → World → Prop} (h : F.head_Valid h_0 h_1 h_2 w R) (hR : ∀ x0 w', R x0 w' → R' x0 w') : F.head_Valid h_0 h_1 h_2 w R' :=
  Calls.mono h fun e w' hx => by
    obtain ⟨x0, he, hr⟩ := hx
    exact ⟨x0, he, hR x0 w' hr⟩
/-- (*bits.Out).Long -/
def F.bits_Out_Long (o : Option Addr) (l : Sl) (w : World) (R : Option Addr → World → Prop) : Prop := RetT Pg [.one .ptr] 284 #[.pointer o, .slice l.a l.len l.cap] w R
theorem F.bits_Out_Long_mono {o : Option Addr} {l : Sl} {w : World} {R R' : Option Addr → World → Prop} (h : F.bits_Out_Long o l w R) (hR : ∀ x0 w', R x0 w' → R' x0 w') : F.bits_Out_Long o l w R' :=
  Calls.mono h fun e w' hx => by
    obtain ⟨x0, he, hr⟩ := hx
    exact ⟨x0, he, hR x0 w' hr⟩
/-- (*strings.asciiSet).contains -/
def F.strings_asciiSet_contains (as_ : Option Addr) (c : Int) (w : World) (R : Bool → World → Prop) : Prop := RetT Pg [.one .bool] 285 #[.pointer as_, .int .u8 c] w R
theorem F.strings_asciiSet_contains_mono {as_ : Option Addr} {c : Int} {w : World} {R R' : Bool → World → Prop} (h : F.strings_asciiSet_contains as_ c w R) (hR : ∀ x0 w', R x0 w' → R' x0 w') : F.strings_asciiSet_contains as_ c w R' :=
  Calls.mono h fun e w' hx => by
    obtain ⟨x0, he, hr⟩ := hx
    exact ⟨x0, he, hR x0 w' hr⟩
/-- unicode/utf8.DecodeRuneInString -/
def F.utf8_DecodeRuneInString (s : ByteArray) (w : World) (R : Int → Int → World → Prop) : Prop := RetT Pg [.one (.int .i32), .one (.int .i64)] 286 #[.string s] w R
theorem F.utf8_DecodeRuneInString_mono {s : ByteArray} {w : World} {R R' : Int → Int → World → Prop} (h : F.utf8_DecodeRuneInString s w R) (hR : ∀ x0 x1 w', R x0 x1 w' → R' x0 x1 w') : F.utf8_DecodeRuneInString s w R' :=
  Calls.mono h fun e w' hx => by
    obtain ⟨x0, x1, he, hr⟩ := hx
    exact ⟨x0, x1, he, hR x0 x1 w' hr⟩
/-- strings.ContainsRune -/
def F.strings_ContainsRune (s : ByteArray) (r : Int) (w : World) (R : Bool → World → Prop) : Prop := RetT Pg [.one .bool] 287 #[.string s, .int .i32 r] w R
theorem F.strings_ContainsRune_mono {s : ByteArray} {r : Int} {w : World} {R R' : Bool → World → Prop} (h : F.strings_ContainsRune s r w R) (hR : ∀ x0 w', R x0 w' → R' x0 w') : F.strings_ContainsRune s r w R' :=
  Calls.mono h fun e w' hx => by
    obtain ⟨x0, he, hr⟩ := hx
    exact ⟨x0, he, hR x0 w' hr⟩
/-- unicode/utf8.DecodeLastRuneInString -/
def F.utf8_DecodeLastRuneInString (s : ByteArray) (w : World) (R : Int → Int → World → Prop) : Prop := RetT Pg [.one (.int .i32), .one (.int .i64)] 288 #[.string s] w R
theorem F.utf8_DecodeLastRuneInString_mono {s : ByteArray} {w : World} {R R' : Int → Int → World → Prop} (h : F.utf8_DecodeLastRuneInString s w R) (hR : ∀ x0 x1 w', R x0 x1 w' → R' x0 x1 w') : F.utf8_DecodeLastRuneInString s w R' :=
  Calls.mono h fun e w' hx => by
    obtain ⟨x0, x1, he, hr⟩ := hx
    exact ⟨x0, x1, he, hR x0 x1 w' hr⟩
/-- slices.rotateLeft[api.Write] -/
def F.slices_rotateLeft_api_Write (s : Sl) (r : Int) (w : World) (R : World → Prop) : Prop := RetT Pg [] 289 #[.slice s.a s.len s.cap, .int .i64 r] w R
theorem F.slices_rotateLeft_api_Write_mono {s : Sl} {r : Int} {w : World} {R R' : World → Prop} (h : F.slices_rotateLeft_api_Write s r w R) (hR : ∀ w', R  w' → R'  w') : F.slices_rotateLeft_api_Write s r w R' :=
  Calls.mono h fun e w' hx => by
    obtain ⟨he, hr⟩ := hx
    exact ⟨he, hR  w' hr⟩
/-- math/bits.RotateLeft32 -/
def F.bits_RotateLeft32 (x : Int) (k : Int) (w : World) (R : Int → World → Prop) : Prop := RetT Pg [.one (.int .u32)] 290 #[.int .u32 x, .int .i64 k] w R
theorem F.bits_RotateLeft32_mono {x : Int} {k : Int} {w : World} {R R' : Int → World → Prop} (h : F.bits_RotateLeft32 x k w R) (hR : ∀ x0 w', R x0 w' → R' x0 w') : F.bits_RotateLeft32 x k w R' :=
  Calls.mono h fun e w' hx => by
    obtain ⟨x0, he, hr⟩ := hx
    exact ⟨x0, he, hR x0 w' hr⟩
/-- shaone.round -/
def F.shaone_round (t : Int) (b : Int) (c : Int) (d : Int) (w : World) (R : Int → Int → World → Prop) : Prop := RetT Pg [.one (.int .u32), .one (.int .u32)] 291 #[.int .i64 t, .int .u32 b, .int .u32 c, .int .u32 d] w R
theorem F.shaone_round_mono {t : Int} {b : Int} {c : Int} {d : Int} {w : World} {R R' : Int → Int → World → Prop} (h : F.shaone_round t b c d w R) (hR : ∀ x0 x1 w', R x0 x1 w' → R' x0 x1 w') : F.shaone_round t b c d w R' :=
  Calls.mono h fun e w' hx => by
    obtain ⟨x0, x1, he, hr⟩ := hx
    exact ⟨x0, x1, he, hR x0 x1 w' hr⟩
/-- shatwo.right -/
def F.shatwo_right (x : Int) (n : Int) (w : World) (R : Int → World → Prop) : Prop := RetT Pg [.one (.int .u32)] 294 #[.int .u32 x, .int .i64 n] w R
theorem F.shatwo_right_mono {x : Int} {n : Int} {w : World} {R R' : Int → World → Prop} (h : F.shatwo_right x n w R) (hR : ∀ x0 w', R x0 w' → R' x0 w') : F.shatwo_right x n w R' :=
  Calls.mono h fun e w' hx => by
    obtain ⟨x0, he, hr⟩ := hx
    exact ⟨x0, he, hR x0 w' hr⟩
/-- slices.insertionSortOrdered[int] -/
def F.slices_insertionSortOrdered_int (data : Sl) (a : Int) (b : Int) (w : World) (R : World → Prop) : Prop := RetT Pg [] 295 #[.slice data.a data.len data.cap, .int .i64 a, .int .i64 b] w R
theorem F.slices_insertionSortOrdered_int_mono {data : Sl} {a : Int} {b : Int} {w : World} {R R' : World → Prop} (h : F.slices_insertionSortOrdered_int data a b w R) (hR : ∀ w', R  w' → R'  w') : F.slices_insertionSortOrdered_int data a b w R' :=
  Calls.mono h fun e w' hx => by
    obtain ⟨he, hr⟩ := hx
    exact ⟨he, hR  w' hr⟩
/-- slices.heapSortOrdered[int] -/
def F.slices_heapSortOrdered_int (data : Sl) (a : Int) (b : Int) (w : World) (R : World → Prop) : Prop := RetT Pg [] 296 #[.slice data.a data.len data.cap, .int .i64 a, .int .i64 b] w R
theorem F.slices_heapSortOrdered_int_mono {data : Sl} {a : Int} {b : Int} {w : World} {R R' : World → Prop} (h : F.slices_heapSortOrdered_int data a b w R) (hR : ∀ w', R  w' → R'  w') : F.slices_heapSortOrdered_int data a b w R' :=
  Calls.mono h fun e w' hx => by
    obtain ⟨he, hr⟩ := hx
    exact ⟨he, hR  w' hr⟩
/-- slices.breakPatternsOrdered[int] -/
def F.slices_breakPatternsOrdered_int (data : Sl) (a : Int) (b : Int) (w : World) (R : World → Prop) : Prop := RetT Pg [] 297 #[.slice data.a data.len data.cap, .int .i64 a, .int .i64 b] w R
theorem F.slices_breakPatternsOrdered_int_mono {data : Sl} {a : Int} {b : Int} {w : World} {R R' : World → Prop} (h : F.slices_breakPatternsOrdered_int data a b w R) (hR : ∀ w', R  w' → R'  w') : F.slices_breakPatternsOrdered_int data a b w R' :=
  Calls.mono h fun e w' hx => by
    obtain ⟨he, hr⟩ := hx
    exact ⟨he, hR  w' hr⟩
/-- slices.choosePivotOrdered[int] -/
def F.slices_choosePivotOrdered_int (data : Sl) (a : Int) (b : Int) (w : World) (R : Int → Int → World → Prop) : Prop := RetT Pg [.one (.int .i64), .one (.int .i64)] 298 #[.slice data.a data.len data.cap, .int .i64 a, .int .i64 b] w R
theorem F.slices_choosePivotOrdered_int_mono {data : Sl} {a : Int} {b : Int} {w : World} {R R' : Int → Int → World → Prop} (h : F.slices_choosePivotOrdered_int data a b w R) (hR : ∀ x0 x1 w', R x0 x1 w' → R' x0 x1 w') : F.slices_choosePivotOrdered_int data a b w R' :=
  Calls.mono h fun e w' hx => by
    obtain ⟨x0, x1, he, hr⟩ := hx
    exact ⟨x0, x1, he, hR x0 x1 w' hr⟩
/-- slices.reverseRangeOrdered[int] -/
def F.slices_reverseRangeOrdered_int (data : Sl) (a : Int) (b : Int) (w : World) (R : World → Prop) : Prop := RetT Pg [] 299 #[.slice data.a data.len data.cap, .int .i64 a, .int .i64 b] w R
theorem F.slices_reverseRangeOrdered_int_mono {data : Sl} {a : Int} {b : Int} {w : World} {R R' : World → Prop} (h : F.slices_reverseRangeOrdered_int data a b w R) (hR : ∀ w', R  w' → R'  w') : F.slices_reverseRangeOrdered_int data a b w R' :=
  Calls.mono h fun e w' hx => by
    obtain ⟨he, hr⟩ := hx
    exact ⟨he, hR  w' hr⟩
/-- slices.partialInsertionSortOrdered[int] -/
def F.slices_partialInsertionSortOrdered_int (data : Sl) (a : Int) (b : Int) (w : World) (R : Bool → World → Prop) : Prop := RetT Pg [.one .bool] 300 #[.slice data.a data.len data.cap, .int .i64 a, .int .i64 b] w R
theorem F.slices_partialInsertionSortOrdered_int_mono {data : Sl} {a : Int} {b : Int} {w : World} {R R' : Bool → World → Prop} (h : F.slices_partialInsertionSortOrdered_int data a b w R) (hR : ∀ x0 w', R x0 w' → R' x0 w') : F.slices_partialInsertionSortOrdered_int data a b w R' :=
  Calls.mono h fun e w' hx => by
    obtain ⟨x0, he, hr⟩ := hx
    exact ⟨x0, he, hR x0 w' hr⟩
/-- cmp.Less[int] -/
def F.cmp_Less_int (x : Int) (y : Int) (w : World) (R : Bool → World → Prop) : Prop := RetT Pg [.one .bool] 301 #[.int .i64 x, .int .i64 y] w R
theorem F.cmp_Less_int_mono {x : Int} {y : Int} {w : World} {R R' : Bool → World → Prop} (h : F.cmp_Less_int x y w R) (hR : ∀ x0 w', R x0 w' → R' x0 w') : F.cmp_Less_int x y w R' :=
  Calls.mono h fun e w' hx => by
    obtain ⟨x0, he, hr⟩ := hx
    exact ⟨x0, he, hR x0 w' hr⟩
/-- slices.partitionEqualOrdered[int] -/
def F.slices_partitionEqualOrdered_int (data : Sl) (a : Int) (b : Int) (pivot : Int) (w : World) (R : Int → World → Prop) : Prop := RetT Pg [.one (.int .i64)] 302 #[.slice data.a data.len data.cap, .int .i64 a, .int .i64 b, .int .i64 pivot] w R
theorem F.slices_partitionEqualOrdered_int_mono {data : Sl} {a : Int} {b : Int} {pivot : Int} {w : World} {R R' : Int → World → Prop} (h : F.slices_partitionEqualOrdered_int data a b pivot w R) (hR : ∀ x0 w', R x0 w' → R' x0 w') : F.slices_partitionEqualOrdered_int data a b pivot w R' :=
  Calls.mono h fun e w' hx => by
    obtain ⟨x0, he, hr⟩ := hx
    exact ⟨x0, he, hR x0 w' hr⟩
/-- slices.partitionOrdered[int] -/
def F.slices_partitionOrdered_int (data : Sl) (a : Int) (b : Int) (pivot : Int) (w : World) (R : Int → Bool → World → Prop) : Prop := RetT Pg [.one (.int .i64), .one .bool] 303 #[.slice data.a data.len data.cap, .int .i64 a, .int .i64 b, .int .i64 pivot] w R
theorem F.slices_partitionOrdered_int_mono {data : Sl} {a : Int} {b : Int} {pivot : Int} {w : World} {R R' : Int → Bool → World → Prop} (h : F.slices_partitionOrdered_int data a b pivot w R) (hR : ∀ x0 x1 w', R x0 x1 w' → R' x0 x1 w') : F.slices_partitionOrdered_int data a b pivot w R' :=
  Calls.mono h fun e w' hx => by
    obtain ⟨x0, x1, he, hr⟩ := hx
    exact ⟨x0, x1, he, hR x0 x1 w' hr⟩
/-- math/bits.Len32 -/
def F.bits_Len32 (x : Int) (w : World) (R : Int → World → Prop) : Prop := RetT Pg [.one (.int .i64)] 304 #[.int .u32 x] w R
theorem F.bits_Len32_mono {x : Int} {w : World} {R R' : Int → World → Prop} (h : F.bits_Len32 x w R) (hR : ∀ x0 w', R x0 w' → R' x0 w') : F.bits_Len32 x w R' :=
  Calls.mono h fun e w' hx => by
    obtain ⟨x0, he, hr⟩ := hx
    exact ⟨x0, he, hR x0 w' hr⟩
/-- math/bits.Len64 -/
def F.bits_Len64 (x : Int) (w : World) (R : Int → World → Prop) : Prop := RetT Pg [.one (.int .i64)] 305 #[.int .u64 x] w R
theorem F.bits_Len64_mono {x : Int} {w : World} {R R' : Int → World → Prop} (h : F.bits_Len64 x w R) (hR : ∀ x0 w', R x0 w' → R' x0 w') : F.bits_Len64 x w R' :=
  Calls.mono h fun e w' hx => by
    obtain ⟨x0, he, hr⟩ := hx
    exact ⟨x0, he, hR x0 w' hr⟩
/-- unicode/utf8.decodeRuneInStringSlow -/
def F.utf8_decodeRuneInStringSlow (s : ByteArray) (w : World) (R : Int → Int → World → Prop) : Prop := RetT Pg [.one (.int .i32), .one (.int .i64)] 306 #[.string s] w R
theorem F.utf8_decodeRuneInStringSlow_mono {s : ByteArray} {w : World} {R R' : Int → Int → World → Prop} (h : F.utf8_decodeRuneInStringSlow s w R) (hR : ∀ x0 x1 w', R x0 x1 w' → R' x0 x1 w') : F.utf8_decodeRuneInStringSlow s w R' :=
  Calls.mono h fun e w' hx => by
    obtain ⟨x0, x1, he, hr⟩ := hx
    exact ⟨x0, x1, he, hR x0 x1 w' hr⟩
/-- strings.IndexRune -/
def F.strings_IndexRune (s : ByteArray) (r : Int) (w : World) (R : Int → World → Prop) : Prop := RetT Pg [.one (.int .i64)] 307 #[.string s, .int .i32 r] w R
theorem F.strings_IndexRune_mono {s : ByteArray} {r : Int} {w : World} {R R' : Int → World → Prop} (h : F.strings_IndexRune s r w R) (hR : ∀ x0 w', R x0 w' → R' x0 w') : F.strings_IndexRune s r w R' :=
  Calls.mono h fun e w' hx => by
    obtain ⟨x0, he, hr⟩ := hx
    exact ⟨x0, he, hR x0 w' hr⟩
/-- unicode/utf8.RuneStart -/
def F.utf8_RuneStart (b : Int) (w : World) (R : Bool → World → Prop) : Prop := RetT Pg [.one .bool] 308 #[.int .u8 b] w R
theorem F.utf8_RuneStart_mono {b : Int} {w : World} {R R' : Bool → World → Prop} (h : F.utf8_RuneStart b w R) (hR : ∀ x0 w', R x0 w' → R' x0 w') : F.utf8_RuneStart b w R' :=
  Calls.mono h fun e w' hx => by
    obtain ⟨x0, he, hr⟩ := hx
    exact ⟨x0, he, hR x0 w' hr⟩
/-- slices.Reverse[[]api.Write,api.Write] -/
def F.slices_Reverse_sl_api_Write_api_Write (s : Sl) (w : World) (R : World → Prop) : Prop := RetT Pg [] 309 #[.slice s.a s.len s.cap] w R
theorem F.slices_Reverse_sl_api_Write_api_Write_mono {s : Sl} {w : World} {R R' : World → Prop} (h : F.slices_Reverse_sl_api_Write_api_Write s w R) (hR : ∀ w', R  w' → R'  w') : F.slices_Reverse_sl_api_Write_api_Write s w R' :=
  Calls.mono h fun e w' hx => by
    obtain ⟨he, hr⟩ := hx
    exact ⟨he, hR  w' hr⟩
/-- slices.siftDownOrdered[int] -/
def F.slices_siftDownOrdered_int (data : Sl) (lo : Int) (hi : Int) (first : Int) (w : World) (R : World → Prop) : Prop := RetT Pg [] 310 #[.slice data.a data.len data.cap, .int .i64 lo, .int .i64 hi, .int .i64 first] w R
theorem F.slices_siftDownOrdered_int_mono {data : Sl} {lo : Int} {hi : Int} {first : Int} {w : World} {R R' : World → Prop} (h : F.slices_siftDownOrdered_int data lo hi first w R) (hR : ∀ w', R  w' → R'  w') : F.slices_siftDownOrdered_int data lo hi first w R' :=
  Calls.mono h fun e w' hx => by
    obtain ⟨he, hr⟩ := hx
    exact ⟨he, hR  w' hr⟩
/-- slices.nextPowerOfTwo -/
def F.slices_nextPowerOfTwo (length : Int) (w : World) (R : Int → World → Prop) : Prop := RetT Pg [.one (.int .u64)] 311 #[.int .i64 length] w R
theorem F.slices_nextPowerOfTwo_mono {length : Int} {w : World} {R R' : Int → World → Prop} (h : F.slices_nextPowerOfTwo length w R) (hR : ∀ x0 w', R x0 w' → R' x0 w') : F.slices_nextPowerOfTwo length w R' :=
  Calls.mono h fun e w' hx => by
    obtain ⟨x0, he, hr⟩ := hx
    exact ⟨x0, he, hR x0 w' hr⟩
/-- (*slices.xorshift).Next -/
def F.slices_xorshift_Next (r : Option Addr) (w : World) (R : Int → World → Prop) : Prop := RetT Pg [.one (.int .u64)] 312 #[.pointer r] w R
theorem F.slices_xorshift_Next_mono {r : Option Addr} {w : World} {R R' : Int → World → Prop} (h : F.slices_xorshift_Next r w R) (hR : ∀ x0 w', R x0 w' → R' x0 w') : F.slices_xorshift_Next r w R' :=
  Calls.mono h fun e w' hx => by
    obtain ⟨x0, he, hr⟩ := hx
    exact ⟨x0, he, hR x0 w' hr⟩
/-- slices.medianAdjacentOrdered[int] -/
def F.slices_medianAdjacentOrdered_int (data : Sl) (a : Int) (swaps : Option Addr) (w : World) (R : Int → World → Prop) : Prop := RetT Pg [.one (.int .i64)] 313 #[.slice data.a data.len data.cap, .int .i64 a, .pointer swaps] w R
theorem F.slices_medianAdjacentOrdered_int_mono {data : Sl} {a : Int} {swaps : Option Addr} {w : World} {R R' : Int → World → Prop} (h : F.slices_medianAdjacentOrdered_int data a swaps w R) (hR : ∀ x0 w', R x0 w' → R' x0 w') : F.slices_medianAdjacentOrdered_int data a swaps w R' :=
  Calls.mono h fun e w' hx => by
    obtain ⟨x0, he, hr⟩ := hx
    exact ⟨x0, he, hR x0 w' hr⟩
/-- slices.medianOrdered[int] -/
def F.slices_medianOrdered_int (data : Sl) (a : Int) (b : Int) (c : Int) (swaps : Option Addr) (w : World) (R : Int → World → Prop) : Prop := RetT Pg [.one (.int .i64)] 314 #[.slice data.a data.len data.cap, .int .i64 a, .int .i64 b, .int .i64 c, .pointer swaps] w R
theorem F.slices_medianOrdered_int_mono {data : Sl} {a : Int} {b : Int} {c : Int} {swaps : Option Addr} {w : World} {R R' : Int → World → Prop} (h : F.slices_medianOrdered_int data a b c swaps w R) (hR : ∀ x0 w', R x0 w' → R' x0 w') : F.slices_medianOrdered_int data a b c swaps w R' :=
  Calls.mono h fun e w' hx => by
    obtain ⟨x0, he, hr⟩ := hx
    exact ⟨x0, he, hR x0 w' hr⟩
/-- cmp.isNaN[int] -/
def F.cmp_isNaN_int (x : Int) (w : World) (R : Bool → World → Prop) : Prop := RetT Pg [.one .bool] 315 #[.int .i64 x] w R
theorem F.cmp_isNaN_int_mono {x : Int} {w : World} {R R' : Bool → World → Prop} (h : F.cmp_isNaN_int x w R) (hR : ∀ x0 w', R x0 w' → R' x0 w') : F.cmp_isNaN_int x w R' :=
  Calls.mono h fun e w' hx => by
    obtain ⟨x0, he, hr⟩ := hx
    exact ⟨x0, he, hR x0 w' hr⟩
/-- strings.IndexByte -/
def F.strings_IndexByte (s : ByteArray) (c : Int) (w : World) (R : Int → World → Prop) : Prop := RetT Pg [.one (.int .i64)] 316 #[.string s, .int .u8 c] w R
theorem F.strings_IndexByte_mono {s : ByteArray} {c : Int} {w : World} {R R' : Int → World → Prop} (h : F.strings_IndexByte s c w R) (hR : ∀ x0 w', R x0 w' → R' x0 w') : F.strings_IndexByte s c w R' :=
  Calls.mono h fun e w' hx => by
    obtain ⟨x0, he, hr⟩ := hx
    exact ⟨x0, he, hR x0 w' hr⟩
/-- unicode/utf8.ValidRune -/
def F.utf8_ValidRune (r : Int) (w : World) (R : Bool → World → Prop) : Prop := RetT Pg [.one .bool] 317 #[.int .i32 r] w R
theorem F.utf8_ValidRune_mono {r : Int} {w : World} {R R' : Bool → World → Prop} (h : F.utf8_ValidRune r w R) (hR : ∀ x0 w', R x0 w' → R' x0 w') : F.utf8_ValidRune r w R' :=
  Calls.mono h fun e w' hx => by
    obtain ⟨x0, he, hr⟩ := hx
    exact ⟨x0, he, hR x0 w' hr⟩
/-- internal/bytealg.Cutover -/
def F.bytealg_Cutover (n : Int) (w : World) (R : Int → World → Prop) : Prop := RetT Pg [.one (.int .i64)] 318 #[.int .i64 n] w R
theorem F.bytealg_Cutover_mono {n : Int} {w : World} {R R' : Int → World → Prop} (h : F.bytealg_Cutover n w R) (hR : ∀ x0 w', R x0 w' → R' x0 w') : F.bytealg_Cutover n w R' :=
  Calls.mono h fun e w' hx => by
    obtain ⟨x0, he, hr⟩ := hx
    exact ⟨x0, he, hR x0 w' hr⟩
/-- slices.order2Ordered[int] -/
def F.slices_order2Ordered_int (data : Sl) (a : Int) (b : Int) (swaps : Option Addr) (w : World) (R : Int → Int → World → Prop) : Prop := RetT Pg [.one (.int .i64), .one (.int .i64)] 320 #[.slice data.a data.len data.cap, .int .i64 a, .int .i64 b, .pointer swaps] w R
theorem F.slices_order2Ordered_int_mono {data : Sl} {a : Int} {b : Int} {swaps : Option Addr} {w : World} {R R' : Int → Int → World → Prop} (h : F.slices_order2Ordered_int data a b swaps w R) (hR : ∀ x0 x1 w', R x0 x1 w' → R' x0 x1 w') : F.slices_order2Ordered_int data a b swaps w R' :=
  Calls.mono h fun e w' hx => by
    obtain ⟨x0, x1, he, hr⟩ := hx
    exact ⟨x0, x1, he, hR x0 x1 w' hr⟩
/-- internal/stringslite.IndexByte -/
def F.stringslite_IndexByte (s : ByteArray) (c : Int) (w : World) (R : Int → World → Prop) : Prop := RetT Pg [.one (.int .i64)] 321 #[.string s, .int .u8 c] w R
theorem F.stringslite_IndexByte_mono {s : ByteArray} {c : Int} {w : World} {R R' : Int → World → Prop} (h : F.stringslite_IndexByte s c w R) (hR : ∀ x0 w', R x0 w' → R' x0 w') : F.stringslite_IndexByte s c w R' :=
  Calls.mono h fun e w' hx => by
    obtain ⟨x0, he, hr⟩ := hx
    exact ⟨x0, he, hR x0 w' hr⟩
/-- gosem.cut.vars -/
def F.gosem_cut_vars (w : World) (R : World → Prop) : Prop := RetT Pg [] 345 #[] w R
theorem F.gosem_cut_vars_mono {w : World} {R R' : World → Prop} (h : F.gosem_cut_vars  w R) (hR : ∀ w', R  w' → R'  w') : F.gosem_cut_vars  w R' :=
  Calls.mono h fun e w' hx => by
    obtain ⟨he, hr⟩ := hx
    exact ⟨he, hR  w' hr⟩
end Go.Proofs.YtmokmbhhnbcelaaGreatDoor
