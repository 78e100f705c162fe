import Derived.Test.YtmokmbhhnbcelaaGreatDoorVc
import Derived.Test.YtmokmbhhnbcelaaGreatDoorChecked
import Derived.Eval
namespace Go.Proofs.YtmokmbhhnbcelaaGreatDoor
open Go Go.Vc
open Go.RowKit (Below)
set_option linter.unusedVariables false
noncomputable abbrev Pg : Program := Tryz.prog
abbrev T.y_t0 : TypeId := 0
abbrev T.y_int : TypeId := 3
abbrev T.y_bool : TypeId := 4
abbrev T.y_uint8 : TypeId := 5
abbrev T.y_string : TypeId := 9
abbrev T.y_p_desk_Desk : TypeId := 23
abbrev T.y_sl_int : TypeId := 29
abbrev T.y_chain_Chain : TypeId := 36
abbrev T.y_sl_uint8 : TypeId := 39
abbrev T.y_map_int_string : TypeId := 68
abbrev T.y_desk_Desk : TypeId := 70
abbrev T.y_desk_Mark : TypeId := 73
abbrev T.y_api_Write : TypeId := 95
abbrev T.y_sl_string : TypeId := 100
abbrev T.y_api_Print : TypeId := 124
abbrev T.y_brick_Brick : TypeId := 128
abbrev T.y_chain_link : TypeId := 155
abbrev T.y_sl_chain_link : TypeId := 157
abbrev T.y_sl_api_Write : TypeId := 168
abbrev T.y_disk_Disk : TypeId := 170
abbrev T.y_sl_bool : TypeId := 187
abbrev T.y_room_Room : TypeId := 189
abbrev T.y_bits_Out : TypeId := 204
abbrev T.y_map_int_bool : TypeId := 224
abbrev T.y_head_Head : TypeId := 228
abbrev T.y_wal_Wal : TypeId := 230
abbrev T.y_bits_In : TypeId := 232
abbrev T.y_uint32 : TypeId := 270
abbrev T.y_sl_uint32 : TypeId := 271
abbrev T.y_5_uint32 : TypeId := 321
abbrev T.y_8_uint32 : TypeId := 323
abbrev T.y_16_uint32 : TypeId := 326
abbrev T.y_80_uint32 : TypeId := 339
abbrev T.y_64_uint32 : TypeId := 341
def str_x_ : ByteArray := ⟨#[0]⟩
def str_a : ByteArray := ⟨#[97]⟩
def str_bc : ByteArray := ⟨#[98, 99]⟩
def str_abc : ByteArray := ⟨#[97, 98, 99]⟩
def str_mark : ByteArray := ⟨#[109, 97, 114, 107]⟩
def str_cannotbenega : ByteArray := ⟨#[99, 97, 110, 110, 111, 116, 32, 98, 101, 32, 110, 101, 103, 97, 116, 105, 118, 101]⟩
def str_theresultofl : ByteArray := ⟨#[116, 104, 101, 32, 114, 101, 115, 117, 108, 116, 32, 111, 102, 32, 40, 108, 101, 110, 40, 120, 41, 32, 42, 32, 99, 111, 117, 110, 116, 41, 32, 111, 118, 101, 114, 102, 108, 111, 119, 115]⟩
def str_x__ : ByteArray := ⟨#[128]⟩
def okl : List Nat := [3, 4, 5, 6, 7, 8, 9, 10, 11, 12, 13, 14, 15, 16, 17, 18, 19, 20, 21, 22, 23, 24, 25, 26, 27, 28, 29, 30, 31, 32, 33, 34, 35, 36, 37, 38, 39, 40, 41, 42, 43, 44, 45, 46, 47, 48, 49, 50, 51, 52, 53, 54, 55, 56, 57, 58, 59, 60, 61, 62, 63, 64, 65, 66, 67, 68, 69, 70, 71, 72, 73, 74, 75, 76, 77, 78, 79, 80, 81, 82, 83, 84, 85, 86, 87, 88, 89, 90, 91, 92, 93, 94, 95, 96, 97, 98, 99, 100, 101, 102, 103, 104, 105, 106, 107, 108, 109, 110, 111, 112, 113, 114, 115, 116, 117, 118, 119, 120, 121, 122, 123, 124, 125, 126, 127, 128, 129, 130, 131, 132, 133, 134, 135, 136, 137, 138, 139, 140, 141, 142, 143, 144, 145, 146, 147, 148, 149, 150, 151, 152, 153, 154, 155, 156, 157, 158, 159, 160, 161, 162, 163, 164, 165, 166, 167, 168, 169, 170, 171, 172, 173, 174, 175, 176, 177, 178, 179, 180, 181, 182, 183, 184, 185, 186, 187, 188, 189, 190, 191, 192, 193, 194, 195, 196, 197, 198, 199, 200, 201, 202, 203, 205, 206, 207, 208, 209, 210, 211, 212, 213, 214, 215, 216, 217, 218, 219, 220, 221, 222, 223, 224, 225, 226, 227, 228, 229, 230, 231, 232, 233, 234, 235, 236, 237, 238, 239, 240, 241, 242, 243, 244, 245, 246, 247, 248, 249, 250, 251, 252, 253, 254, 255, 256, 257, 258, 259, 260, 261, 263, 264, 265, 266, 267, 268, 270, 271, 272, 273, 274, 275, 276, 277, 280, 281, 282, 283, 284, 285, 286, 287, 288, 289, 290, 291, 292, 293, 294, 295, 296, 297, 298, 299, 300, 301, 302, 303, 304, 305, 306, 307, 308, 309, 310, 311, 312, 313, 314, 315, 316, 317, 318, 320, 321, 345]
def eqs : TypeId → Option (List Sh)
 | 36 => some [.int .i64, .int .i64, .int .i64, .str]
 | 45 => some [.int .i64, .int .i64]
 | 95 => some [.int .i64, .str]
 | 124 => some [.int .i64, .str]
 | 128 => some [.int .i64, .int .i64, .int .i64, .str, .str]
 | 178 => some [.str, .int .i64]
 | 295 => some [.int .i64, .int .i64]
 | 299 => some [.int .i64, .str, .int .i64]
 | 302 => some [.str, .str]
 | _ => none
noncomputable def cfg : Cfg := { P := Tryz.prog, okf := fun f => memB f okl, eqs := eqs }
theorem okl_ok : okl.all (okChk Tryz.prog) = true := by kernel_rfl
theorem eq_36 : eqChk Tryz.prog 6 36 [.int .i64, .int .i64, .int .i64, .str] = true := by kernel_rfl
theorem eq_45 : eqChk Tryz.prog 6 45 [.int .i64, .int .i64] = true := by kernel_rfl
theorem eq_95 : eqChk Tryz.prog 6 95 [.int .i64, .str] = true := by kernel_rfl
theorem eq_124 : eqChk Tryz.prog 6 124 [.int .i64, .str] = true := by kernel_rfl
theorem eq_128 : eqChk Tryz.prog 6 128 [.int .i64, .int .i64, .int .i64, .str, .str] = true := by kernel_rfl
theorem eq_178 : eqChk Tryz.prog 6 178 [.str, .int .i64] = true := by kernel_rfl
theorem eq_295 : eqChk Tryz.prog 6 295 [.int .i64, .int .i64] = true := by kernel_rfl
theorem eq_299 : eqChk Tryz.prog 6 299 [.int .i64, .str, .int .i64] = true := by kernel_rfl
theorem eq_302 : eqChk Tryz.prog 6 302 [.str, .str] = true := by kernel_rfl
theorem cfg_ok : CfgOk cfg where
 okf := fun f h => okChk_spec (List.all_eq_true.1 okl_ok f ((memB_iff f okl).1 h))
 mixed := Checked.mixed Tryz.checked
 eqs := fun t sh h => by
   unfold cfg eqs at h
   simp only at h
   split at h
   · injection h with h; subst h; exact eqChk_spec (by decide) eq_36
   · injection h with h; subst h; exact eqChk_spec (by decide) eq_45
   · injection h with h; subst h; exact eqChk_spec (by decide) eq_95
   · injection h with h; subst h; exact eqChk_spec (by decide) eq_124
   · injection h with h; subst h; exact eqChk_spec (by decide) eq_128
   · injection h with h; subst h; exact eqChk_spec (by decide) eq_178
   · injection h with h; subst h; exact eqChk_spec (by decide) eq_295
   · injection h with h; subst h; exact eqChk_spec (by decide) eq_299
   · injection h with h; subst h; exact eqChk_spec (by decide) eq_302
   · cases h
/-- masonrylaw16.BrickTells -/
def F.masonrylaw16_BrickTells (gen : Int) (l : Sl) (by_ : Int) (w : World) (R : Bool → World → Prop) : Prop := RetT Pg [.one .bool] 15 #[.int .i64 gen, .slice l.a l.len l.cap, .int .i64 by_] w R
/-- masonrylaw12.Fresh -/
def F.masonrylaw12_Fresh (n : Int) (w : World) (R : Option Addr → World → Prop) : Prop := RetT Pg [.one .ptr] 17 #[.int .i64 n] w R
/-- masonryref1.Zeros -/
def F.masonryref1_Zeros (n : Int) (w : World) (R : ByteArray → World → Prop) : Prop := RetT Pg [.one .str] 18 #[.int .i64 n] w R
/-- chain.Put -/
def F.chain_Put (k : Option Addr) (gen tag : Int) (b : ByteArray) (w : World) (R : Int → Int → World → Prop) : Prop := RetT Pg [.one (.int .i64), .one (.int .i64)] 19 #[.pointer k, .int .i64 gen, .int .i64 tag, .string b] w R
/-- (*desk.Desk).Get -/
def F.desk_Desk_Get (k : Option Addr) (at_ : Int) (w : World) (R : ByteArray → Int → World → Prop) : Prop := RetT Pg [.one .str, .one (.int .i64)] 21 #[.pointer k, .int .i64 at_] w R
/-- (*desk.Desk).Set -/
def F.desk_Desk_Set (k : Option Addr) (at_ : Int) (data : ByteArray) (w : World) (R : Int → World → Prop) : Prop := RetT Pg [.one (.int .i64)] 22 #[.pointer k, .int .i64 at_, .string data] w R
/-- chain.Get -/
def F.chain_Get (k : Option Addr) (at_ : Int) (w : World) (R : Int → Int → Int → ByteArray → Int → World → Prop) : Prop := RetT Pg [.agg [.int .i64, .int .i64, .int .i64, .str], .one (.int .i64)] 23 #[.pointer k, .int .i64 at_] w R
/-- chain.Refs -/
def F.chain_Refs (k : Option Addr) (at_ by_ : Int) (w : World) (R : Int → Int → World → Prop) : Prop := RetT Pg [.one (.int .i64), .one (.int .i64)] 24 #[.pointer k, .int .i64 at_, .int .i64 by_] w R
/-- chain.Drop -/
def F.chain_Drop (k : Option Addr) (at_ : Int) (w : World) (R : Int → World → Prop) : Prop := RetT Pg [.one (.int .i64)] 25 #[.pointer k, .int .i64 at_] w R
/-- disk.New -/
def F.disk_New (n : Int) (w : World) (R : Option Addr → Int → World → Prop) : Prop := RetT Pg [.one .ptr, .one (.int .i64)] 35 #[.int .i64 n] w R
/-- desk.Format -/
def F.desk_Format (d : Option Addr) (w : World) (R : Option Addr → Int → World → Prop) : Prop := RetT Pg [.one .ptr, .one (.int .i64)] 36 #[.pointer d] w R
/-- (*desk.Desk).Mark -/
def F.desk_Desk_Mark (k : Option Addr) (w : World) (R : Option Addr → Option Addr → Option Nat → Int → World → Prop) : Prop := RetT Pg [.agg [.ptr, .ptr, .map, .int .i64]] 38 #[.pointer k] w R
/-- (*desk.Desk).Back -/
def F.desk_Desk_Back (k m_0 m_1 : Option Addr) (m_2 : Option Nat) (m_3 : Int) (w : World) (R : World → Prop) : Prop := RetT Pg [] 40 #[.pointer k, .agg #[.pointer m_0, .pointer m_1, .map m_2, .int .i64 m_3]] w R
/-- (*desk.Desk).Bad -/
def F.desk_Desk_Bad (k : Option Addr) (w : World) (R : Int → World → Prop) : Prop := RetT Pg [.one (.int .i64)] 41 #[.pointer k] w R
/-- (*desk.Desk).Room -/
def F.desk_Desk_Room (k : Option Addr) (w : World) (R : Option Addr → World → Prop) : Prop := RetT Pg [.one .ptr] 49 #[.pointer k] w R
/-- (*room.Room).All -/
def F.room_Room_All (r : Option Addr) (w : World) (R : Sl → World → Prop) : Prop := RetT Pg [.one .slice] 50 #[.pointer r] w R
/-- (*disk.Disk).Write -/
def F.disk_Disk_Write (d : Option Addr) (l : Sl) (w : World) (R : Int → World → Prop) : Prop := RetT Pg [.one (.int .i64)] 52 #[.pointer d, .slice l.a l.len l.cap] w R
/-- (*desk.Desk).Dirty -/
def F.desk_Desk_Dirty (k : Option Addr) (w : World) (R : Sl → World → Prop) : Prop := RetT Pg [.one .slice] 54 #[.pointer k] w R
/-- (*desk.Desk).New -/
def F.desk_Desk_New (k : Option Addr) (data : ByteArray) (w : World) (R : Int → Int → World → Prop) : Prop := RetT Pg [.one (.int .i64), .one (.int .i64)] 55 #[.pointer k, .string data] w R
/-- (*desk.Desk).Drop -/
def F.desk_Desk_Drop (k : Option Addr) (l : Sl) (w : World) (R : Int → World → Prop) : Prop := RetT Pg [.one (.int .i64)] 57 #[.pointer k, .slice l.a l.len l.cap] w R
/-- (*disk.Disk).On -/
def F.disk_Disk_On (d : Option Addr) (w : World) (R : Bool → World → Prop) : Prop := RetT Pg [.one .bool] 68 #[.pointer d] w R
/-- (*disk.Disk).Crash -/
def F.disk_Disk_Crash (d : Option Addr) (keep : Sl) (w : World) (R : Int → World → Prop) : Prop := RetT Pg [.one (.int .i64)] 71 #[.pointer d, .slice keep.a keep.len keep.cap] w R
/-- (*room.Room).Free -/
def F.room_Room_Free (r : Option Addr) (w : World) (R : Int → World → Prop) : Prop := RetT Pg [.one (.int .i64)] 75 #[.pointer r] w R
/-- chain.Need -/
def F.chain_Need (n : Int) (w : World) (R : Int → World → Prop) : Prop := RetT Pg [.one (.int .i64)] 76 #[.int .i64 n] w R
/-- masonrylaw16.alive -/
def F.masonrylaw16_alive (w : World) (R : Bool → World → Prop) : Prop := RetT Pg [.one .bool] 77 #[] w R
/-- masonryref1.Print -/
def F.masonryref1_Print (kind : Int) (s : ByteArray) (w : World) (R : Int → ByteArray → World → Prop) : Prop := RetT Pg [.agg [.int .i64, .str]] 78 #[.int .i64 kind, .string s] w R
/-- masonryref1.LayPrint -/
def F.masonryref1_LayPrint (p_0 : Int) (p_1 : ByteArray) (w : World) (R : ByteArray → World → Prop) : Prop := RetT Pg [.one .str] 79 #[.agg #[.int .i64 p_0, .string p_1]] w R
/-- brick.Get -/
def F.brick_Get (k : Option Addr) (at_ : Int) (w : World) (R : Int → Int → Int → ByteArray → ByteArray → Int → World → Prop) : Prop := RetT Pg [.agg [.int .i64, .int .i64, .int .i64, .str, .str], .one (.int .i64)] 80 #[.pointer k, .int .i64 at_] w R
/-- brick.Use -/
def F.brick_Use (k : Option Addr) (at_ by_ : Int) (w : World) (R : Int → Int → World → Prop) : Prop := RetT Pg [.one (.int .i64), .one (.int .i64)] 81 #[.pointer k, .int .i64 at_, .int .i64 by_] w R
theorem F.brick_Use_mono {k : Option Addr} {at_ by_ : Int} {w : World} {R R' : Int → Int → World → Prop} (h : F.brick_Use k at_ by_ w R) (hR : ∀ x0 x1 w', R x0 x1 w' → R' x0 x1 w') : F.brick_Use k at_ by_ w R' :=
 Calls.mono h fun e w' hx => by
   obtain ⟨x0, x1, he, hr⟩ := hx
   exact ⟨x0, x1, he, hR x0 x1 w' hr⟩
/-- brick.Drop -/
def F.brick_Drop (k : Option Addr) (at_ : Int) (w : World) (R : Int → World → Prop) : Prop := RetT Pg [.one (.int .i64)] 82 #[.pointer k, .int .i64 at_] w R
/-- brick.Put -/
def F.brick_Put (k : Option Addr) (gen : Int) (l : Sl) (w : World) (R : Int → Int → World → Prop) : Prop := RetT Pg [.one (.int .i64), .one (.int .i64)] 83 #[.pointer k, .int .i64 gen, .slice l.a l.len l.cap] w R
/-- brick.Kind -/
def F.brick_Kind (gen : Int) (w : World) (R : Int → World → Prop) : Prop := RetT Pg [.one (.int .i64)] 84 #[.int .i64 gen] w R
/-- masonrybook.Short -/
def F.masonrybook_Short (few room : Int) (l : Sl) (w : World) (R : Bool → World → Prop) : Prop := RetT Pg [.one .bool] 91 #[.int .i64 few, .int .i64 room, .slice l.a l.len l.cap] w R
/-- masonrybook.Join -/
def F.masonrybook_Join (l : Sl) (w : World) (R : ByteArray → World → Prop) : Prop := RetT Pg [.one .str] 92 #[.slice l.a l.len l.cap] w R
/-- masonrybook.LentTexts -/
def F.masonrybook_LentTexts (l : Sl) (w : World) (R : Sl → World → Prop) : Prop := RetT Pg [.one .slice] 93 #[.slice l.a l.len l.cap] w R
/-- masonrybook.StaysTexts -/
def F.masonrybook_StaysTexts (m was : Sl) (w : World) (R : Bool → World → Prop) : Prop := RetT Pg [.one .bool] 94 #[.slice m.a m.len m.cap, .slice was.a was.len was.cap] w R
/-- (chain.link).lay -/
def F.chain_link_lay (x_0 x_1 x_2 x_3 x_4 : Int) (x_5 : ByteArray) (w : World) (R : ByteArray → World → Prop) : Prop := RetT Pg [.one .str] 95 #[.agg #[.int .i64 x_0, .int .i64 x_1, .int .i64 x_2, .int .i64 x_3, .int .i64 x_4, .string x_5]] w R
/-- chain.walk -/
def F.chain_walk (k : Option Addr) (at_ : Int) (w : World) (R : Sl → Sl → Int → World → Prop) : Prop := RetT Pg [.one .slice, .one .slice, .one (.int .i64)] 96 #[.pointer k, .int .i64 at_] w R
/-- (*wal.Wal).Read -/
def F.wal_Wal_Read (w' : Option Addr) (at_ : Int) (w : World) (R : ByteArray → Int → World → Prop) : Prop := RetT Pg [.one .str, .one (.int .i64)] 97 #[.pointer w', .int .i64 at_] w R
/-- (*room.Room).Used -/
def F.room_Room_Used (r : Option Addr) (at_ : Int) (w : World) (R : Bool → World → Prop) : Prop := RetT Pg [.one .bool] 98 #[.pointer r, .int .i64 at_] w R
/-- strings.Clone -/
def F.strings_Clone (s : ByteArray) (w : World) (R : ByteArray → World → Prop) : Prop := RetT Pg [.one .str] 99 #[.string s] w R
/-- bits.On -/
def F.bits_On (b : ByteArray) (w : World) (R : Option Addr → World → Prop) : Prop := RetT Pg [.one .ptr] 100 #[.string b] w R
/-- (*bits.In).Half -/
def F.bits_In_Half (i : Option Addr) (w : World) (R : Int → World → Prop) : Prop := RetT Pg [.one (.int .i64)] 101 #[.pointer i] w R
/-- (*bits.In).Byte -/
def F.bits_In_Byte (i : Option Addr) (w : World) (R : Int → World → Prop) : Prop := RetT Pg [.one (.int .i64)] 102 #[.pointer i] w R
/-- masonrybook.Room -/
def F.masonrybook_Room (left : Int) (sizes : Sl) (w : World) (R : Int → World → Prop) : Prop := RetT Pg [.one (.int .i64)] 104 #[.int .i64 left, .slice sizes.a sizes.len sizes.cap] w R
/-- (*wal.Wal).Size -/
def F.wal_Wal_Size (w' : Option Addr) (w : World) (R : Int → World → Prop) : Prop := RetT Pg [.one (.int .i64)] 105 #[.pointer w'] w R
/-- slices.Repeat[[]string,string] -/
def F.slices_Repeat_sl_string_string (x : Sl) (count : Int) (w : World) (R : Sl → World → Prop) : Prop := RetT Pg [.one .slice] 106 #[.slice x.a x.len x.cap, .int .i64 count] w R
/-- strings.Repeat -/
def F.strings_Repeat (s : ByteArray) (count : Int) (w : World) (R : ByteArray → World → Prop) : Prop := RetT Pg [.one .str] 107 #[.string s, .int .i64 count] w R
/-- slices.Clone[[]string,string] -/
def F.slices_Clone_sl_string_string (s : Sl) (w : World) (R : Sl → World → Prop) : Prop := RetT Pg [.one .slice] 108 #[.slice s.a s.len s.cap] w R
/-- desk.opened -/
def F.desk_opened (d : Option Addr) (w : World) (R : Option Addr → Int → World → Prop) : Prop := RetT Pg [.one .ptr, .one (.int .i64)] 109 #[.pointer d] w R
/-- room.New -/
def F.room_New (n : Int) (used : Sl) (w : World) (R : Option Addr → Int → World → Prop) : Prop := RetT Pg [.one .ptr, .one (.int .i64)] 110 #[.int .i64 n, .slice used.a used.len used.cap] w R
/-- (*room.Room).Lay -/
def F.room_Room_Lay (r : Option Addr) (w : World) (R : ByteArray → Int → World → Prop) : Prop := RetT Pg [.one .str, .one (.int .i64)] 111 #[.pointer r] w R
/-- (*wal.Wal).Commit -/
def F.wal_Wal_Commit (w' : Option Addr) (l : Sl) (w : World) (R : Int → World → Prop) : Prop := RetT Pg [.one (.int .i64)] 112 #[.pointer w', .slice l.a l.len l.cap] w R
/-- desk.zeros -/
def F.desk_zeros (w : World) (R : ByteArray → World → Prop) : Prop := RetT Pg [.one .str] 113 #[] w R
/-- (*room.Room).Copy -/
def F.room_Room_Copy (r : Option Addr) (w : World) (R : Option Addr → World → Prop) : Prop := RetT Pg [.one .ptr] 114 #[.pointer r] w R
/-- maps.Clone[map[int]string,int,string] -/
def F.maps_Clone_map_int_string_int_string (m : Option Nat) (w : World) (R : Option Nat → World → Prop) : Prop := RetT Pg [.one .map] 115 #[.map m] w R
/-- masonryref1.Low -/
def F.masonryref1_Low (v n : Int) (w : World) (R : ByteArray → World → Prop) : Prop := RetT Pg [.one .str] 121 #[.int .u64 v, .int .i64 n] w R
/-- wal.Open -/
def F.wal_Open (d : Option Addr) (w : World) (R : Option Addr → Int → World → Prop) : Prop := RetT Pg [.one .ptr, .one (.int .i64)] 123 #[.pointer d] w R
/-- (*room.Room).Size -/
def F.room_Room_Size (r : Option Addr) (w : World) (R : Int → World → Prop) : Prop := RetT Pg [.one (.int .i64)] 125 #[.pointer r] w R
/-- (*disk.Disk).write -/
def F.disk_Disk_write (d : Option Addr) (w_0 : Int) (w_1 : ByteArray) (w : World) (R : Int → World → Prop) : Prop := RetT Pg [.one (.int .i64)] 126 #[.pointer d, .agg #[.int .i64 w_0, .string w_1]] w R
/-- (*desk.Desk).written -/
def F.desk_Desk_written (k : Option Addr) (w : World) (R : Sl → World → Prop) : Prop := RetT Pg [.one .slice] 127 #[.pointer k] w R
/-- (*room.Room).Take -/
def F.room_Room_Take (r : Option Addr) (w : World) (R : Int → Int → World → Prop) : Prop := RetT Pg [.one (.int .i64), .one (.int .i64)] 128 #[.pointer r] w R
/-- slices.Contains[[]int,int] -/
def F.slices_Contains_sl_int_int (s : Sl) (v : Int) (w : World) (R : Bool → World → Prop) : Prop := RetT Pg [.one .bool] 129 #[.slice s.a s.len s.cap, .int .i64 v] w R
/-- (*room.Room).Give -/
def F.room_Room_Give (r : Option Addr) (l : Sl) (w : World) (R : Int → World → Prop) : Prop := RetT Pg [.one (.int .i64)] 130 #[.pointer r, .slice l.a l.len l.cap] w R
/-- slices.Clone[[]int,int] -/
def F.slices_Clone_sl_int_int (s : Sl) (w : World) (R : Sl → World → Prop) : Prop := RetT Pg [.one .slice] 131 #[.slice s.a s.len s.cap] w R
/-- masonryref1.ShaOne -/
def F.masonryref1_ShaOne (s : ByteArray) (w : World) (R : ByteArray → World → Prop) : Prop := RetT Pg [.one .str] 136 #[.string s] w R
/-- masonryref1.ShaTwo -/
def F.masonryref1_ShaTwo (s : ByteArray) (w : World) (R : ByteArray → World → Prop) : Prop := RetT Pg [.one .str] 137 #[.string s] w R
/-- mark.Read -/
def F.mark_Read (b : ByteArray) (w : World) (R : Int → ByteArray → Int → World → Prop) : Prop := RetT Pg [.agg [.int .i64, .str], .one (.int .i64)] 138 #[.string b] w R
/-- mark.Of -/
def F.mark_Of (kind : Int) (l : Sl) (w : World) (R : Int → ByteArray → Int → World → Prop) : Prop := RetT Pg [.agg [.int .i64, .str], .one (.int .i64)] 139 #[.int .i64 kind, .slice l.a l.len l.cap] w R
/-- strings.Join -/
def F.strings_Join (elems : Sl) (sep : ByteArray) (w : World) (R : ByteArray → World → Prop) : Prop := RetT Pg [.one .str] 140 #[.slice elems.a elems.len elems.cap, .string sep] w R
/-- mark.Lay -/
def F.mark_Lay (p_0 : Int) (p_1 : ByteArray) (w : World) (R : ByteArray → Int → World → Prop) : Prop := RetT Pg [.one .str, .one (.int .i64)] 141 #[.agg #[.int .i64 p_0, .string p_1]] w R
/-- (*bits.Out).Half -/
def F.bits_Out_Half (o : Option Addr) (l : Sl) (w : World) (R : Option Addr → World → Prop) : Prop := RetT Pg [.one .ptr] 143 #[.pointer o, .slice l.a l.len l.cap] w R
/-- (*bits.Out).Byte -/
def F.bits_Out_Byte (o : Option Addr) (l : Sl) (w : World) (R : Option Addr → World → Prop) : Prop := RetT Pg [.one .ptr] 144 #[.pointer o, .slice l.a l.len l.cap] w R
/-- (*bits.Out).End -/
def F.bits_Out_End (o : Option Addr) (w : World) (R : ByteArray → Int → World → Prop) : Prop := RetT Pg [.one .str, .one (.int .i64)] 145 #[.pointer o] w R
/-- masonrybook.copyTexts -/
def F.masonrybook_copyTexts (l : Sl) (w : World) (R : Sl → World → Prop) : Prop := RetT Pg [.one .slice] 178 #[.slice l.a l.len l.cap] w R
/-- masonrybook.SameTexts -/
def F.masonrybook_SameTexts (a b : Sl) (w : World) (R : Bool → World → Prop) : Prop := RetT Pg [.one .bool] 179 #[.slice a.a a.len a.cap, .slice b.a b.len b.cap] w R
/-- (*bits.Out).Text -/
def F.bits_Out_Text (o : Option Addr) (l : Sl) (w : World) (R : Option Addr → World → Prop) : Prop := RetT Pg [.one .ptr] 180 #[.pointer o, .slice l.a l.len l.cap] w R
/-- crc.Seal -/
def F.crc_Seal (n : Int) (l : Sl) (w : World) (R : ByteArray → Int → World → Prop) : Prop := RetT Pg [.one .str, .one (.int .i64)] 181 #[.int .i64 n, .slice l.a l.len l.cap] w R
/-- chain.read -/
def F.chain_read (b : ByteArray) (w : World) (R : Int → Int → Int → Int → Int → ByteArray → Bool → World → Prop) : Prop := RetT Pg [.agg [.int .i64, .int .i64, .int .i64, .int .i64, .int .i64, .str], .one .bool] 182 #[.string b] w R
/-- (*wal.Wal).Up -/
def F.wal_Wal_Up (w' : Option Addr) (w : World) (R : Bool → World → Prop) : Prop := RetT Pg [.one .bool] 183 #[.pointer w'] w R
/-- (*disk.Disk).Read -/
def F.disk_Disk_Read (d : Option Addr) (at_ : Int) (w : World) (R : ByteArray → Int → World → Prop) : Prop := RetT Pg [.one .str, .one (.int .i64)] 184 #[.pointer d, .int .i64 at_] w R
/-- internal/stringslite.Clone -/
def F.stringslite_Clone (s : ByteArray) (w : World) (R : ByteArray → World → Prop) : Prop := RetT Pg [.one .str] 185 #[.string s] w R
/-- (*bits.In).low -/
def F.bits_In_low (i : Option Addr) (size : Int) (w : World) (R : Int → World → Prop) : Prop := RetT Pg [.one (.int .i64)] 186 #[.pointer i, .int .i64 size] w R
/-- (*disk.Disk).Size -/
def F.disk_Disk_Size (d : Option Addr) (w : World) (R : Int → World → Prop) : Prop := RetT Pg [.one (.int .i64)] 187 #[.pointer d] w R
/-- math/bits.Mul -/
def F.bits_Mul (x y : Int) (w : World) (R : Int → Int → World → Prop) : Prop := RetT Pg [.one (.int .u64), .one (.int .u64)] 188 #[.int .u64 x, .int .u64 y] w R
/-- (*disk.Disk).Flush -/
def F.disk_Disk_Flush (d : Option Addr) (w : World) (R : Int → World → Prop) : Prop := RetT Pg [.one (.int .i64)] 194 #[.pointer d] w R
/-- (*bits.Out).Raw -/
def F.bits_Out_Raw (o : Option Addr) (l : Sl) (w : World) (R : Option Addr → World → Prop) : Prop := RetT Pg [.one .ptr] 195 #[.pointer o, .slice l.a l.len l.cap] w R
/-- (*wal.Wal).last -/
def F.wal_Wal_last (w' : Option Addr) (l : Sl) (w : World) (R : Option Nat → Int → World → Prop) : Prop := RetT Pg [.one .map, .one (.int .i64)] 196 #[.pointer w', .slice l.a l.len l.cap] w R
/-- slices.Sorted[int] -/
def F.slices_Sorted_int (seq : Value) (w : World) (R : Sl → World → Prop) : Prop := RetT Pg [.one .slice] 197 #[seq] w R
/-- maps.Keys[map[int]string,int,string] -/
def F.maps_Keys_map_int_string_int_string (m : Option Nat) (w : World) (R : Value → World → Prop) : Prop := RetT Pg [.one .any] 198 #[.map m] w R
/-- (*wal.Wal).put -/
def F.wal_Wal_put (w' : Option Addr) (l : Sl) (w : World) (R : Int → World → Prop) : Prop := RetT Pg [.one (.int .i64)] 199 #[.pointer w', .slice l.a l.len l.cap] w R
/-- (*wal.Wal).putHead -/
def F.wal_Wal_putHead (w' : Option Addr) (h_0 : Int) (h_1 : Bool) (h_2 : Sl) (w : World) (R : Int → World → Prop) : Prop := RetT Pg [.one (.int .i64)] 200 #[.pointer w', .agg #[.int .i64 h_0, .bool h_1, .slice h_2.a h_2.len h_2.cap]] w R
/-- head.Next -/
def F.head_Next (h_0 : Int) (h_1 : Bool) (h_2 targets : Sl) (w : World) (R : Int → Bool → Sl → World → Prop) : Prop := RetT Pg [.agg [.int .i64, .bool, .slice]] 201 #[.agg #[.int .i64 h_0, .bool h_1, .slice h_2.a h_2.len h_2.cap], .slice targets.a targets.len targets.cap] w R
/-- (*wal.Wal).write -/
def F.wal_Wal_write (w' : Option Addr) (l : Sl) (w : World) (R : Int → World → Prop) : Prop := RetT Pg [.one (.int .i64)] 202 #[.pointer w', .slice l.a l.len l.cap] w R
/-- slices.Clone[[]bool,bool] -/
def F.slices_Clone_sl_bool_bool (s : Sl) (w : World) (R : Sl → World → Prop) : Prop := RetT Pg [.one .slice] 203 #[.slice s.a s.len s.cap] w R
/-- (*bits.In).Raw -/
def F.bits_In_Raw (i : Option Addr) (n : Int) (w : World) (R : ByteArray → World → Prop) : Prop := RetT Pg [.one .str] 207 #[.pointer i, .int .i64 n] w R
/-- strings.Trim -/
def F.strings_Trim (s cutset : ByteArray) (w : World) (R : ByteArray → World → Prop) : Prop := RetT Pg [.one .str] 209 #[.string s, .string cutset] w R
/-- head.Read -/
def F.head_Read (b : ByteArray) (w : World) (R : Int → Bool → Sl → Int → World → Prop) : Prop := RetT Pg [.agg [.int .i64, .bool, .slice], .one (.int .i64)] 210 #[.string b] w R
/-- (*wal.Wal).logged -/
def F.wal_Wal_logged (w' : Option Addr) (w : World) (R : Sl → Int → World → Prop) : Prop := RetT Pg [.one .slice, .one (.int .i64)] 211 #[.pointer w'] w R
/-- crc.Open -/
def F.crc_Open (b : ByteArray) (w : World) (R : ByteArray → Int → World → Prop) : Prop := RetT Pg [.one .str, .one (.int .i64)] 212 #[.string b] w R
/-- (*disk.Disk).may -/
def F.disk_Disk_may (d : Option Addr) (at_ : Int) (w : World) (R : Int → World → Prop) : Prop := RetT Pg [.one (.int .i64)] 213 #[.pointer d, .int .i64 at_] w R
/-- (*disk.Disk).goes -/
def F.disk_Disk_goes (d : Option Addr) (w : World) (R : Bool → World → Prop) : Prop := RetT Pg [.one .bool] 214 #[.pointer d] w R
/-- slices.BinarySearchFunc[[]api.Write,api.Write,int] -/
def F.slices_BinarySearchFunc_sl_api_Write_api_Write_int (x : Sl) (target : Int) (cmp : Value) (w : World) (R : Int → Bool → World → Prop) : Prop := RetT Pg [.one (.int .i64), .one .bool] 215 #[.slice x.a x.len x.cap, .int .i64 target, cmp] w R
/-- (*desk.Desk).written$1 -/
def F.desk_Desk_written_fn1 (w_0 : Int) (w_1 : ByteArray) (at_ : Int) (w : World) (R : Int → World → Prop) : Prop := RetT Pg [.one (.int .i64)] 216 #[.agg #[.int .i64 w_0, .string w_1], .int .i64 at_] w R
/-- slices.Insert[[]api.Write,api.Write] -/
def F.slices_Insert_sl_api_Write_api_Write (s : Sl) (i : Int) (v : Sl) (w : World) (R : Sl → World → Prop) : Prop := RetT Pg [.one .slice] 217 #[.slice s.a s.len s.cap, .int .i64 i, .slice v.a v.len v.cap] w R
/-- slices.Index[[]bool,bool] -/
def F.slices_Index_sl_bool_bool (s : Sl) (v : Bool) (w : World) (R : Int → World → Prop) : Prop := RetT Pg [.one (.int .i64)] 218 #[.slice s.a s.len s.cap, .bool v] w R
/-- slices.Index[[]int,int] -/
def F.slices_Index_sl_int_int (s : Sl) (v : Int) (w : World) (R : Int → World → Prop) : Prop := RetT Pg [.one (.int .i64)] 219 #[.slice s.a s.len s.cap, .int .i64 v] w R
/-- masonryref1.Pad -/
def F.masonryref1_Pad (n : Int) (w : World) (R : ByteArray → World → Prop) : Prop := RetT Pg [.one .str] 221 #[.int .i64 n] w R
/-- masonryref1.word -/
def F.masonryref1_word (s : ByteArray) (w : World) (R : Int → World → Prop) : Prop := RetT Pg [.one (.int .u32)] 222 #[.string s] w R
/-- masonryref1.turn -/
def F.masonryref1_turn (x n : Int) (w : World) (R : Int → World → Prop) : Prop := RetT Pg [.one (.int .u32)] 223 #[.int .u32 x, .int .i64 n] w R
/-- masonryref1.High -/
def F.masonryref1_High (v n : Int) (w : World) (R : ByteArray → World → Prop) : Prop := RetT Pg [.one .str] 224 #[.int .u64 v, .int .i64 n] w R
/-- masonryref1.Keys -/
def F.masonryref1_Keys (w : World) (R : Sl → World → Prop) : Prop := RetT Pg [.one .slice] 225 #[] w R
/-- mark.Size -/
def F.mark_Size (kind : Int) (w : World) (R : Int → World → Prop) : Prop := RetT Pg [.one (.int .i64)] 226 #[.int .i64 kind] w R
/-- mark.Valid -/
def F.mark_Valid (p_0 : Int) (p_1 : ByteArray) (w : World) (R : Bool → World → Prop) : Prop := RetT Pg [.one .bool] 227 #[.agg #[.int .i64 p_0, .string p_1]] w R
/-- (*bits.In).Rest -/
def F.bits_In_Rest (i : Option Addr) (w : World) (R : Bool → World → Prop) : Prop := RetT Pg [.one .bool] 228 #[.pointer i] w R
/-- shaone.Sum -/
def F.shaone_Sum (l : Sl) (w : World) (R : ByteArray → World → Prop) : Prop := RetT Pg [.one .str] 229 #[.slice l.a l.len l.cap] w R
/-- shatwo.Sum -/
def F.shatwo_Sum (l : Sl) (w : World) (R : ByteArray → World → Prop) : Prop := RetT Pg [.one .str] 230 #[.slice l.a l.len l.cap] w R
/-- (*bits.Out).Pad -/
def F.bits_Out_Pad (o : Option Addr) (n : Int) (w : World) (R : Option Addr → World → Prop) : Prop := RetT Pg [.one .ptr] 231 #[.pointer o, .int .i64 n] w R
/-- (*bits.Out).lay -/
def F.bits_Out_lay (o : Option Addr) (size : Int) (l : Sl) (w : World) (R : Option Addr → World → Prop) : Prop := RetT Pg [.one .ptr] 232 #[.pointer o, .int .i64 size, .slice l.a l.len l.cap] w R
/-- (*bits.Out).Word -/
def F.bits_Out_Word (o : Option Addr) (l : Sl) (w : World) (R : Option Addr → World → Prop) : Prop := RetT Pg [.one .ptr] 246 #[.pointer o, .slice l.a l.len l.cap] w R
/-- crc.Of -/
def F.crc_Of (l : Sl) (w : World) (R : Int → World → Prop) : Prop := RetT Pg [.one (.int .u32)] 247 #[.slice l.a l.len l.cap] w R
/-- (*bits.In).Text -/
def F.bits_In_Text (i : Option Addr) (w : World) (R : ByteArray → World → Prop) : Prop := RetT Pg [.one .str] 248 #[.pointer i] w R
/-- math/bits.Mul64 -/
def F.bits_Mul64 (x y : Int) (w : World) (R : Int → Int → World → Prop) : Prop := RetT Pg [.one (.int .u64), .one (.int .u64)] 250 #[.int .u64 x, .int .u64 y] w R
/-- slices.Sort[[]int,int] -/
def F.slices_Sort_sl_int_int (x : Sl) (w : World) (R : World → Prop) : Prop := RetT Pg [] 255 #[.slice x.a x.len x.cap] w R
/-- head.Lay -/
def F.head_Lay (h_0 : Int) (h_1 : Bool) (h_2 : Sl) (w : World) (R : ByteArray → Int → World → Prop) : Prop := RetT Pg [.one .str, .one (.int .i64)] 257 #[.agg #[.int .i64 h_0, .bool h_1, .slice h_2.a h_2.len h_2.cap]] w R
/-- slices.Compact[[]int,int] -/
def F.slices_Compact_sl_int_int (s : Sl) (w : World) (R : Sl → World → Prop) : Prop := RetT Pg [.one .slice] 258 #[.slice s.a s.len s.cap] w R
/-- head.Done -/
def F.head_Done (h_0 : Int) (h_1 : Bool) (h_2 : Sl) (w : World) (R : Int → Bool → Sl → World → Prop) : Prop := RetT Pg [.agg [.int .i64, .bool, .slice]] 259 #[.agg #[.int .i64 h_0, .bool h_1, .slice h_2.a h_2.len h_2.cap]] w R
/-- (*bits.In).Long -/
def F.bits_In_Long (i : Option Addr) (w : World) (R : Int → World → Prop) : Prop := RetT Pg [.one (.int .i64)] 267 #[.pointer i] w R
/-- (*bits.In).Word -/
def F.bits_In_Word (i : Option Addr) (w : World) (R : Int → World → Prop) : Prop := RetT Pg [.one (.int .i64)] 268 #[.pointer i] w R
/-- slices.rotateRight[api.Write] -/
def F.slices_rotateRight_api_Write (s : Sl) (r : Int) (w : World) (R : World → Prop) : Prop := RetT Pg [] 270 #[.slice s.a s.len s.cap, .int .i64 r] w R
/-- shaone.Pad -/
def F.shaone_Pad (n : Int) (w : World) (R : ByteArray → World → Prop) : Prop := RetT Pg [.one .str] 272 #[.int .i64 n] w R
/-- shaone.mix -/
def F.shaone_mix (h_0 h_1 h_2 h_3 h_4 : Int) (s : ByteArray) (w : World) (R : Int → Int → Int → Int → Int → World → Prop) : Prop := RetT Pg [.agg [.int .u32, .int .u32, .int .u32, .int .u32, .int .u32]] 273 #[.agg #[.int .u32 h_0, .int .u32 h_1, .int .u32 h_2, .int .u32 h_3, .int .u32 h_4], .string s] w R
/-- shaone.high -/
def F.shaone_high (v size : Int) (w : World) (R : ByteArray → World → Prop) : Prop := RetT Pg [.one .str] 274 #[.int .u64 v, .int .i64 size] w R
/-- shatwo.mix -/
def F.shatwo_mix (h_0 h_1 h_2 h_3 h_4 h_5 h_6 h_7 : Int) (s : ByteArray) (w : World) (R : Int → Int → Int → Int → Int → Int → Int → Int → World → Prop) : Prop := RetT Pg [.agg [.int .u32, .int .u32, .int .u32, .int .u32, .int .u32, .int .u32, .int .u32, .int .u32]] 275 #[.agg #[.int .u32 h_0, .int .u32 h_1, .int .u32 h_2, .int .u32 h_3, .int .u32 h_4, .int .u32 h_5, .int .u32 h_6, .int .u32 h_7], .string s] w R
/-- crc.half -/
def F.crc_half (w : World) (R : Int → Int → Int → Int → Int → Int → Int → Int → Int → Int → Int → Int → Int → Int → Int → Int → World → Prop) : Prop := RetT Pg [.agg [.int .u32, .int .u32, .int .u32, .int .u32, .int .u32, .int .u32, .int .u32, .int .u32, .int .u32, .int .u32, .int .u32, .int .u32, .int .u32, .int .u32, .int .u32, .int .u32]] 277 #[] w R
/-- head.Valid -/
def F.head_Valid (h_0 : Int) (h_1 : Bool) (h_2 : Sl) (w : World) (R : Bool → World → Prop) : Prop := RetT Pg [.one .bool] 283 #[.agg #[.int .i64 h_0, .bool h_1, .slice h_2.a h_2.len h_2.cap]] w R
/-- (*bits.Out).Long -/
def F.bits_Out_Long (o : Option Addr) (l : Sl) (w : World) (R : Option Addr → World → Prop) : Prop := RetT Pg [.one .ptr] 284 #[.pointer o, .slice l.a l.len l.cap] w R
/-- math/bits.RotateLeft32 -/
def F.bits_RotateLeft32 (x k : Int) (w : World) (R : Int → World → Prop) : Prop := RetT Pg [.one (.int .u32)] 290 #[.int .u32 x, .int .i64 k] w R
/-- shaone.round -/
def F.shaone_round (t b c d : Int) (w : World) (R : Int → Int → World → Prop) : Prop := RetT Pg [.one (.int .u32), .one (.int .u32)] 291 #[.int .i64 t, .int .u32 b, .int .u32 c, .int .u32 d] w R
/-- shatwo.words -/
def F.shatwo_words (s : ByteArray) (w : World) (R : Int → Int → Int → Int → Int → Int → Int → Int → Int → Int → Int → Int → Int → Int → Int → Int → Int → Int → Int → Int → Int → Int → Int → Int → Int → Int → Int → Int → Int → Int → Int → Int → Int → Int → Int → Int → Int → Int → Int → Int → Int → Int → Int → Int → Int → Int → Int → Int → Int → Int → Int → Int → Int → Int → Int → Int → Int → Int → Int → Int → Int → Int → Int → Int → World → Prop) : Prop := RetT Pg [.agg [.int .u32, .int .u32, .int .u32, .int .u32, .int .u32, .int .u32, .int .u32, .int .u32, .int .u32, .int .u32, .int .u32, .int .u32, .int .u32, .int .u32, .int .u32, .int .u32, .int .u32, .int .u32, .int .u32, .int .u32, .int .u32, .int .u32, .int .u32, .int .u32, .int .u32, .int .u32, .int .u32, .int .u32, .int .u32, .int .u32, .int .u32, .int .u32, .int .u32, .int .u32, .int .u32, .int .u32, .int .u32, .int .u32, .int .u32, .int .u32, .int .u32, .int .u32, .int .u32, .int .u32, .int .u32, .int .u32, .int .u32, .int .u32, .int .u32, .int .u32, .int .u32, .int .u32, .int .u32, .int .u32, .int .u32, .int .u32, .int .u32, .int .u32, .int .u32, .int .u32, .int .u32, .int .u32, .int .u32, .int .u32]] 292 #[.string s] w R
/-- shatwo.keys -/
def F.shatwo_keys (w : World) (R : Int → Int → Int → Int → Int → Int → Int → Int → Int → Int → Int → Int → Int → Int → Int → Int → Int → Int → Int → Int → Int → Int → Int → Int → Int → Int → Int → Int → Int → Int → Int → Int → Int → Int → Int → Int → Int → Int → Int → Int → Int → Int → Int → Int → Int → Int → Int → Int → Int → Int → Int → Int → Int → Int → Int → Int → Int → Int → Int → Int → Int → Int → Int → Int → World → Prop) : Prop := RetT Pg [.agg [.int .u32, .int .u32, .int .u32, .int .u32, .int .u32, .int .u32, .int .u32, .int .u32, .int .u32, .int .u32, .int .u32, .int .u32, .int .u32, .int .u32, .int .u32, .int .u32, .int .u32, .int .u32, .int .u32, .int .u32, .int .u32, .int .u32, .int .u32, .int .u32, .int .u32, .int .u32, .int .u32, .int .u32, .int .u32, .int .u32, .int .u32, .int .u32, .int .u32, .int .u32, .int .u32, .int .u32, .int .u32, .int .u32, .int .u32, .int .u32, .int .u32, .int .u32, .int .u32, .int .u32, .int .u32, .int .u32, .int .u32, .int .u32, .int .u32, .int .u32, .int .u32, .int .u32, .int .u32, .int .u32, .int .u32, .int .u32, .int .u32, .int .u32, .int .u32, .int .u32, .int .u32, .int .u32, .int .u32, .int .u32]] 293 #[] w R
/-- shatwo.right -/
def F.shatwo_right (x n : Int) (w : World) (R : Int → World → Prop) : Prop := RetT Pg [.one (.int .u32)] 294 #[.int .u32 x, .int .i64 n] w R
theorem Ez {H : Hints} {f : FuncId} {fn : Func} (hf : Tryz.prog.funcs[f]? = some fn) (L : List Ly) (A : List SV) (ha : argsOk A = true) (w : World) (R : Go.Vc.Fn (flats L) (World → Prop)) {a b : Prop} (e : (vcFun cfg H fn L A w R → RetT cfg.P L f ⟨SV.vs A⟩ w R) = (a → b)) (h : a) : b := Eq.mp e (vcFun_sound (C := cfg) cfg_ok hf ha) h
end Go.Proofs.YtmokmbhhnbcelaaGreatDoor
