import Derived.Test.YtggachhkcmfijaaGreatDoorVc
import Derived.Test.YtggachhkcmfijaaGreatDoorChecked
import Derived.Eval
namespace Go.Proofs.YtggachhkcmfijaaGreatDoor
open Go Go.Vc
open Go.RowKit (Below)
set_option linter.unusedVariables false
noncomputable abbrev Pg : Program := Tryz.prog
abbrev T.y_t0 : TypeId := 0
abbrev T.y_int : TypeId := 3
abbrev T.y_bool : TypeId := 4
abbrev T.y_uint8 : TypeId := 5
abbrev T.y_string : TypeId := 9
abbrev T.y_api_Print : TypeId := 23
abbrev T.y_p_desk_Desk : TypeId := 26
abbrev T.y_sl_api_Entry : TypeId := 28
abbrev T.y_sl_int : TypeId := 29
abbrev T.y_api_Entry : TypeId := 31
abbrev T.y_sl_string : TypeId := 71
abbrev T.y_sl_uint8 : TypeId := 79
abbrev T.y_map_int_string : TypeId := 90
abbrev T.y_desk_Desk : TypeId := 92
abbrev T.y_p_tree_node : TypeId := 98
abbrev T.y_tree_tree : TypeId := 100
abbrev T.y_sl_p_tree_node : TypeId := 101
abbrev T.y_tree_node : TypeId := 103
abbrev T.y_map_int_bool : TypeId := 118
abbrev T.y_sl_bool : TypeId := 121
abbrev T.y_room_Room : TypeId := 123
abbrev T.y_sl_api_Write : TypeId := 141
abbrev T.y_api_Write : TypeId := 145
abbrev T.y_desk_Mark : TypeId := 152
abbrev T.y_disk_Disk : TypeId := 163
abbrev T.y_chain_Chain : TypeId := 183
abbrev T.y_head_Head : TypeId := 218
abbrev T.y_wal_Wal : TypeId := 220
abbrev T.y_uint32 : TypeId := 242
abbrev T.y_sl_uint32 : TypeId := 243
abbrev T.y_bits_Out : TypeId := 263
abbrev T.y_sl_chain_link : TypeId := 282
abbrev T.y_chain_link : TypeId := 286
abbrev T.y_bits_In : TypeId := 337
abbrev T.y_16_uint32 : TypeId := 343
def str_abc : ByteArray := ⟨#[97, 98, 99]⟩
def str_x : ByteArray := ⟨#[0]⟩
def str_cannotbenega : ByteArray := ⟨#[99, 97, 110, 110, 111, 116, 32, 98, 101, 32, 110, 101, 103, 97, 116, 105, 118, 101]⟩
def str_theresultofl : ByteArray := ⟨#[116, 104, 101, 32, 114, 101, 115, 117, 108, 116, 32, 111, 102, 32, 40, 108, 101, 110, 40, 120, 41, 32, 42, 32, 99, 111, 117, 110, 116, 41, 32, 111, 118, 101, 114, 102, 108, 111, 119, 115]⟩
def str_x_ : ByteArray := ⟨#[128]⟩
def okl : List Nat := [3, 4, 5, 6, 7, 8, 9, 10, 11, 12, 13, 14, 15, 16, 17, 18, 19, 20, 21, 22, 23, 24, 25, 26, 27, 28, 29, 30, 31, 32, 33, 34, 35, 36, 37, 38, 39, 40, 41, 42, 43, 44, 45, 46, 47, 48, 49, 50, 51, 52, 53, 54, 55, 56, 57, 58, 59, 60, 61, 62, 63, 64, 65, 66, 67, 68, 69, 70, 71, 72, 73, 74, 75, 76, 77, 78, 79, 80, 81, 82, 83, 84, 85, 86, 87, 88, 89, 90, 91, 92, 93, 94, 95, 96, 97, 98, 99, 100, 101, 102, 103, 104, 105, 106, 107, 108, 109, 110, 111, 112, 113, 114, 115, 116, 117, 118, 119, 120, 121, 122, 123, 124, 125, 126, 127, 128, 129, 130, 131, 132, 133, 134, 135, 136, 137, 138, 139, 140, 141, 142, 143, 144, 145, 146, 147, 148, 149, 150, 151, 152, 153, 154, 155, 156, 157, 158, 159, 160, 161, 162, 163, 164, 165, 166, 167, 168, 169, 170, 171, 172, 173, 174, 175, 176, 177, 178, 179, 180, 181, 182, 183, 184, 185, 186, 187, 188, 189, 190, 191, 192, 193, 194, 195, 196, 197, 198, 199, 201, 202, 204, 205, 206, 207, 208, 209, 210, 211, 212, 213, 214, 215, 216, 217, 218, 219, 220, 221, 222, 223, 224, 226, 227, 228, 229, 230, 231, 232, 233, 234, 235, 236, 237, 238, 239, 241, 242, 243, 244, 245, 246, 247, 248, 249, 250, 251, 252, 253, 254, 255, 256, 257, 258, 259, 260, 261, 262, 263, 264, 265, 266, 267, 268, 269, 270, 271, 272, 273, 274, 275, 276, 277, 278, 279, 280, 281, 282, 283, 284, 285, 286, 287, 288, 289, 290, 293, 294, 295, 296, 297, 298, 299, 300, 301, 302, 303, 304, 305, 306, 307, 309, 310, 311, 312, 313, 314, 315, 316, 317, 318, 319, 320, 321, 322, 323, 324, 326, 352]
def eqs : TypeId → Option (List Sh)
 | 23 => some [.int .i64, .str]
 | 31 => some [.int .i64, .str, .int .i64]
 | 145 => some [.int .i64, .str]
 | 208 => some [.int .i64, .int .i64]
 | 211 => some [.int .i64, .int .i64]
 | 215 => some [.str, .str]
 | _ => none
noncomputable def cfg : Cfg := { P := Tryz.prog, okf := fun f => memB f okl, eqs := eqs }
theorem okl_ok : okl.all (okChk Tryz.prog) = true := by kernel_rfl
theorem eq_23 : eqChk Tryz.prog 6 23 [.int .i64, .str] = true := by kernel_rfl
theorem eq_31 : eqChk Tryz.prog 6 31 [.int .i64, .str, .int .i64] = true := by kernel_rfl
theorem eq_145 : eqChk Tryz.prog 6 145 [.int .i64, .str] = true := by kernel_rfl
theorem eq_208 : eqChk Tryz.prog 6 208 [.int .i64, .int .i64] = true := by kernel_rfl
theorem eq_211 : eqChk Tryz.prog 6 211 [.int .i64, .int .i64] = true := by kernel_rfl
theorem eq_215 : eqChk Tryz.prog 6 215 [.str, .str] = true := by kernel_rfl
theorem cfg_ok : CfgOk cfg where
 okf := fun f h => okChk_spec (List.all_eq_true.1 okl_ok f ((memB_iff f okl).1 h))
 mixed := Checked.mixed Tryz.checked
 eqs := fun t sh h => by
   unfold cfg eqs at h
   simp only at h
   split at h
   · injection h with h; subst h; exact eqChk_spec (by decide) eq_23
   · injection h with h; subst h; exact eqChk_spec (by decide) eq_31
   · injection h with h; subst h; exact eqChk_spec (by decide) eq_145
   · injection h with h; subst h; exact eqChk_spec (by decide) eq_208
   · injection h with h; subst h; exact eqChk_spec (by decide) eq_211
   · injection h with h; subst h; exact eqChk_spec (by decide) eq_215
   · cases h
/-- masonrylaw18.TreeAlike -/
def F.masonrylaw18_TreeAlike (n p_0 : Int) (p_1 : ByteArray) (q_0 : Int) (q_1 : ByteArray) (w : World) (R : Bool → World → Prop) : Prop := RetT Pg [.one .bool] 3 #[.int .i64 n, .agg #[.int .i64 p_0, .string p_1], .agg #[.int .i64 q_0, .string q_1]] w R
/-- masonryref1.ValidPrint -/
def F.masonryref1_ValidPrint (p_0 : Int) (p_1 : ByteArray) (w : World) (R : Bool → World → Prop) : Prop := RetT Pg [.one .bool] 8 #[.agg #[.int .i64 p_0, .string p_1]] w R
/-- masonrylaw18.alive -/
def F.masonrylaw18_alive (w : World) (R : Bool → World → Prop) : Prop := RetT Pg [.one .bool] 9 #[] w R
/-- masonrylaw12.Fresh -/
def F.masonrylaw12_Fresh (n : Int) (w : World) (R : Option Addr → World → Prop) : Prop := RetT Pg [.one .ptr] 10 #[.int .i64 n] w R
/-- masonryref1.Put -/
def F.masonryref1_Put (l : Sl) (id : Int) (w : World) (R : Sl → World → Prop) : Prop := RetT Pg [.one .slice] 11 #[.slice l.a l.len l.cap, .int .i64 id] w R
/-- tree.Add -/
def F.tree_Add (k : Option Addr) (gen root : Int) (l : Sl) (w : World) (R : Int → Int → World → Prop) : Prop := RetT Pg [.one (.int .i64), .one (.int .i64)] 12 #[.pointer k, .int .i64 gen, .int .i64 root, .slice l.a l.len l.cap] w R
/-- tree.Find -/
def F.tree_Find (k : Option Addr) (root p_0 : Int) (p_1 : ByteArray) (w : World) (R : Sl → Int → World → Prop) : Prop := RetT Pg [.one .slice, .one (.int .i64)] 13 #[.pointer k, .int .i64 root, .agg #[.int .i64 p_0, .string p_1]] w R
/-- masonrybook.SameInts -/
def F.masonrybook_SameInts (a b : Sl) (w : World) (R : Bool → World → Prop) : Prop := RetT Pg [.one .bool] 14 #[.slice a.a a.len a.cap, .slice b.a b.len b.cap] w R
/-- tree.Check -/
def F.tree_Check (k : Option Addr) (gen root : Int) (w : World) (R : Int → World → Prop) : Prop := RetT Pg [.one (.int .i64)] 15 #[.pointer k, .int .i64 gen, .int .i64 root] w R
/-- (*desk.Desk).Get -/
def F.desk_Desk_Get (k : Option Addr) (at_ : Int) (w : World) (R : ByteArray → Int → World → Prop) : Prop := RetT Pg [.one .str, .one (.int .i64)] 31 #[.pointer k, .int .i64 at_] w R
/-- tree.Depth -/
def F.tree_Depth (k : Option Addr) (root : Int) (w : World) (R : Int → Int → World → Prop) : Prop := RetT Pg [.one (.int .i64), .one (.int .i64)] 35 #[.pointer k, .int .i64 root] w R
/-- masonryref1.Size -/
def F.masonryref1_Size (kind : Int) (w : World) (R : Int → World → Prop) : Prop := RetT Pg [.one (.int .i64)] 37 #[.int .i64 kind] w R
/-- masonryref1.Print -/
def F.masonryref1_Print (kind : Int) (s : ByteArray) (w : World) (R : Int → ByteArray → World → Prop) : Prop := RetT Pg [.agg [.int .i64, .str]] 38 #[.int .i64 kind, .string s] w R
/-- disk.New -/
def F.disk_New (n : Int) (w : World) (R : Option Addr → Int → World → Prop) : Prop := RetT Pg [.one .ptr, .one (.int .i64)] 39 #[.int .i64 n] w R
/-- desk.Format -/
def F.desk_Format (d : Option Addr) (w : World) (R : Option Addr → Int → World → Prop) : Prop := RetT Pg [.one .ptr, .one (.int .i64)] 40 #[.pointer d] w R
/-- tree.change -/
def F.tree_change (k : Option Addr) (gen root : Int) (l : Sl) (do_ : Value) (w : World) (R : Int → Int → World → Prop) : Prop := RetT Pg [.one (.int .i64), .one (.int .i64)] 41 #[.pointer k, .int .i64 gen, .int .i64 root, .slice l.a l.len l.cap, do_] w R
/-- tree.Add$1 -/
def F.tree_Add_fn1 (t : Option Addr) (x_0 : Int) (x_1 : ByteArray) (x_2 : Int) (c : Addr) (c' : Addr) (w : World) (R : Int → World → Prop) : Prop := RetT Pg [.one (.int .i64)] 42 #[.pointer t, .agg #[.int .i64 x_0, .string x_1, .int .i64 x_2], .pointer (some c), .pointer (some c')] w R
/-- tree.valid -/
def F.tree_valid (x_0 : Int) (x_1 : ByteArray) (x_2 : Int) (w : World) (R : Bool → World → Prop) : Prop := RetT Pg [.one .bool] 43 #[.agg #[.int .i64 x_0, .string x_1, .int .i64 x_2]] w R
/-- (*tree.tree).count -/
def F.tree_tree_count (t : Option Addr) (more : Int) (w : World) (R : Int → Int → World → Prop) : Prop := RetT Pg [.one (.int .i64), .one (.int .i64)] 44 #[.pointer t, .int .i64 more] w R
/-- (*tree.tree).full -/
def F.tree_tree_full (t : Option Addr) (x_0 : Int) (x_1 : ByteArray) (x_2 : Int) (w : World) (R : Int → World → Prop) : Prop := RetT Pg [.one (.int .i64)] 45 #[.pointer t, .agg #[.int .i64 x_0, .string x_1, .int .i64 x_2]] w R
/-- (*tree.tree).add -/
def F.tree_tree_add (t n : Option Addr) (x_0 : Int) (x_1 : ByteArray) (x_2 depth : Int) (w : World) (R : Option Addr → Int → World → Prop) : Prop := RetT Pg [.one .ptr, .one (.int .i64)] 46 #[.pointer t, .pointer n, .agg #[.int .i64 x_0, .string x_1, .int .i64 x_2], .int .i64 depth] w R
/-- (*tree.tree).grow -/
def F.tree_tree_grow (t m : Option Addr) (w : World) (R : World → Prop) : Prop := RetT Pg [] 47 #[.pointer t, .pointer m] w R
/-- tree.open -/
def F.tree_open (k : Option Addr) (gen root : Int) (w : World) (R : Option Addr → Int → World → Prop) : Prop := RetT Pg [.one .ptr, .one (.int .i64)] 48 #[.pointer k, .int .i64 gen, .int .i64 root] w R
/-- (*tree.tree).find -/
def F.tree_tree_find (t n : Option Addr) (p_0 : Int) (p_1 : ByteArray) (depth : Int) (out : Option Addr) (w : World) (R : Int → World → Prop) : Prop := RetT Pg [.one (.int .i64)] 49 #[.pointer t, .pointer n, .agg #[.int .i64 p_0, .string p_1], .int .i64 depth, .pointer out] w R
/-- slices.Sort[[]int,int] -/
def F.slices_Sort_sl_int_int (x : Sl) (w : World) (R : World → Prop) : Prop := RetT Pg [] 50 #[.slice x.a x.len x.cap] w R
/-- (*tree.tree).look -/
def F.tree_tree_look (t n : Option Addr) (depth level : Int) (low high : Option Addr) (w : World) (R : Int → World → Prop) : Prop := RetT Pg [.one (.int .i64)] 51 #[.pointer t, .pointer n, .int .i64 depth, .int .i64 level, .pointer low, .pointer high] w R
/-- (*tree.tree).all -/
def F.tree_tree_all (t : Option Addr) (w : World) (R : Sl → Int → World → Prop) : Prop := RetT Pg [.one .slice, .one (.int .i64)] 59 #[.pointer t] w R
/-- (*room.Room).Copy -/
def F.room_Room_Copy (r : Option Addr) (w : World) (R : Option Addr → World → Prop) : Prop := RetT Pg [.one .ptr] 62 #[.pointer r] w R
/-- (*desk.Desk).Bad -/
def F.desk_Desk_Bad (k : Option Addr) (w : World) (R : Int → World → Prop) : Prop := RetT Pg [.one (.int .i64)] 95 #[.pointer k] w R
/-- (*wal.Wal).Read -/
def F.wal_Wal_Read (w' : Option Addr) (at_ : Int) (w : World) (R : ByteArray → Int → World → Prop) : Prop := RetT Pg [.one .str, .one (.int .i64)] 96 #[.pointer w', .int .i64 at_] w R
/-- (*wal.Wal).Commit -/
def F.wal_Wal_Commit (w' : Option Addr) (l : Sl) (w : World) (R : Int → World → Prop) : Prop := RetT Pg [.one (.int .i64)] 98 #[.pointer w', .slice l.a l.len l.cap] w R
/-- slices.Clone[[]api.Entry,api.Entry] -/
def F.slices_Clone_sl_api_Entry_api_Entry (s : Sl) (w : World) (R : Sl → World → Prop) : Prop := RetT Pg [.one .slice] 101 #[.slice s.a s.len s.cap] w R
/-- tree.compare -/
def F.tree_compare (a_0 : Int) (a_1 : ByteArray) (a_2 b_0 : Int) (b_1 : ByteArray) (b_2 : Int) (w : World) (R : Int → World → Prop) : Prop := RetT Pg [.one (.int .i64)] 103 #[.agg #[.int .i64 a_0, .string a_1, .int .i64 a_2], .agg #[.int .i64 b_0, .string b_1, .int .i64 b_2]] w R
/-- (*desk.Desk).Mark -/
def F.desk_Desk_Mark (k : Option Addr) (w : World) (R : Option Addr → Option Addr → Option Nat → Int → World → Prop) : Prop := RetT Pg [.agg [.ptr, .ptr, .map, .int .i64]] 107 #[.pointer k] w R
/-- (*tree.tree).done -/
def F.tree_tree_done (t : Option Addr) (w : World) (R : Int → Int → World → Prop) : Prop := RetT Pg [.one (.int .i64), .one (.int .i64)] 108 #[.pointer t] w R
/-- (*desk.Desk).Back -/
def F.desk_Desk_Back (k m_0 m_1 : Option Addr) (m_2 : Option Nat) (m_3 : Int) (w : World) (R : World → Prop) : Prop := RetT Pg [] 109 #[.pointer k, .agg #[.pointer m_0, .pointer m_1, .map m_2, .int .i64 m_3]] w R
/-- (*tree.tree).load -/
def F.tree_tree_load (t n : Option Addr) (depth : Int) (w : World) (R : Int → World → Prop) : Prop := RetT Pg [.one (.int .i64)] 110 #[.pointer t, .pointer n, .int .i64 depth] w R
/-- (*room.Room).Used -/
def F.room_Room_Used (r : Option Addr) (at_ : Int) (w : World) (R : Bool → World → Prop) : Prop := RetT Pg [.one .bool] 111 #[.pointer r, .int .i64 at_] w R
/-- strings.Clone -/
def F.strings_Clone (s : ByteArray) (w : World) (R : ByteArray → World → Prop) : Prop := RetT Pg [.one .str] 112 #[.string s] w R
/-- masonryref1.ShaOne -/
def F.masonryref1_ShaOne (s : ByteArray) (w : World) (R : ByteArray → World → Prop) : Prop := RetT Pg [.one .str] 113 #[.string s] w R
/-- masonryref1.ShaTwo -/
def F.masonryref1_ShaTwo (s : ByteArray) (w : World) (R : ByteArray → World → Prop) : Prop := RetT Pg [.one .str] 114 #[.string s] w R
/-- slices.Repeat[[]string,string] -/
def F.slices_Repeat_sl_string_string (x : Sl) (count : Int) (w : World) (R : Sl → World → Prop) : Prop := RetT Pg [.one .slice] 115 #[.slice x.a x.len x.cap, .int .i64 count] w R
/-- strings.Repeat -/
def F.strings_Repeat (s : ByteArray) (count : Int) (w : World) (R : ByteArray → World → Prop) : Prop := RetT Pg [.one .str] 116 #[.string s, .int .i64 count] w R
/-- slices.Clone[[]string,string] -/
def F.slices_Clone_sl_string_string (s : Sl) (w : World) (R : Sl → World → Prop) : Prop := RetT Pg [.one .slice] 117 #[.slice s.a s.len s.cap] w R
/-- desk.opened -/
def F.desk_opened (d : Option Addr) (w : World) (R : Option Addr → Int → World → Prop) : Prop := RetT Pg [.one .ptr, .one (.int .i64)] 118 #[.pointer d] w R
/-- room.New -/
def F.room_New (n : Int) (used : Sl) (w : World) (R : Option Addr → Int → World → Prop) : Prop := RetT Pg [.one .ptr, .one (.int .i64)] 119 #[.int .i64 n, .slice used.a used.len used.cap] w R
/-- (*wal.Wal).Size -/
def F.wal_Wal_Size (w' : Option Addr) (w : World) (R : Int → World → Prop) : Prop := RetT Pg [.one (.int .i64)] 120 #[.pointer w'] w R
/-- (*room.Room).Lay -/
def F.room_Room_Lay (r : Option Addr) (w : World) (R : ByteArray → Int → World → Prop) : Prop := RetT Pg [.one .str, .one (.int .i64)] 121 #[.pointer r] w R
/-- desk.zeros -/
def F.desk_zeros (w : World) (R : ByteArray → World → Prop) : Prop := RetT Pg [.one .str] 122 #[] w R
/-- mark.Valid -/
def F.mark_Valid (p_0 : Int) (p_1 : ByteArray) (w : World) (R : Bool → World → Prop) : Prop := RetT Pg [.one .bool] 123 #[.agg #[.int .i64 p_0, .string p_1]] w R
/-- slices.BinarySearchFunc[[]api.Entry,api.Entry,api.Entry] -/
def F.slices_BinarySearchFunc_sl_api_Entry_api_Entry_api_Entry (x : Sl) (target_0 : Int) (target_1 : ByteArray) (target_2 : Int) (cmp : Value) (w : World) (R : Int → Bool → World → Prop) : Prop := RetT Pg [.one (.int .i64), .one .bool] 125 #[.slice x.a x.len x.cap, .agg #[.int .i64 target_0, .string target_1, .int .i64 target_2], cmp] w R
/-- slices.Insert[[]api.Entry,api.Entry] -/
def F.slices_Insert_sl_api_Entry_api_Entry (s : Sl) (i : Int) (v : Sl) (w : World) (R : Sl → World → Prop) : Prop := RetT Pg [.one .slice] 126 #[.slice s.a s.len s.cap, .int .i64 i, .slice v.a v.len v.cap] w R
/-- (*tree.node).cut -/
def F.tree_node_cut (n : Option Addr) (w : World) (R : Option Addr → World → Prop) : Prop := RetT Pg [.one .ptr] 127 #[.pointer n] w R
/-- (*tree.node).below -/
def F.tree_node_below (n : Option Addr) (x_0 : Int) (x_1 : ByteArray) (x_2 : Int) (w : World) (R : Int → World → Prop) : Prop := RetT Pg [.one (.int .i64)] 128 #[.pointer n, .agg #[.int .i64 x_0, .string x_1, .int .i64 x_2]] w R
/-- slices.Insert[[]*tree.node,*tree.node] -/
def F.slices_Insert_sl__tree_node_tree_node (s : Sl) (i : Int) (v : Sl) (w : World) (R : Sl → World → Prop) : Prop := RetT Pg [.one .slice] 129 #[.slice s.a s.len s.cap, .int .i64 i, .slice v.a v.len v.cap] w R
/-- (*tree.node).heads -/
def F.tree_node_heads (n : Option Addr) (w : World) (R : World → Prop) : Prop := RetT Pg [] 130 #[.pointer n] w R
/-- mark.Compare -/
def F.mark_Compare (a_0 : Int) (a_1 : ByteArray) (b_0 : Int) (b_1 : ByteArray) (w : World) (R : Int → World → Prop) : Prop := RetT Pg [.one (.int .i64)] 131 #[.agg #[.int .i64 a_0, .string a_1], .agg #[.int .i64 b_0, .string b_1]] w R
/-- chain.Get -/
def F.chain_Get (k : Option Addr) (at_ : Int) (w : World) (R : Int → Int → Int → ByteArray → Int → World → Prop) : Prop := RetT Pg [.agg [.int .i64, .int .i64, .int .i64, .str], .one (.int .i64)] 134 #[.pointer k, .int .i64 at_] w R
/-- (*tree.tree).give -/
def F.tree_tree_give (t n : Option Addr) (w : World) (R : World → Prop) : Prop := RetT Pg [] 138 #[.pointer t, .pointer n] w R
/-- slices.Clone[[]bool,bool] -/
def F.slices_Clone_sl_bool_bool (s : Sl) (w : World) (R : Sl → World → Prop) : Prop := RetT Pg [.one .slice] 142 #[.slice s.a s.len s.cap] w R
/-- (*wal.Wal).Up -/
def F.wal_Wal_Up (w' : Option Addr) (w : World) (R : Bool → World → Prop) : Prop := RetT Pg [.one .bool] 157 #[.pointer w'] w R
/-- (*disk.Disk).Read -/
def F.disk_Disk_Read (d : Option Addr) (at_ : Int) (w : World) (R : ByteArray → Int → World → Prop) : Prop := RetT Pg [.one .str, .one (.int .i64)] 158 #[.pointer d, .int .i64 at_] w R
/-- slices.Sorted[int] -/
def F.slices_Sorted_int (seq : Value) (w : World) (R : Sl → World → Prop) : Prop := RetT Pg [.one .slice] 159 #[seq] w R
/-- maps.Keys[map[int]string,int,string] -/
def F.maps_Keys_map_int_string_int_string (m : Option Nat) (w : World) (R : Value → World → Prop) : Prop := RetT Pg [.one .any] 160 #[.map m] w R
/-- (*wal.Wal).last -/
def F.wal_Wal_last (w' : Option Addr) (l : Sl) (w : World) (R : Option Nat → Int → World → Prop) : Prop := RetT Pg [.one .map, .one (.int .i64)] 164 #[.pointer w', .slice l.a l.len l.cap] w R
/-- (*wal.Wal).put -/
def F.wal_Wal_put (w' : Option Addr) (l : Sl) (w : World) (R : Int → World → Prop) : Prop := RetT Pg [.one (.int .i64)] 165 #[.pointer w', .slice l.a l.len l.cap] w R
/-- (*wal.Wal).putHead -/
def F.wal_Wal_putHead (w' : Option Addr) (h_0 : Int) (h_1 : Bool) (h_2 : Sl) (w : World) (R : Int → World → Prop) : Prop := RetT Pg [.one (.int .i64)] 166 #[.pointer w', .agg #[.int .i64 h_0, .bool h_1, .slice h_2.a h_2.len h_2.cap]] w R
/-- head.Next -/
def F.head_Next (h_0 : Int) (h_1 : Bool) (h_2 targets : Sl) (w : World) (R : Int → Bool → Sl → World → Prop) : Prop := RetT Pg [.agg [.int .i64, .bool, .slice]] 167 #[.agg #[.int .i64 h_0, .bool h_1, .slice h_2.a h_2.len h_2.cap], .slice targets.a targets.len targets.cap] w R
/-- (*wal.Wal).write -/
def F.wal_Wal_write (w' : Option Addr) (l : Sl) (w : World) (R : Int → World → Prop) : Prop := RetT Pg [.one (.int .i64)] 168 #[.pointer w', .slice l.a l.len l.cap] w R
/-- cmp.Or[int] -/
def F.cmp_Or_int (vals : Sl) (w : World) (R : Int → World → Prop) : Prop := RetT Pg [.one (.int .i64)] 171 #[.slice vals.a vals.len vals.cap] w R
/-- cmp.Compare[int] -/
def F.cmp_Compare_int (x y : Int) (w : World) (R : Int → World → Prop) : Prop := RetT Pg [.one (.int .i64)] 172 #[.int .i64 x, .int .i64 y] w R
/-- maps.Clone[map[int]string,int,string] -/
def F.maps_Clone_map_int_string_int_string (m : Option Nat) (w : World) (R : Option Nat → World → Prop) : Prop := RetT Pg [.one .map] 173 #[.map m] w R
/-- (*tree.tree).save -/
def F.tree_tree_save (t n : Option Addr) (w : World) (R : Int → Int → World → Prop) : Prop := RetT Pg [.one (.int .i64), .one (.int .i64)] 174 #[.pointer t, .pointer n] w R
/-- chain.Drop -/
def F.chain_Drop (k : Option Addr) (at_ : Int) (w : World) (R : Int → World → Prop) : Prop := RetT Pg [.one (.int .i64)] 175 #[.pointer k, .int .i64 at_] w R
/-- tree.decode -/
def F.tree_decode (c_0 c_1 c_2 : Int) (c_3 : ByteArray) (w : World) (R : Option Addr → Bool → World → Prop) : Prop := RetT Pg [.one .ptr, .one .bool] 176 #[.agg #[.int .i64 c_0, .int .i64 c_1, .int .i64 c_2, .string c_3]] w R
/-- internal/stringslite.Clone -/
def F.stringslite_Clone (s : ByteArray) (w : World) (R : ByteArray → World → Prop) : Prop := RetT Pg [.one .str] 177 #[.string s] w R
/-- masonryref1.Pad -/
def F.masonryref1_Pad (n : Int) (w : World) (R : ByteArray → World → Prop) : Prop := RetT Pg [.one .str] 178 #[.int .i64 n] w R
/-- masonryref1.word -/
def F.masonryref1_word (s : ByteArray) (w : World) (R : Int → World → Prop) : Prop := RetT Pg [.one (.int .u32)] 179 #[.string s] w R
/-- masonryref1.turn -/
def F.masonryref1_turn (x n : Int) (w : World) (R : Int → World → Prop) : Prop := RetT Pg [.one (.int .u32)] 180 #[.int .u32 x, .int .i64 n] w R
/-- masonryref1.High -/
def F.masonryref1_High (v n : Int) (w : World) (R : ByteArray → World → Prop) : Prop := RetT Pg [.one .str] 181 #[.int .u64 v, .int .i64 n] w R
/-- masonryref1.Keys -/
def F.masonryref1_Keys (w : World) (R : Sl → World → Prop) : Prop := RetT Pg [.one .slice] 182 #[] w R
/-- math/bits.Mul -/
def F.bits_Mul (x y : Int) (w : World) (R : Int → Int → World → Prop) : Prop := RetT Pg [.one (.int .u64), .one (.int .u64)] 183 #[.int .u64 x, .int .u64 y] w R
/-- wal.Open -/
def F.wal_Open (d : Option Addr) (w : World) (R : Option Addr → Int → World → Prop) : Prop := RetT Pg [.one .ptr, .one (.int .i64)] 189 #[.pointer d] w R
/-- (*disk.Disk).Write -/
def F.disk_Disk_Write (d : Option Addr) (l : Sl) (w : World) (R : Int → World → Prop) : Prop := RetT Pg [.one (.int .i64)] 190 #[.pointer d, .slice l.a l.len l.cap] w R
/-- (*disk.Disk).Flush -/
def F.disk_Disk_Flush (d : Option Addr) (w : World) (R : Int → World → Prop) : Prop := RetT Pg [.one (.int .i64)] 191 #[.pointer d] w R
/-- (*disk.Disk).Size -/
def F.disk_Disk_Size (d : Option Addr) (w : World) (R : Int → World → Prop) : Prop := RetT Pg [.one (.int .i64)] 192 #[.pointer d] w R
/-- (*bits.Out).Byte -/
def F.bits_Out_Byte (o : Option Addr) (l : Sl) (w : World) (R : Option Addr → World → Prop) : Prop := RetT Pg [.one .ptr] 193 #[.pointer o, .slice l.a l.len l.cap] w R
/-- (*bits.Out).Half -/
def F.bits_Out_Half (o : Option Addr) (l : Sl) (w : World) (R : Option Addr → World → Prop) : Prop := RetT Pg [.one .ptr] 194 #[.pointer o, .slice l.a l.len l.cap] w R
/-- (*bits.Out).Raw -/
def F.bits_Out_Raw (o : Option Addr) (l : Sl) (w : World) (R : Option Addr → World → Prop) : Prop := RetT Pg [.one .ptr] 195 #[.pointer o, .slice l.a l.len l.cap] w R
/-- (*bits.Out).End -/
def F.bits_Out_End (o : Option Addr) (w : World) (R : ByteArray → Int → World → Prop) : Prop := RetT Pg [.one .str, .one (.int .i64)] 196 #[.pointer o] w R
/-- crc.Seal -/
def F.crc_Seal (n : Int) (l : Sl) (w : World) (R : ByteArray → Int → World → Prop) : Prop := RetT Pg [.one .str, .one (.int .i64)] 197 #[.int .i64 n, .slice l.a l.len l.cap] w R
/-- mark.Size -/
def F.mark_Size (kind : Int) (w : World) (R : Int → World → Prop) : Prop := RetT Pg [.one (.int .i64)] 198 #[.int .i64 kind] w R
/-- slices.rotateRight[api.Entry] -/
def F.slices_rotateRight_api_Entry (s : Sl) (r : Int) (w : World) (R : World → Prop) : Prop := RetT Pg [] 201 #[.slice s.a s.len s.cap, .int .i64 r] w R
/-- slices.Clone[[]*tree.node,*tree.node] -/
def F.slices_Clone_sl__tree_node_tree_node (s : Sl) (w : World) (R : Sl → World → Prop) : Prop := RetT Pg [.one .slice] 202 #[.slice s.a s.len s.cap] w R
/-- slices.rotateRight[*tree.node] -/
def F.slices_rotateRight_tree_node (s : Sl) (r : Int) (w : World) (R : World → Prop) : Prop := RetT Pg [] 204 #[.slice s.a s.len s.cap, .int .i64 r] w R
/-- cmp.Compare[string] -/
def F.cmp_Compare_string (x y : ByteArray) (w : World) (R : Int → World → Prop) : Prop := RetT Pg [.one (.int .i64)] 205 #[.string x, .string y] w R
/-- chain.walk -/
def F.chain_walk (k : Option Addr) (at_ : Int) (w : World) (R : Sl → Sl → Int → World → Prop) : Prop := RetT Pg [.one .slice, .one .slice, .one (.int .i64)] 217 #[.pointer k, .int .i64 at_] w R
/-- (*disk.Disk).may -/
def F.disk_Disk_may (d : Option Addr) (at_ : Int) (w : World) (R : Int → World → Prop) : Prop := RetT Pg [.one (.int .i64)] 222 #[.pointer d, .int .i64 at_] w R
/-- head.Lay -/
def F.head_Lay (h_0 : Int) (h_1 : Bool) (h_2 : Sl) (w : World) (R : ByteArray → Int → World → Prop) : Prop := RetT Pg [.one .str, .one (.int .i64)] 227 #[.agg #[.int .i64 h_0, .bool h_1, .slice h_2.a h_2.len h_2.cap]] w R
/-- slices.Clone[[]int,int] -/
def F.slices_Clone_sl_int_int (s : Sl) (w : World) (R : Sl → World → Prop) : Prop := RetT Pg [.one .slice] 228 #[.slice s.a s.len s.cap] w R
/-- slices.Compact[[]int,int] -/
def F.slices_Compact_sl_int_int (s : Sl) (w : World) (R : Sl → World → Prop) : Prop := RetT Pg [.one .slice] 229 #[.slice s.a s.len s.cap] w R
/-- head.Done -/
def F.head_Done (h_0 : Int) (h_1 : Bool) (h_2 : Sl) (w : World) (R : Int → Bool → Sl → World → Prop) : Prop := RetT Pg [.agg [.int .i64, .bool, .slice]] 230 #[.agg #[.int .i64 h_0, .bool h_1, .slice h_2.a h_2.len h_2.cap]] w R
/-- cmp.isNaN[int] -/
def F.cmp_isNaN_int (x : Int) (w : World) (R : Bool → World → Prop) : Prop := RetT Pg [.one .bool] 239 #[.int .i64 x] w R
/-- chain.Put -/
def F.chain_Put (k : Option Addr) (gen tag : Int) (b : ByteArray) (w : World) (R : Int → Int → World → Prop) : Prop := RetT Pg [.one (.int .i64), .one (.int .i64)] 241 #[.pointer k, .int .i64 gen, .int .i64 tag, .string b] w R
/-- (*tree.node).encode -/
def F.tree_node_encode (n : Option Addr) (w : World) (R : ByteArray → World → Prop) : Prop := RetT Pg [.one .str] 242 #[.pointer n] w R
/-- (*desk.Desk).Drop -/
def F.desk_Desk_Drop (k : Option Addr) (l : Sl) (w : World) (R : Int → World → Prop) : Prop := RetT Pg [.one (.int .i64)] 243 #[.pointer k, .slice l.a l.len l.cap] w R
/-- bits.On -/
def F.bits_On (b : ByteArray) (w : World) (R : Option Addr → World → Prop) : Prop := RetT Pg [.one .ptr] 244 #[.string b] w R
/-- (*bits.In).Byte -/
def F.bits_In_Byte (i : Option Addr) (w : World) (R : Int → World → Prop) : Prop := RetT Pg [.one (.int .i64)] 245 #[.pointer i] w R
/-- mark.Read -/
def F.mark_Read (b : ByteArray) (w : World) (R : Int → ByteArray → Int → World → Prop) : Prop := RetT Pg [.agg [.int .i64, .str], .one (.int .i64)] 246 #[.string b] w R
/-- (*bits.In).Raw -/
def F.bits_In_Raw (i : Option Addr) (n : Int) (w : World) (R : ByteArray → World → Prop) : Prop := RetT Pg [.one .str] 247 #[.pointer i, .int .i64 n] w R
/-- (*bits.In).Half -/
def F.bits_In_Half (i : Option Addr) (w : World) (R : Int → World → Prop) : Prop := RetT Pg [.one (.int .i64)] 248 #[.pointer i] w R
/-- (*bits.In).Left -/
def F.bits_In_Left (i : Option Addr) (w : World) (R : Int → World → Prop) : Prop := RetT Pg [.one (.int .i64)] 249 #[.pointer i] w R
/-- (*bits.In).End -/
def F.bits_In_End (i : Option Addr) (w : World) (R : Int → World → Prop) : Prop := RetT Pg [.one (.int .i64)] 250 #[.pointer i] w R
/-- masonryref1.Zeros -/
def F.masonryref1_Zeros (n : Int) (w : World) (R : ByteArray → World → Prop) : Prop := RetT Pg [.one .str] 251 #[.int .i64 n] w R
/-- math/bits.Mul64 -/
def F.bits_Mul64 (x y : Int) (w : World) (R : Int → Int → World → Prop) : Prop := RetT Pg [.one (.int .u64), .one (.int .u64)] 253 #[.int .u64 x, .int .u64 y] w R
/-- head.Read -/
def F.head_Read (b : ByteArray) (w : World) (R : Int → Bool → Sl → Int → World → Prop) : Prop := RetT Pg [.agg [.int .i64, .bool, .slice], .one (.int .i64)] 257 #[.string b] w R
/-- (*wal.Wal).logged -/
def F.wal_Wal_logged (w' : Option Addr) (w : World) (R : Sl → Int → World → Prop) : Prop := RetT Pg [.one .slice, .one (.int .i64)] 258 #[.pointer w'] w R
/-- (*disk.Disk).On -/
def F.disk_Disk_On (d : Option Addr) (w : World) (R : Bool → World → Prop) : Prop := RetT Pg [.one .bool] 259 #[.pointer d] w R
theorem F.disk_Disk_On_mono {d : Option Addr} {w : World} {R R' : Bool → World → Prop} (h : F.disk_Disk_On d w R) (hR : ∀ x0 w', R x0 w' → R' x0 w') : F.disk_Disk_On d w R' :=
 Calls.mono h fun e w' hx => by
   obtain ⟨x0, he, hr⟩ := hx
   exact ⟨x0, he, hR x0 w' hr⟩
/-- (*disk.Disk).write -/
def F.disk_Disk_write (d : Option Addr) (w_0 : Int) (w_1 : ByteArray) (w : World) (R : Int → World → Prop) : Prop := RetT Pg [.one (.int .i64)] 260 #[.pointer d, .agg #[.int .i64 w_0, .string w_1]] w R
/-- (*disk.Disk).goes -/
def F.disk_Disk_goes (d : Option Addr) (w : World) (R : Bool → World → Prop) : Prop := RetT Pg [.one .bool] 261 #[.pointer d] w R
/-- (*disk.Disk).Crash -/
def F.disk_Disk_Crash (d : Option Addr) (keep : Sl) (w : World) (R : Int → World → Prop) : Prop := RetT Pg [.one (.int .i64)] 262 #[.pointer d, .slice keep.a keep.len keep.cap] w R
/-- (*bits.Out).lay -/
def F.bits_Out_lay (o : Option Addr) (size : Int) (l : Sl) (w : World) (R : Option Addr → World → Prop) : Prop := RetT Pg [.one .ptr] 263 #[.pointer o, .int .i64 size, .slice l.a l.len l.cap] w R
/-- (*bits.Out).Pad -/
def F.bits_Out_Pad (o : Option Addr) (n : Int) (w : World) (R : Option Addr → World → Prop) : Prop := RetT Pg [.one .ptr] 264 #[.pointer o, .int .i64 n] w R
/-- (*bits.Out).Word -/
def F.bits_Out_Word (o : Option Addr) (l : Sl) (w : World) (R : Option Addr → World → Prop) : Prop := RetT Pg [.one .ptr] 265 #[.pointer o, .slice l.a l.len l.cap] w R
/-- crc.Of -/
def F.crc_Of (l : Sl) (w : World) (R : Int → World → Prop) : Prop := RetT Pg [.one (.int .u32)] 266 #[.slice l.a l.len l.cap] w R
/-- cmp.isNaN[string] -/
def F.cmp_isNaN_string (x : ByteArray) (w : World) (R : Bool → World → Prop) : Prop := RetT Pg [.one .bool] 269 #[.string x] w R
/-- chain.read -/
def F.chain_read (b : ByteArray) (w : World) (R : Int → Int → Int → Int → Int → ByteArray → Bool → World → Prop) : Prop := RetT Pg [.agg [.int .i64, .int .i64, .int .i64, .int .i64, .int .i64, .str], .one .bool] 275 #[.string b] w R
/-- head.Valid -/
def F.head_Valid (h_0 : Int) (h_1 : Bool) (h_2 : Sl) (w : World) (R : Bool → World → Prop) : Prop := RetT Pg [.one .bool] 278 #[.agg #[.int .i64 h_0, .bool h_1, .slice h_2.a h_2.len h_2.cap]] w R
/-- (*bits.Out).Long -/
def F.bits_Out_Long (o : Option Addr) (l : Sl) (w : World) (R : Option Addr → World → Prop) : Prop := RetT Pg [.one .ptr] 279 #[.pointer o, .slice l.a l.len l.cap] w R
/-- chain.Need -/
def F.chain_Need (n : Int) (w : World) (R : Int → World → Prop) : Prop := RetT Pg [.one (.int .i64)] 283 #[.int .i64 n] w R
/-- (*desk.Desk).New -/
def F.desk_Desk_New (k : Option Addr) (data : ByteArray) (w : World) (R : Int → Int → World → Prop) : Prop := RetT Pg [.one (.int .i64), .one (.int .i64)] 284 #[.pointer k, .string data] w R
/-- (chain.link).lay -/
def F.chain_link_lay (x_0 x_1 x_2 x_3 x_4 : Int) (x_5 : ByteArray) (w : World) (R : ByteArray → World → Prop) : Prop := RetT Pg [.one .str] 285 #[.agg #[.int .i64 x_0, .int .i64 x_1, .int .i64 x_2, .int .i64 x_3, .int .i64 x_4, .string x_5]] w R
/-- mark.Lay -/
def F.mark_Lay (p_0 : Int) (p_1 : ByteArray) (w : World) (R : ByteArray → Int → World → Prop) : Prop := RetT Pg [.one .str, .one (.int .i64)] 286 #[.agg #[.int .i64 p_0, .string p_1]] w R
/-- slices.Contains[[]int,int] -/
def F.slices_Contains_sl_int_int (s : Sl) (v : Int) (w : World) (R : Bool → World → Prop) : Prop := RetT Pg [.one .bool] 287 #[.slice s.a s.len s.cap, .int .i64 v] w R
/-- (*room.Room).Give -/
def F.room_Room_Give (r : Option Addr) (l : Sl) (w : World) (R : Int → World → Prop) : Prop := RetT Pg [.one (.int .i64)] 288 #[.pointer r, .slice l.a l.len l.cap] w R
/-- (*bits.In).low -/
def F.bits_In_low (i : Option Addr) (size : Int) (w : World) (R : Int → World → Prop) : Prop := RetT Pg [.one (.int .i64)] 289 #[.pointer i, .int .i64 size] w R
/-- (*bits.In).Rest -/
def F.bits_In_Rest (i : Option Addr) (w : World) (R : Bool → World → Prop) : Prop := RetT Pg [.one .bool] 290 #[.pointer i] w R
/-- strings.Trim -/
def F.strings_Trim (s cutset : ByteArray) (w : World) (R : ByteArray → World → Prop) : Prop := RetT Pg [.one .str] 293 #[.string s, .string cutset] w R
/-- crc.Open -/
def F.crc_Open (b : ByteArray) (w : World) (R : ByteArray → Int → World → Prop) : Prop := RetT Pg [.one .str, .one (.int .i64)] 294 #[.string b] w R
/-- (*bits.In).Long -/
def F.bits_In_Long (i : Option Addr) (w : World) (R : Int → World → Prop) : Prop := RetT Pg [.one (.int .i64)] 295 #[.pointer i] w R
/-- crc.half -/
def F.crc_half (w : World) (R : Int → Int → Int → Int → Int → Int → Int → Int → Int → Int → Int → Int → Int → Int → Int → Int → World → Prop) : Prop := RetT Pg [.agg [.int .u32, .int .u32, .int .u32, .int .u32, .int .u32, .int .u32, .int .u32, .int .u32, .int .u32, .int .u32, .int .u32, .int .u32, .int .u32, .int .u32, .int .u32, .int .u32]] 296 #[] w R
/-- (*bits.In).Text -/
def F.bits_In_Text (i : Option Addr) (w : World) (R : ByteArray → World → Prop) : Prop := RetT Pg [.one .str] 300 #[.pointer i] w R
/-- (*room.Room).Take -/
def F.room_Room_Take (r : Option Addr) (w : World) (R : Int → Int → World → Prop) : Prop := RetT Pg [.one (.int .i64), .one (.int .i64)] 303 #[.pointer r] w R
/-- (*bits.Out).Text -/
def F.bits_Out_Text (o : Option Addr) (l : Sl) (w : World) (R : Option Addr → World → Prop) : Prop := RetT Pg [.one .ptr] 304 #[.pointer o, .slice l.a l.len l.cap] w R
/-- slices.Index[[]int,int] -/
def F.slices_Index_sl_int_int (s : Sl) (v : Int) (w : World) (R : Int → World → Prop) : Prop := RetT Pg [.one (.int .i64)] 305 #[.slice s.a s.len s.cap, .int .i64 v] w R
/-- (*bits.In).Word -/
def F.bits_In_Word (i : Option Addr) (w : World) (R : Int → World → Prop) : Prop := RetT Pg [.one (.int .i64)] 313 #[.pointer i] w R
/-- slices.Index[[]bool,bool] -/
def F.slices_Index_sl_bool_bool (s : Sl) (v : Bool) (w : World) (R : Int → World → Prop) : Prop := RetT Pg [.one (.int .i64)] 314 #[.slice s.a s.len s.cap, .bool v] w R
theorem Ez {H : Hints} {f : FuncId} {fn : Func} (hf : Tryz.prog.funcs[f]? = some fn) (L : List Ly) (A : List SV) (ha : argsOk A = true) (w : World) (R : Go.Vc.Fn (flats L) (World → Prop)) {a b : Prop} (e : (vcFun cfg H fn L A w R → RetT cfg.P L f ⟨SV.vs A⟩ w R) = (a → b)) (h : a) : b := Eq.mp e (vcFun_sound (C := cfg) cfg_ok hf ha) h
end Go.Proofs.YtggachhkcmfijaaGreatDoor
