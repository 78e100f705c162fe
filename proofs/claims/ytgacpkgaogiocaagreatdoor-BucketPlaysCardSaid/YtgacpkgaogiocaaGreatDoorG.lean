import Derived.Test.YtgacpkgaogiocaaGreatDoorVc
import Derived.Test.YtgacpkgaogiocaaGreatDoorChecked
import Derived.Eval
namespace Go.Proofs.YtgacpkgaogiocaaGreatDoor
open Go Go.Vc
open Go.RowKit (Below)
set_option linter.unusedVariables false
noncomputable abbrev Pg:Program:=Tryz.prog
abbrev T.y_t0:TypeId:=0
abbrev T.y_int:TypeId:=3
abbrev T.y_bool:TypeId:=4
abbrev T.y_uint8:TypeId:=5
abbrev T.y_string:TypeId:=9
abbrev T.y_p_desk_Desk:TypeId:=25
abbrev T.y_sl_api_Entry:TypeId:=27
abbrev T.y_masonryref17_List:TypeId:=28
abbrev T.y_api_Print:TypeId:=30
abbrev T.y_sl_uint8:TypeId:=32
abbrev T.y_api_Entry:TypeId:=34
abbrev T.y_sl_sl_string:TypeId:=50
abbrev T.y_sl_sl_int:TypeId:=51
abbrev T.y_sl_sl_api_Span:TypeId:=52
abbrev T.y_sl_sl_api_Piece:TypeId:=53
abbrev T.y_sl_sl_api_Entry:TypeId:=54
abbrev T.y_sl_sl_api_Object:TypeId:=55
abbrev T.y_sl_sl_api_Write:TypeId:=56
abbrev T.y_sl_sl_api_Step:TypeId:=57
abbrev T.y_masonrybook_Book:TypeId:=59
abbrev T.y_masonrylaw17_Op:TypeId:=61
abbrev T.y_sl_int:TypeId:=63
abbrev T.y_map_int_string:TypeId:=79
abbrev T.y_desk_Desk:TypeId:=81
abbrev T.y_map_int_sl_api_Entry:TypeId:=92
abbrev T.y_map_int_bool:TypeId:=93
abbrev T.y_bucket_table:TypeId:=95
abbrev T.y_sl_bool:TypeId:=103
abbrev T.y_room_Room:TypeId:=105
abbrev T.y_sl_string:TypeId:=122
abbrev T.y_sl_api_Write:TypeId:=126
abbrev T.y_disk_Disk:TypeId:=128
abbrev T.y_api_Write:TypeId:=138
abbrev T.y_uint32:TypeId:=139
abbrev T.y_sl_uint32:TypeId:=140
abbrev T.y_desk_Mark:TypeId:=149
abbrev T.y_chain_Chain:TypeId:=162
abbrev T.y_sl_chain_link:TypeId:=178
abbrev T.y_sl_api_Span:TypeId:=183
abbrev T.y_sl_api_Piece:TypeId:=185
abbrev T.y_sl_api_Object:TypeId:=187
abbrev T.y_sl_api_Step:TypeId:=190
abbrev T.y_head_Head:TypeId:=219
abbrev T.y_wal_Wal:TypeId:=221
abbrev T.y_bits_Out:TypeId:=224
abbrev T.y_chain_link:TypeId:=242
abbrev T.y_bits_In:TypeId:=244
abbrev T.y_16_uint32:TypeId:=299
def str_abc:ByteArray:=⟨#[97,98,99]⟩
def str_x:ByteArray:=⟨#[0]⟩
def str_cannotbenega:ByteArray:=⟨#[99,97,110,110,111,116,32,98,101,32,110,101,103,97,116,105,118,101]⟩
def str_theresultofl:ByteArray:=⟨#[116,104,101,32,114,101,115,117,108,116,32,111,102,32,40,108,101,110,40,120,41,32,42,32,99,111,117,110,116,41,32,111,118,101,114,102,108,111,119,115]⟩
def str_x_:ByteArray:=⟨#[128]⟩
def okl:List Nat:=[3,4,5,6,7,8,9,10,11,12,13,14,15,16,17,18,19,20,21,22,23,24,25,26,27,28,29,30,31,32,33,34,35,36,37,38,39,40,41,42,43,44,45,46,47,48,49,50,51,52,53,54,55,56,57,58,59,60,61,62,63,64,65,66,67,68,69,70,71,72,73,74,75,76,77,78,79,80,81,82,83,84,85,86,87,88,89,90,91,92,93,94,95,96,97,98,99,100,101,102,103,104,105,106,107,108,109,110,111,112,113,114,115,116,117,118,119,120,121,122,123,124,125,126,127,128,129,130,131,132,133,134,135,136,137,138,139,140,141,142,143,144,145,146,147,148,149,150,151,152,153,154,155,156,157,158,159,160,161,162,163,164,165,166,167,168,169,170,171,172,174,175,176,177,178,179,180,181,182,183,184,185,186,187,188,189,190,191,192,193,194,195,196,197,198,199,200,201,202,203,204,205,206,207,208,209,210,211,212,213,214,215,216,217,218,219,220,221,222,223,224,225,226,227,228,230,231,232,233,234,235,236,237,238,239,240,241,242,243,244,245,246,247,248,251,252,253,254,255,256,257,258,259,260,261,263,264,265,266,267,268,269,270,271,272,273,274,275,276,277,278,279,280,281,282,283,284,285,286,288,313]
def eqs:TypeId→Option (List Sh)
 | 30=>some [.int .i64,.str]
 | 34=>some [.int .i64,.str,.int .i64]
 | 138=>some [.int .i64,.str]
 | 198=>some [.int .i64,.int .i64]
 | 201=>some [.int .i64,.int .i64]
 | 205=>some [.str,.str]
 | _=>none
noncomputable def cfg:Cfg:={ P:=Tryz.prog,okf:=fun f=>memB f okl,eqs:=eqs }
theorem okl_ok:okl.all (okChk Tryz.prog)=true:=by kernel_rfl
theorem eq_30:eqChk Tryz.prog 6 30 [.int .i64,.str]=true:=by kernel_rfl
theorem eq_34:eqChk Tryz.prog 6 34 [.int .i64,.str,.int .i64]=true:=by kernel_rfl
theorem eq_138:eqChk Tryz.prog 6 138 [.int .i64,.str]=true:=by kernel_rfl
theorem eq_198:eqChk Tryz.prog 6 198 [.int .i64,.int .i64]=true:=by kernel_rfl
theorem eq_201:eqChk Tryz.prog 6 201 [.int .i64,.int .i64]=true:=by kernel_rfl
theorem eq_205:eqChk Tryz.prog 6 205 [.str,.str]=true:=by kernel_rfl
theorem cfg_ok:CfgOk cfg where
 okf:=fun f h=>okChk_spec (List.all_eq_true.1 okl_ok f ((memB_iff f okl).1 h))
 mixed:=Checked.mixed Tryz.checked
 eqs:=fun t sh h=>by
   unfold cfg eqs at h
   simp only at h
   split at h
   · injection h with h; subst h; exact eqChk_spec (by decide) eq_30
   · injection h with h; subst h; exact eqChk_spec (by decide) eq_34
   · injection h with h; subst h; exact eqChk_spec (by decide) eq_138
   · injection h with h; subst h; exact eqChk_spec (by decide) eq_198
   · injection h with h; subst h; exact eqChk_spec (by decide) eq_201
   · injection h with h; subst h; exact eqChk_spec (by decide) eq_205
   · cases h
/-- masonrylaw17.BucketPlays -/
def F.masonrylaw17_BucketPlays (gen:Int) (ops:Sl) (p_0:Int) (p_1:ByteArray) (w:World) (R:Bool→World→Prop):Prop:=RetT Pg [.one .bool] 5 #[.int .i64 gen,.slice ops.a ops.len ops.cap,.agg #[.int .i64 p_0,.string p_1]] w R
/-- masonrylaw17.alive -/
def F.masonrylaw17_alive (w:World) (R:Bool→World→Prop):Prop:=RetT Pg [.one .bool] 6 #[] w R
/-- bucket.Slot -/
def F.bucket_Slot (hash n:Int) (w:World) (R:Int→World→Prop):Prop:=RetT Pg [.one (.int .i64)] 7 #[.int .i64 hash,.int .i64 n] w R
/-- masonrylaw12.Fresh -/
def F.masonrylaw12_Fresh (n:Int) (w:World) (R:Option Addr→World→Prop):Prop:=RetT Pg [.one .ptr] 9 #[.int .i64 n] w R
/-- masonryref1.Print -/
def F.masonryref1_Print (kind:Int) (s:ByteArray) (w:World) (R:Int→ByteArray→World→Prop):Prop:=RetT Pg [.agg [.int .i64,.str]] 10 #[.int .i64 kind,.string s] w R
/-- bucket.Add -/
def F.bucket_Add (k:Option Addr) (gen root:Int) (l:Sl) (w:World) (R:Int→Int→World→Prop):Prop:=RetT Pg [.one (.int .i64),.one (.int .i64)] 11 #[.pointer k,.int .i64 gen,.int .i64 root,.slice l.a l.len l.cap] w R
/-- (masonryref17.List).Add -/
def F.masonryref17_List_Add (l more:Sl) (w:World) (R:Sl→Int→World→Prop):Prop:=RetT Pg [.one .slice,.one (.int .i64)] 12 #[.slice l.a l.len l.cap,.slice more.a more.len more.cap] w R
/-- bucket.Check -/
def F.bucket_Check (k:Option Addr) (gen root:Int) (w:World) (R:Int→World→Prop):Prop:=RetT Pg [.one (.int .i64)] 13 #[.pointer k,.int .i64 gen,.int .i64 root] w R
/-- (masonryref17.List).Drop -/
def F.masonryref17_List_Drop (l less:Sl) (w:World) (R:Sl→Int→World→Prop):Prop:=RetT Pg [.one .slice,.one (.int .i64)] 14 #[.slice l.a l.len l.cap,.slice less.a less.len less.cap] w R
/-- bucket.Drop -/
def F.bucket_Drop (k:Option Addr) (gen root:Int) (l:Sl) (w:World) (R:Int→Int→World→Prop):Prop:=RetT Pg [.one (.int .i64),.one (.int .i64)] 15 #[.pointer k,.int .i64 gen,.int .i64 root,.slice l.a l.len l.cap] w R
/-- bucket.All -/
def F.bucket_All (k:Option Addr) (root:Int) (w:World) (R:Sl→Int→World→Prop):Prop:=RetT Pg [.one .slice,.one (.int .i64)] 16 #[.pointer k,.int .i64 root] w R
/-- masonrybook.SameEntries -/
def F.masonrybook_SameEntries (a b:Sl) (w:World) (R:Bool→World→Prop):Prop:=RetT Pg [.one .bool] 17 #[.slice a.a a.len a.cap,.slice b.a b.len b.cap] w R
/-- (*desk.Desk).Room -/
def F.desk_Desk_Room (k:Option Addr) (w:World) (R:Option Addr→World→Prop):Prop:=RetT Pg [.one .ptr] 18 #[.pointer k] w R
/-- masonrylaw17.Light -/
def F.masonrylaw17_Light (l:Sl) (w:World) (R:Bool→World→Prop):Prop:=RetT Pg [.one .bool] 20 #[.slice l.a l.len l.cap] w R
/-- masonrybook.LentEntries -/
def F.masonrybook_LentEntries (l:Sl) (w:World) (R:Sl→World→Prop):Prop:=RetT Pg [.one .slice] 21 #[.slice l.a l.len l.cap] w R
/-- masonrybook.StaysEntries -/
def F.masonrybook_StaysEntries (m was:Sl) (w:World) (R:Bool→World→Prop):Prop:=RetT Pg [.one .bool] 22 #[.slice m.a m.len m.cap,.slice was.a was.len was.cap] w R
/-- bucket.Find -/
def F.bucket_Find (k:Option Addr) (root p_0:Int) (p_1:ByteArray) (w:World) (R:Sl→Int→World→Prop):Prop:=RetT Pg [.one .slice,.one (.int .i64)] 23 #[.pointer k,.int .i64 root,.agg #[.int .i64 p_0,.string p_1]] w R
/-- bucket.Sectors -/
def F.bucket_Sectors (k:Option Addr) (root:Int) (w:World) (R:Sl→Int→World→Prop):Prop:=RetT Pg [.one .slice,.one (.int .i64)] 24 #[.pointer k,.int .i64 root] w R
/-- (*masonrybook.Book).Entries -/
def F.masonrybook_Book_Entries (b:Option Addr) (l:Sl) (w:World) (R:World→Prop):Prop:=RetT Pg [] 25 #[.pointer b,.slice l.a l.len l.cap] w R
/-- (*masonrybook.Book).Ints -/
def F.masonrybook_Book_Ints (b:Option Addr) (l:Sl) (w:World) (R:World→Prop):Prop:=RetT Pg [] 26 #[.pointer b,.slice l.a l.len l.cap] w R
/-- masonrybook.SameInts -/
def F.masonrybook_SameInts (a b:Sl) (w:World) (R:Bool→World→Prop):Prop:=RetT Pg [.one .bool] 27 #[.slice a.a a.len a.cap,.slice b.a b.len b.cap] w R
/-- (masonryref17.List).Find -/
def F.masonryref17_List_Find (l:Sl) (p_0:Int) (p_1:ByteArray) (w:World) (R:Sl→World→Prop):Prop:=RetT Pg [.one .slice] 28 #[.slice l.a l.len l.cap,.agg #[.int .i64 p_0,.string p_1]] w R
/-- (*room.Room).All -/
def F.room_Room_All (r:Option Addr) (w:World) (R:Sl→World→Prop):Prop:=RetT Pg [.one .slice] 29 #[.pointer r] w R
/-- (*masonrybook.Book).Apart -/
def F.masonrybook_Book_Apart (b:Option Addr) (w:World) (R:Bool→World→Prop):Prop:=RetT Pg [.one .bool] 30 #[.pointer b] w R
/-- disk.New -/
def F.disk_New (n:Int) (w:World) (R:Option Addr→Int→World→Prop):Prop:=RetT Pg [.one .ptr,.one (.int .i64)] 31 #[.int .i64 n] w R
/-- desk.Format -/
def F.desk_Format (d:Option Addr) (w:World) (R:Option Addr→Int→World→Prop):Prop:=RetT Pg [.one .ptr,.one (.int .i64)] 32 #[.pointer d] w R
/-- masonryref1.ShaOne -/
def F.masonryref1_ShaOne (s:ByteArray) (w:World) (R:ByteArray→World→Prop):Prop:=RetT Pg [.one .str] 33 #[.string s] w R
/-- masonryref1.ShaTwo -/
def F.masonryref1_ShaTwo (s:ByteArray) (w:World) (R:ByteArray→World→Prop):Prop:=RetT Pg [.one .str] 34 #[.string s] w R
/-- bucket.change -/
def F.bucket_change (k:Option Addr) (gen root:Int) (l:Sl) (do_:Value) (w:World) (R:Int→Int→World→Prop):Prop:=RetT Pg [.one (.int .i64),.one (.int .i64)] 35 #[.pointer k,.int .i64 gen,.int .i64 root,.slice l.a l.len l.cap,do_] w R
/-- (*bucket.table).add -/
def F.bucket_table_add (t:Option Addr) (x_0:Int) (x_1:ByteArray) (x_2:Int) (w:World) (R:Int→World→Prop):Prop:=RetT Pg [.one (.int .i64)] 36 #[.pointer t,.agg #[.int .i64 x_0,.string x_1,.int .i64 x_2]] w R
/-- (masonryref17.List).place -/
def F.masonryref17_List_place (l:Sl) (x_0:Int) (x_1:ByteArray) (x_2:Int) (w:World) (R:Int→Bool→World→Prop):Prop:=RetT Pg [.one (.int .i64),.one .bool] 37 #[.slice l.a l.len l.cap,.agg #[.int .i64 x_0,.string x_1,.int .i64 x_2]] w R
/-- masonryref17.Valid -/
def F.masonryref17_Valid (x_0:Int) (x_1:ByteArray) (x_2:Int) (w:World) (R:Bool→World→Prop):Prop:=RetT Pg [.one .bool] 38 #[.agg #[.int .i64 x_0,.string x_1,.int .i64 x_2]] w R
/-- bucket.load -/
def F.bucket_load (k:Option Addr) (gen root:Int) (w:World) (R:Option Addr→Int→World→Prop):Prop:=RetT Pg [.one .ptr,.one (.int .i64)] 39 #[.pointer k,.int .i64 gen,.int .i64 root] w R
/-- (*bucket.table).bucket -/
def F.bucket_table_bucket (t:Option Addr) (n:Int) (w:World) (R:Sl→Int→World→Prop):Prop:=RetT Pg [.one .slice,.one (.int .i64)] 40 #[.pointer t,.int .i64 n] w R
/-- mark.Hash -/
def F.mark_Hash (p_0:Int) (p_1:ByteArray) (w:World) (R:Int→World→Prop):Prop:=RetT Pg [.one (.int .i64)] 41 #[.agg #[.int .i64 p_0,.string p_1]] w R
/-- bucket.compare -/
def F.bucket_compare (a_0:Int) (a_1:ByteArray) (a_2 b_0:Int) (b_1:ByteArray) (b_2:Int) (w:World) (R:Int→World→Prop):Prop:=RetT Pg [.one (.int .i64)] 42 #[.agg #[.int .i64 a_0,.string a_1,.int .i64 a_2],.agg #[.int .i64 b_0,.string b_1,.int .i64 b_2]] w R
/-- (*bucket.table).forms -/
def F.bucket_table_forms (t:Option Addr) (gen:Int) (w:World) (R:Int→World→Prop):Prop:=RetT Pg [.one (.int .i64)] 43 #[.pointer t,.int .i64 gen] w R
/-- (*bucket.table).drop -/
def F.bucket_table_drop (t:Option Addr) (x_0:Int) (x_1:ByteArray) (x_2:Int) (w:World) (R:Int→World→Prop):Prop:=RetT Pg [.one (.int .i64)] 44 #[.pointer t,.agg #[.int .i64 x_0,.string x_1,.int .i64 x_2]] w R
/-- slices.SortFunc[[]api.Entry,api.Entry] -/
def F.slices_SortFunc_sl_api_Entry_api_Entry (x:Sl) (cmp:Value) (w:World) (R:World→Prop):Prop:=RetT Pg [] 45 #[.slice x.a x.len x.cap,cmp] w R
/-- (*room.Room).Copy -/
def F.room_Room_Copy (r:Option Addr) (w:World) (R:Option Addr→World→Prop):Prop:=RetT Pg [.one .ptr] 46 #[.pointer r] w R
/-- masonrybook.Room -/
def F.masonrybook_Room (left:Int) (sizes:Sl) (w:World) (R:Int→World→Prop):Prop:=RetT Pg [.one (.int .i64)] 48 #[.int .i64 left,.slice sizes.a sizes.len sizes.cap] w R
/-- masonrybook.copyEntries -/
def F.masonrybook_copyEntries (l:Sl) (w:World) (R:Sl→World→Prop):Prop:=RetT Pg [.one .slice] 49 #[.slice l.a l.len l.cap] w R
/-- slices.Sort[[]int,int] -/
def F.slices_Sort_sl_int_int (x:Sl) (w:World) (R:World→Prop):Prop:=RetT Pg [] 50 #[.slice x.a x.len x.cap] w R
/-- chain.Sectors -/
def F.chain_Sectors (k:Option Addr) (at_:Int) (w:World) (R:Sl→Int→World→Prop):Prop:=RetT Pg [.one .slice,.one (.int .i64)] 51 #[.pointer k,.int .i64 at_] w R
/-- masonrybook.copyInts -/
def F.masonrybook_copyInts (l:Sl) (w:World) (R:Sl→World→Prop):Prop:=RetT Pg [.one .slice] 52 #[.slice l.a l.len l.cap] w R
/-- (*masonrybook.Book).stillTexts -/
def F.masonrybook_Book_stillTexts (b:Option Addr) (w:World) (R:Bool→World→Prop):Prop:=RetT Pg [.one .bool] 53 #[.pointer b] w R
/-- (*masonrybook.Book).stillInts -/
def F.masonrybook_Book_stillInts (b:Option Addr) (w:World) (R:Bool→World→Prop):Prop:=RetT Pg [.one .bool] 54 #[.pointer b] w R
/-- (*masonrybook.Book).stillSpans -/
def F.masonrybook_Book_stillSpans (b:Option Addr) (w:World) (R:Bool→World→Prop):Prop:=RetT Pg [.one .bool] 55 #[.pointer b] w R
/-- (*masonrybook.Book).stillPieces -/
def F.masonrybook_Book_stillPieces (b:Option Addr) (w:World) (R:Bool→World→Prop):Prop:=RetT Pg [.one .bool] 56 #[.pointer b] w R
/-- (*masonrybook.Book).stillEntries -/
def F.masonrybook_Book_stillEntries (b:Option Addr) (w:World) (R:Bool→World→Prop):Prop:=RetT Pg [.one .bool] 57 #[.pointer b] w R
/-- (*masonrybook.Book).stillObjects -/
def F.masonrybook_Book_stillObjects (b:Option Addr) (w:World) (R:Bool→World→Prop):Prop:=RetT Pg [.one .bool] 58 #[.pointer b] w R
/-- (*masonrybook.Book).stillWrites -/
def F.masonrybook_Book_stillWrites (b:Option Addr) (w:World) (R:Bool→World→Prop):Prop:=RetT Pg [.one .bool] 59 #[.pointer b] w R
/-- (*masonrybook.Book).stillSteps -/
def F.masonrybook_Book_stillSteps (b:Option Addr) (w:World) (R:Bool→World→Prop):Prop:=RetT Pg [.one .bool] 60 #[.pointer b] w R
/-- (*masonrybook.Book).putSteps -/
def F.masonrybook_Book_putSteps (b:Option Addr) (w:World) (R:World→Prop):Prop:=RetT Pg [] 61 #[.pointer b] w R
/-- (*masonrybook.Book).putTexts -/
def F.masonrybook_Book_putTexts (b:Option Addr) (w:World) (R:World→Prop):Prop:=RetT Pg [] 62 #[.pointer b] w R
/-- (*masonrybook.Book).putInts -/
def F.masonrybook_Book_putInts (b:Option Addr) (w:World) (R:World→Prop):Prop:=RetT Pg [] 63 #[.pointer b] w R
/-- (*masonrybook.Book).putSpans -/
def F.masonrybook_Book_putSpans (b:Option Addr) (w:World) (R:World→Prop):Prop:=RetT Pg [] 64 #[.pointer b] w R
/-- (*masonrybook.Book).putPieces -/
def F.masonrybook_Book_putPieces (b:Option Addr) (w:World) (R:World→Prop):Prop:=RetT Pg [] 65 #[.pointer b] w R
/-- (*masonrybook.Book).putEntries -/
def F.masonrybook_Book_putEntries (b:Option Addr) (w:World) (R:World→Prop):Prop:=RetT Pg [] 66 #[.pointer b] w R
/-- (*masonrybook.Book).putObjects -/
def F.masonrybook_Book_putObjects (b:Option Addr) (w:World) (R:World→Prop):Prop:=RetT Pg [] 67 #[.pointer b] w R
/-- (*masonrybook.Book).putWrites -/
def F.masonrybook_Book_putWrites (b:Option Addr) (w:World) (R:World→Prop):Prop:=RetT Pg [] 68 #[.pointer b] w R
/-- (*masonrybook.Book).growTexts -/
def F.masonrybook_Book_growTexts (b:Option Addr) (w:World) (R:Sl→World→Prop):Prop:=RetT Pg [.one .slice] 69 #[.pointer b] w R
/-- (*masonrybook.Book).growInts -/
def F.masonrybook_Book_growInts (b:Option Addr) (w:World) (R:Sl→World→Prop):Prop:=RetT Pg [.one .slice] 70 #[.pointer b] w R
/-- (*masonrybook.Book).growSpans -/
def F.masonrybook_Book_growSpans (b:Option Addr) (w:World) (R:Sl→World→Prop):Prop:=RetT Pg [.one .slice] 71 #[.pointer b] w R
/-- (*masonrybook.Book).growPieces -/
def F.masonrybook_Book_growPieces (b:Option Addr) (w:World) (R:Sl→World→Prop):Prop:=RetT Pg [.one .slice] 72 #[.pointer b] w R
/-- (*masonrybook.Book).growEntries -/
def F.masonrybook_Book_growEntries (b:Option Addr) (w:World) (R:Sl→World→Prop):Prop:=RetT Pg [.one .slice] 73 #[.pointer b] w R
/-- (*masonrybook.Book).growObjects -/
def F.masonrybook_Book_growObjects (b:Option Addr) (w:World) (R:Sl→World→Prop):Prop:=RetT Pg [.one .slice] 74 #[.pointer b] w R
/-- (*masonrybook.Book).growWrites -/
def F.masonrybook_Book_growWrites (b:Option Addr) (w:World) (R:Sl→World→Prop):Prop:=RetT Pg [.one .slice] 75 #[.pointer b] w R
/-- (*masonrybook.Book).growSteps -/
def F.masonrybook_Book_growSteps (b:Option Addr) (w:World) (R:Sl→World→Prop):Prop:=RetT Pg [.one .slice] 76 #[.pointer b] w R
/-- masonrybook.markedTexts -/
def F.masonrybook_markedTexts (l:Sl) (w:World) (R:Bool→World→Prop):Prop:=RetT Pg [.one .bool] 77 #[.slice l.a l.len l.cap] w R
/-- masonrybook.markedInts -/
def F.masonrybook_markedInts (l:Sl) (w:World) (R:Bool→World→Prop):Prop:=RetT Pg [.one .bool] 78 #[.slice l.a l.len l.cap] w R
/-- masonrybook.markedSpans -/
def F.masonrybook_markedSpans (l:Sl) (w:World) (R:Bool→World→Prop):Prop:=RetT Pg [.one .bool] 79 #[.slice l.a l.len l.cap] w R
/-- masonrybook.markedPieces -/
def F.masonrybook_markedPieces (l:Sl) (w:World) (R:Bool→World→Prop):Prop:=RetT Pg [.one .bool] 80 #[.slice l.a l.len l.cap] w R
/-- masonrybook.markedEntries -/
def F.masonrybook_markedEntries (l:Sl) (w:World) (R:Bool→World→Prop):Prop:=RetT Pg [.one .bool] 81 #[.slice l.a l.len l.cap] w R
/-- masonrybook.markedObjects -/
def F.masonrybook_markedObjects (l:Sl) (w:World) (R:Bool→World→Prop):Prop:=RetT Pg [.one .bool] 82 #[.slice l.a l.len l.cap] w R
/-- masonrybook.markedWrites -/
def F.masonrybook_markedWrites (l:Sl) (w:World) (R:Bool→World→Prop):Prop:=RetT Pg [.one .bool] 83 #[.slice l.a l.len l.cap] w R
/-- masonrybook.markedSteps -/
def F.masonrybook_markedSteps (l:Sl) (w:World) (R:Bool→World→Prop):Prop:=RetT Pg [.one .bool] 84 #[.slice l.a l.len l.cap] w R
/-- slices.Repeat[[]string,string] -/
def F.slices_Repeat_sl_string_string (x:Sl) (count:Int) (w:World) (R:Sl→World→Prop):Prop:=RetT Pg [.one .slice] 85 #[.slice x.a x.len x.cap,.int .i64 count] w R
/-- strings.Repeat -/
def F.strings_Repeat (s:ByteArray) (count:Int) (w:World) (R:ByteArray→World→Prop):Prop:=RetT Pg [.one .str] 86 #[.string s,.int .i64 count] w R
/-- slices.Clone[[]string,string] -/
def F.slices_Clone_sl_string_string (s:Sl) (w:World) (R:Sl→World→Prop):Prop:=RetT Pg [.one .slice] 87 #[.slice s.a s.len s.cap] w R
/-- desk.opened -/
def F.desk_opened (d:Option Addr) (w:World) (R:Option Addr→Int→World→Prop):Prop:=RetT Pg [.one .ptr,.one (.int .i64)] 88 #[.pointer d] w R
/-- room.New -/
def F.room_New (n:Int) (used:Sl) (w:World) (R:Option Addr→Int→World→Prop):Prop:=RetT Pg [.one .ptr,.one (.int .i64)] 89 #[.int .i64 n,.slice used.a used.len used.cap] w R
/-- (*wal.Wal).Size -/
def F.wal_Wal_Size (w':Option Addr) (w:World) (R:Int→World→Prop):Prop:=RetT Pg [.one (.int .i64)] 90 #[.pointer w'] w R
/-- (*room.Room).Lay -/
def F.room_Room_Lay (r:Option Addr) (w:World) (R:ByteArray→Int→World→Prop):Prop:=RetT Pg [.one .str,.one (.int .i64)] 91 #[.pointer r] w R
/-- (*wal.Wal).Commit -/
def F.wal_Wal_Commit (w':Option Addr) (l:Sl) (w:World) (R:Int→World→Prop):Prop:=RetT Pg [.one (.int .i64)] 92 #[.pointer w',.slice l.a l.len l.cap] w R
/-- desk.zeros -/
def F.desk_zeros (w:World) (R:ByteArray→World→Prop):Prop:=RetT Pg [.one .str] 93 #[] w R
/-- masonryref1.Pad -/
def F.masonryref1_Pad (n:Int) (w:World) (R:ByteArray→World→Prop):Prop:=RetT Pg [.one .str] 94 #[.int .i64 n] w R
/-- masonryref1.word -/
def F.masonryref1_word (s:ByteArray) (w:World) (R:Int→World→Prop):Prop:=RetT Pg [.one (.int .u32)] 95 #[.string s] w R
/-- masonryref1.turn -/
def F.masonryref1_turn (x n:Int) (w:World) (R:Int→World→Prop):Prop:=RetT Pg [.one (.int .u32)] 96 #[.int .u32 x,.int .i64 n] w R
/-- masonryref1.High -/
def F.masonryref1_High (v n:Int) (w:World) (R:ByteArray→World→Prop):Prop:=RetT Pg [.one .str] 97 #[.int .u64 v,.int .i64 n] w R
/-- masonryref1.Keys -/
def F.masonryref1_Keys (w:World) (R:Sl→World→Prop):Prop:=RetT Pg [.one .slice] 98 #[] w R
/-- (*desk.Desk).Mark -/
def F.desk_Desk_Mark (k:Option Addr) (w:World) (R:Option Addr→Option Addr→Option Nat→Int→World→Prop):Prop:=RetT Pg [.agg [.ptr,.ptr,.map,.int .i64]] 99 #[.pointer k] w R
/-- (*bucket.table).save -/
def F.bucket_table_save (t:Option Addr) (w:World) (R:Int→Int→World→Prop):Prop:=RetT Pg [.one (.int .i64),.one (.int .i64)] 100 #[.pointer t] w R
/-- (*desk.Desk).Back -/
def F.desk_Desk_Back (k m_0 m_1:Option Addr) (m_2:Option Nat) (m_3:Int) (w:World) (R:World→Prop):Prop:=RetT Pg [] 101 #[.pointer k,.agg #[.pointer m_0,.pointer m_1,.map m_2,.int .i64 m_3]] w R
/-- bucket.valid -/
def F.bucket_valid (x_0:Int) (x_1:ByteArray) (x_2:Int) (w:World) (R:Bool→World→Prop):Prop:=RetT Pg [.one .bool] 102 #[.agg #[.int .i64 x_0,.string x_1,.int .i64 x_2]] w R
/-- slices.Contains[[]api.Entry,api.Entry] -/
def F.slices_Contains_sl_api_Entry_api_Entry (s:Sl) (v_0:Int) (v_1:ByteArray) (v_2:Int) (w:World) (R:Bool→World→Prop):Prop:=RetT Pg [.one .bool] 103 #[.slice s.a s.len s.cap,.agg #[.int .i64 v_0,.string v_1,.int .i64 v_2]] w R
/-- bucket.buckets -/
def F.bucket_buckets (n:Int) (w:World) (R:Int→World→Prop):Prop:=RetT Pg [.one (.int .i64)] 104 #[.int .i64 n] w R
/-- (*bucket.table).grow -/
def F.bucket_table_grow (t:Option Addr) (w:World) (R:Int→World→Prop):Prop:=RetT Pg [.one (.int .i64)] 105 #[.pointer t] w R
/-- slices.BinarySearchFunc[[]api.Entry,api.Entry,api.Entry] -/
def F.slices_BinarySearchFunc_sl_api_Entry_api_Entry_api_Entry (x:Sl) (target_0:Int) (target_1:ByteArray) (target_2:Int) (cmp:Value) (w:World) (R:Int→Bool→World→Prop):Prop:=RetT Pg [.one (.int .i64),.one .bool] 106 #[.slice x.a x.len x.cap,.agg #[.int .i64 target_0,.string target_1,.int .i64 target_2],cmp] w R
/-- (*bucket.table).set -/
def F.bucket_table_set (t:Option Addr) (n:Int) (l:Sl) (w:World) (R:World→Prop):Prop:=RetT Pg [] 107 #[.pointer t,.int .i64 n,.slice l.a l.len l.cap] w R
/-- slices.Insert[[]api.Entry,api.Entry] -/
def F.slices_Insert_sl_api_Entry_api_Entry (s:Sl) (i:Int) (v:Sl) (w:World) (R:Sl→World→Prop):Prop:=RetT Pg [.one .slice] 108 #[.slice s.a s.len s.cap,.int .i64 i,.slice v.a v.len v.cap] w R
/-- slices.Clone[[]api.Entry,api.Entry] -/
def F.slices_Clone_sl_api_Entry_api_Entry (s:Sl) (w:World) (R:Sl→World→Prop):Prop:=RetT Pg [.one .slice] 109 #[.slice s.a s.len s.cap] w R
/-- masonryref17.Ahead -/
def F.masonryref17_Ahead (a_0:Int) (a_1:ByteArray) (a_2 b_0:Int) (b_1:ByteArray) (b_2:Int) (w:World) (R:Bool→World→Prop):Prop:=RetT Pg [.one .bool] 110 #[.agg #[.int .i64 a_0,.string a_1,.int .i64 a_2],.agg #[.int .i64 b_0,.string b_1,.int .i64 b_2]] w R
/-- masonryref1.ValidPrint -/
def F.masonryref1_ValidPrint (p_0:Int) (p_1:ByteArray) (w:World) (R:Bool→World→Prop):Prop:=RetT Pg [.one .bool] 111 #[.agg #[.int .i64 p_0,.string p_1]] w R
/-- chain.Get -/
def F.chain_Get (k:Option Addr) (at_:Int) (w:World) (R:Int→Int→Int→ByteArray→Int→World→Prop):Prop:=RetT Pg [.agg [.int .i64,.int .i64,.int .i64,.str],.one (.int .i64)] 112 #[.pointer k,.int .i64 at_] w R
/-- bits.On -/
def F.bits_On (b:ByteArray) (w:World) (R:Option Addr→World→Prop):Prop:=RetT Pg [.one .ptr] 113 #[.string b] w R
/-- (*bits.In).Half -/
def F.bits_In_Half (i:Option Addr) (w:World) (R:Int→World→Prop):Prop:=RetT Pg [.one (.int .i64)] 114 #[.pointer i] w R
/-- (*bits.In).Left -/
def F.bits_In_Left (i:Option Addr) (w:World) (R:Int→World→Prop):Prop:=RetT Pg [.one (.int .i64)] 115 #[.pointer i] w R
/-- (*bits.In).End -/
def F.bits_In_End (i:Option Addr) (w:World) (R:Int→World→Prop):Prop:=RetT Pg [.one (.int .i64)] 116 #[.pointer i] w R
/-- mark.Read -/
def F.mark_Read (b:ByteArray) (w:World) (R:Int→ByteArray→Int→World→Prop):Prop:=RetT Pg [.agg [.int .i64,.str],.one (.int .i64)] 117 #[.string b] w R
/-- (*bits.In).Raw -/
def F.bits_In_Raw (i:Option Addr) (n:Int) (w:World) (R:ByteArray→World→Prop):Prop:=RetT Pg [.one .str] 118 #[.pointer i,.int .i64 n] w R
/-- cmp.Or[int] -/
def F.cmp_Or_int (vals:Sl) (w:World) (R:Int→World→Prop):Prop:=RetT Pg [.one (.int .i64)] 119 #[.slice vals.a vals.len vals.cap] w R
/-- mark.Compare -/
def F.mark_Compare (a_0:Int) (a_1:ByteArray) (b_0:Int) (b_1:ByteArray) (w:World) (R:Int→World→Prop):Prop:=RetT Pg [.one (.int .i64)] 120 #[.agg #[.int .i64 a_0,.string a_1],.agg #[.int .i64 b_0,.string b_1]] w R
/-- cmp.Compare[int] -/
def F.cmp_Compare_int (x y:Int) (w:World) (R:Int→World→Prop):Prop:=RetT Pg [.one (.int .i64)] 121 #[.int .i64 x,.int .i64 y] w R
/-- slices.Index[[]api.Entry,api.Entry] -/
def F.slices_Index_sl_api_Entry_api_Entry (s:Sl) (v_0:Int) (v_1:ByteArray) (v_2:Int) (w:World) (R:Int→World→Prop):Prop:=RetT Pg [.one (.int .i64)] 122 #[.slice s.a s.len s.cap,.agg #[.int .i64 v_0,.string v_1,.int .i64 v_2]] w R
/-- slices.Delete[[]api.Entry,api.Entry] -/
def F.slices_Delete_sl_api_Entry_api_Entry (s:Sl) (i j:Int) (w:World) (R:Sl→World→Prop):Prop:=RetT Pg [.one .slice] 123 #[.slice s.a s.len s.cap,.int .i64 i,.int .i64 j] w R
/-- (*bucket.table).shrink -/
def F.bucket_table_shrink (t:Option Addr) (w:World) (R:Int→World→Prop):Prop:=RetT Pg [.one (.int .i64)] 124 #[.pointer t] w R
/-- slices.Clone[[]bool,bool] -/
def F.slices_Clone_sl_bool_bool (s:Sl) (w:World) (R:Sl→World→Prop):Prop:=RetT Pg [.one .slice] 127 #[.slice s.a s.len s.cap] w R
/-- chain.walk -/
def F.chain_walk (k:Option Addr) (at_:Int) (w:World) (R:Sl→Sl→Int→World→Prop):Prop:=RetT Pg [.one .slice,.one .slice,.one (.int .i64)] 129 #[.pointer k,.int .i64 at_] w R
/-- masonrybook.SameTexts -/
def F.masonrybook_SameTexts (a b:Sl) (w:World) (R:Bool→World→Prop):Prop:=RetT Pg [.one .bool] 130 #[.slice a.a a.len a.cap,.slice b.a b.len b.cap] w R
/-- masonrybook.SameSpans -/
def F.masonrybook_SameSpans (a b:Sl) (w:World) (R:Bool→World→Prop):Prop:=RetT Pg [.one .bool] 131 #[.slice a.a a.len a.cap,.slice b.a b.len b.cap] w R
/-- masonrybook.SamePieces -/
def F.masonrybook_SamePieces (a b:Sl) (w:World) (R:Bool→World→Prop):Prop:=RetT Pg [.one .bool] 132 #[.slice a.a a.len a.cap,.slice b.a b.len b.cap] w R
/-- masonrybook.SameObjects -/
def F.masonrybook_SameObjects (a b:Sl) (w:World) (R:Bool→World→Prop):Prop:=RetT Pg [.one .bool] 133 #[.slice a.a a.len a.cap,.slice b.a b.len b.cap] w R
/-- masonrybook.SameWrites -/
def F.masonrybook_SameWrites (a b:Sl) (w:World) (R:Bool→World→Prop):Prop:=RetT Pg [.one .bool] 134 #[.slice a.a a.len a.cap,.slice b.a b.len b.cap] w R
/-- masonrybook.SameSteps -/
def F.masonrybook_SameSteps (a b:Sl) (w:World) (R:Bool→World→Prop):Prop:=RetT Pg [.one .bool] 135 #[.slice a.a a.len a.cap,.slice b.a b.len b.cap] w R
/-- masonrybook.markSteps -/
def F.masonrybook_markSteps (i from_ n:Int) (w:World) (R:Sl→World→Prop):Prop:=RetT Pg [.one .slice] 136 #[.int .i64 i,.int .i64 from_,.int .i64 n] w R
/-- masonrybook.markTexts -/
def F.masonrybook_markTexts (i from_ n:Int) (w:World) (R:Sl→World→Prop):Prop:=RetT Pg [.one .slice] 137 #[.int .i64 i,.int .i64 from_,.int .i64 n] w R
/-- masonrybook.markInts -/
def F.masonrybook_markInts (i from_ n:Int) (w:World) (R:Sl→World→Prop):Prop:=RetT Pg [.one .slice] 138 #[.int .i64 i,.int .i64 from_,.int .i64 n] w R
/-- masonrybook.markSpans -/
def F.masonrybook_markSpans (i from_ n:Int) (w:World) (R:Sl→World→Prop):Prop:=RetT Pg [.one .slice] 139 #[.int .i64 i,.int .i64 from_,.int .i64 n] w R
/-- masonrybook.markPieces -/
def F.masonrybook_markPieces (i from_ n:Int) (w:World) (R:Sl→World→Prop):Prop:=RetT Pg [.one .slice] 140 #[.int .i64 i,.int .i64 from_,.int .i64 n] w R
/-- masonrybook.markEntries -/
def F.masonrybook_markEntries (i from_ n:Int) (w:World) (R:Sl→World→Prop):Prop:=RetT Pg [.one .slice] 141 #[.int .i64 i,.int .i64 from_,.int .i64 n] w R
/-- masonrybook.markObjects -/
def F.masonrybook_markObjects (i from_ n:Int) (w:World) (R:Sl→World→Prop):Prop:=RetT Pg [.one .slice] 142 #[.int .i64 i,.int .i64 from_,.int .i64 n] w R
/-- masonrybook.markWrites -/
def F.masonrybook_markWrites (i from_ n:Int) (w:World) (R:Sl→World→Prop):Prop:=RetT Pg [.one .slice] 143 #[.int .i64 i,.int .i64 from_,.int .i64 n] w R
/-- math/bits.Mul -/
def F.bits_Mul (x y:Int) (w:World) (R:Int→Int→World→Prop):Prop:=RetT Pg [.one (.int .u64),.one (.int .u64)] 144 #[.int .u64 x,.int .u64 y] w R
/-- wal.Open -/
def F.wal_Open (d:Option Addr) (w:World) (R:Option Addr→Int→World→Prop):Prop:=RetT Pg [.one .ptr,.one (.int .i64)] 150 #[.pointer d] w R
/-- (*disk.Disk).Write -/
def F.disk_Disk_Write (d:Option Addr) (l:Sl) (w:World) (R:Int→World→Prop):Prop:=RetT Pg [.one (.int .i64)] 151 #[.pointer d,.slice l.a l.len l.cap] w R
/-- (*disk.Disk).Flush -/
def F.disk_Disk_Flush (d:Option Addr) (w:World) (R:Int→World→Prop):Prop:=RetT Pg [.one (.int .i64)] 152 #[.pointer d] w R
/-- (*disk.Disk).Size -/
def F.disk_Disk_Size (d:Option Addr) (w:World) (R:Int→World→Prop):Prop:=RetT Pg [.one (.int .i64)] 153 #[.pointer d] w R
/-- (*bits.Out).Byte -/
def F.bits_Out_Byte (o:Option Addr) (l:Sl) (w:World) (R:Option Addr→World→Prop):Prop:=RetT Pg [.one .ptr] 154 #[.pointer o,.slice l.a l.len l.cap] w R
/-- (*bits.Out).Half -/
def F.bits_Out_Half (o:Option Addr) (l:Sl) (w:World) (R:Option Addr→World→Prop):Prop:=RetT Pg [.one .ptr] 155 #[.pointer o,.slice l.a l.len l.cap] w R
/-- (*bits.Out).Raw -/
def F.bits_Out_Raw (o:Option Addr) (l:Sl) (w:World) (R:Option Addr→World→Prop):Prop:=RetT Pg [.one .ptr] 156 #[.pointer o,.slice l.a l.len l.cap] w R
/-- (*bits.Out).End -/
def F.bits_Out_End (o:Option Addr) (w:World) (R:ByteArray→Int→World→Prop):Prop:=RetT Pg [.one .str,.one (.int .i64)] 157 #[.pointer o] w R
/-- crc.Seal -/
def F.crc_Seal (n:Int) (l:Sl) (w:World) (R:ByteArray→Int→World→Prop):Prop:=RetT Pg [.one .str,.one (.int .i64)] 158 #[.int .i64 n,.slice l.a l.len l.cap] w R
/-- (*wal.Wal).Up -/
def F.wal_Wal_Up (w':Option Addr) (w:World) (R:Bool→World→Prop):Prop:=RetT Pg [.one .bool] 159 #[.pointer w'] w R
/-- (*wal.Wal).last -/
def F.wal_Wal_last (w':Option Addr) (l:Sl) (w:World) (R:Option Nat→Int→World→Prop):Prop:=RetT Pg [.one .map,.one (.int .i64)] 160 #[.pointer w',.slice l.a l.len l.cap] w R
/-- slices.Sorted[int] -/
def F.slices_Sorted_int (seq:Value) (w:World) (R:Sl→World→Prop):Prop:=RetT Pg [.one .slice] 161 #[seq] w R
/-- maps.Keys[map[int]string,int,string] -/
def F.maps_Keys_map_int_string_int_string (m:Option Nat) (w:World) (R:Value→World→Prop):Prop:=RetT Pg [.one .any] 162 #[.map m] w R
/-- (*wal.Wal).put -/
def F.wal_Wal_put (w':Option Addr) (l:Sl) (w:World) (R:Int→World→Prop):Prop:=RetT Pg [.one (.int .i64)] 163 #[.pointer w',.slice l.a l.len l.cap] w R
/-- (*wal.Wal).putHead -/
def F.wal_Wal_putHead (w':Option Addr) (h_0:Int) (h_1:Bool) (h_2:Sl) (w:World) (R:Int→World→Prop):Prop:=RetT Pg [.one (.int .i64)] 164 #[.pointer w',.agg #[.int .i64 h_0,.bool h_1,.slice h_2.a h_2.len h_2.cap]] w R
/-- head.Next -/
def F.head_Next (h_0:Int) (h_1:Bool) (h_2 targets:Sl) (w:World) (R:Int→Bool→Sl→World→Prop):Prop:=RetT Pg [.agg [.int .i64,.bool,.slice]] 165 #[.agg #[.int .i64 h_0,.bool h_1,.slice h_2.a h_2.len h_2.cap],.slice targets.a targets.len targets.cap] w R
/-- (*wal.Wal).write -/
def F.wal_Wal_write (w':Option Addr) (l:Sl) (w:World) (R:Int→World→Prop):Prop:=RetT Pg [.one (.int .i64)] 166 #[.pointer w',.slice l.a l.len l.cap] w R
/-- masonryref1.Zeros -/
def F.masonryref1_Zeros (n:Int) (w:World) (R:ByteArray→World→Prop):Prop:=RetT Pg [.one .str] 167 #[.int .i64 n] w R
/-- maps.Clone[map[int]string,int,string] -/
def F.maps_Clone_map_int_string_int_string (m:Option Nat) (w:World) (R:Option Nat→World→Prop):Prop:=RetT Pg [.one .map] 168 #[.map m] w R
/-- mark.Lay -/
def F.mark_Lay (p_0:Int) (p_1:ByteArray) (w:World) (R:ByteArray→Int→World→Prop):Prop:=RetT Pg [.one .str,.one (.int .i64)] 169 #[.agg #[.int .i64 p_0,.string p_1]] w R
/-- (*bucket.table).put -/
def F.bucket_table_put (t:Option Addr) (old tag:Int) (b:ByteArray) (w:World) (R:Int→Int→World→Prop):Prop:=RetT Pg [.one (.int .i64),.one (.int .i64)] 170 #[.pointer t,.int .i64 old,.int .i64 tag,.string b] w R
/-- mark.Valid -/
def F.mark_Valid (p_0:Int) (p_1:ByteArray) (w:World) (R:Bool→World→Prop):Prop:=RetT Pg [.one .bool] 171 #[.agg #[.int .i64 p_0,.string p_1]] w R
/-- bucket.parent -/
def F.bucket_parent (n:Int) (w:World) (R:Int→World→Prop):Prop:=RetT Pg [.one (.int .i64)] 172 #[.int .i64 n] w R
/-- slices.rotateRight[api.Entry] -/
def F.slices_rotateRight_api_Entry (s:Sl) (r:Int) (w:World) (R:World→Prop):Prop:=RetT Pg [] 174 #[.slice s.a s.len s.cap,.int .i64 r] w R
/-- masonryref1.Compare -/
def F.masonryref1_Compare (a_0:Int) (a_1:ByteArray) (b_0:Int) (b_1:ByteArray) (w:World) (R:Int→World→Prop):Prop:=RetT Pg [.one (.int .i64)] 175 #[.agg #[.int .i64 a_0,.string a_1],.agg #[.int .i64 b_0,.string b_1]] w R
/-- masonryref1.Size -/
def F.masonryref1_Size (kind:Int) (w:World) (R:Int→World→Prop):Prop:=RetT Pg [.one (.int .i64)] 176 #[.int .i64 kind] w R
/-- (*bits.In).low -/
def F.bits_In_low (i:Option Addr) (size:Int) (w:World) (R:Int→World→Prop):Prop:=RetT Pg [.one (.int .i64)] 177 #[.pointer i,.int .i64 size] w R
/-- (*bits.In).Rest -/
def F.bits_In_Rest (i:Option Addr) (w:World) (R:Bool→World→Prop):Prop:=RetT Pg [.one .bool] 178 #[.pointer i] w R
/-- (*bits.In).Byte -/
def F.bits_In_Byte (i:Option Addr) (w:World) (R:Int→World→Prop):Prop:=RetT Pg [.one (.int .i64)] 179 #[.pointer i] w R
/-- mark.Size -/
def F.mark_Size (kind:Int) (w:World) (R:Int→World→Prop):Prop:=RetT Pg [.one (.int .i64)] 180 #[.int .i64 kind] w R
/-- strings.Clone -/
def F.strings_Clone (s:ByteArray) (w:World) (R:ByteArray→World→Prop):Prop:=RetT Pg [.one .str] 181 #[.string s] w R
/-- cmp.Compare[string] -/
def F.cmp_Compare_string (x y:ByteArray) (w:World) (R:Int→World→Prop):Prop:=RetT Pg [.one (.int .i64)] 182 #[.string x,.string y] w R
/-- cmp.isNaN[int] -/
def F.cmp_isNaN_int (x:Int) (w:World) (R:Bool→World→Prop):Prop:=RetT Pg [.one .bool] 183 #[.int .i64 x] w R
/-- chain.Drop -/
def F.chain_Drop (k:Option Addr) (at_:Int) (w:World) (R:Int→World→Prop):Prop:=RetT Pg [.one (.int .i64)] 184 #[.pointer k,.int .i64 at_] w R
/-- (*desk.Desk).Get -/
def F.desk_Desk_Get (k:Option Addr) (at_:Int) (w:World) (R:ByteArray→Int→World→Prop):Prop:=RetT Pg [.one .str,.one (.int .i64)] 204 #[.pointer k,.int .i64 at_] w R
/-- chain.read -/
def F.chain_read (b:ByteArray) (w:World) (R:Int→Int→Int→Int→Int→ByteArray→Bool→World→Prop):Prop:=RetT Pg [.agg [.int .i64,.int .i64,.int .i64,.int .i64,.int .i64,.str],.one .bool] 205 #[.string b] w R
/-- math/bits.Mul64 -/
def F.bits_Mul64 (x y:Int) (w:World) (R:Int→Int→World→Prop):Prop:=RetT Pg [.one (.int .u64),.one (.int .u64)] 208 #[.int .u64 x,.int .u64 y] w R
/-- (*disk.Disk).Read -/
def F.disk_Disk_Read (d:Option Addr) (at_:Int) (w:World) (R:ByteArray→Int→World→Prop):Prop:=RetT Pg [.one .str,.one (.int .i64)] 212 #[.pointer d,.int .i64 at_] w R
/-- head.Read -/
def F.head_Read (b:ByteArray) (w:World) (R:Int→Bool→Sl→Int→World→Prop):Prop:=RetT Pg [.agg [.int .i64,.bool,.slice],.one (.int .i64)] 213 #[.string b] w R
/-- (*wal.Wal).logged -/
def F.wal_Wal_logged (w':Option Addr) (w:World) (R:Sl→Int→World→Prop):Prop:=RetT Pg [.one .slice,.one (.int .i64)] 214 #[.pointer w'] w R
/-- (*disk.Disk).On -/
def F.disk_Disk_On (d:Option Addr) (w:World) (R:Bool→World→Prop):Prop:=RetT Pg [.one .bool] 215 #[.pointer d] w R
theorem F.disk_Disk_On_mono {d:Option Addr} {w:World} {R R':Bool→World→Prop} (h:F.disk_Disk_On d w R) (hR:∀ x0 w',R x0 w'→R' x0 w'):F.disk_Disk_On d w R':=
 Calls.mono h fun e w' hx=>by
   obtain ⟨x0,he,hr⟩:=hx
   exact ⟨x0,he,hR x0 w' hr⟩
/-- (*disk.Disk).write -/
def F.disk_Disk_write (d:Option Addr) (w_0:Int) (w_1:ByteArray) (w:World) (R:Int→World→Prop):Prop:=RetT Pg [.one (.int .i64)] 216 #[.pointer d,.agg #[.int .i64 w_0,.string w_1]] w R
/-- (*disk.Disk).goes -/
def F.disk_Disk_goes (d:Option Addr) (w:World) (R:Bool→World→Prop):Prop:=RetT Pg [.one .bool] 217 #[.pointer d] w R
/-- (*disk.Disk).Crash -/
def F.disk_Disk_Crash (d:Option Addr) (keep:Sl) (w:World) (R:Int→World→Prop):Prop:=RetT Pg [.one (.int .i64)] 218 #[.pointer d,.slice keep.a keep.len keep.cap] w R
/-- (*bits.Out).lay -/
def F.bits_Out_lay (o:Option Addr) (size:Int) (l:Sl) (w:World) (R:Option Addr→World→Prop):Prop:=RetT Pg [.one .ptr] 219 #[.pointer o,.int .i64 size,.slice l.a l.len l.cap] w R
/-- (*bits.Out).Pad -/
def F.bits_Out_Pad (o:Option Addr) (n:Int) (w:World) (R:Option Addr→World→Prop):Prop:=RetT Pg [.one .ptr] 220 #[.pointer o,.int .i64 n] w R
/-- (*bits.Out).Word -/
def F.bits_Out_Word (o:Option Addr) (l:Sl) (w:World) (R:Option Addr→World→Prop):Prop:=RetT Pg [.one .ptr] 221 #[.pointer o,.slice l.a l.len l.cap] w R
/-- crc.Of -/
def F.crc_Of (l:Sl) (w:World) (R:Int→World→Prop):Prop:=RetT Pg [.one (.int .u32)] 222 #[.slice l.a l.len l.cap] w R
/-- head.Lay -/
def F.head_Lay (h_0:Int) (h_1:Bool) (h_2:Sl) (w:World) (R:ByteArray→Int→World→Prop):Prop:=RetT Pg [.one .str,.one (.int .i64)] 225 #[.agg #[.int .i64 h_0,.bool h_1,.slice h_2.a h_2.len h_2.cap]] w R
/-- slices.Clone[[]int,int] -/
def F.slices_Clone_sl_int_int (s:Sl) (w:World) (R:Sl→World→Prop):Prop:=RetT Pg [.one .slice] 226 #[.slice s.a s.len s.cap] w R
/-- slices.Compact[[]int,int] -/
def F.slices_Compact_sl_int_int (s:Sl) (w:World) (R:Sl→World→Prop):Prop:=RetT Pg [.one .slice] 227 #[.slice s.a s.len s.cap] w R
/-- head.Done -/
def F.head_Done (h_0:Int) (h_1:Bool) (h_2:Sl) (w:World) (R:Int→Bool→Sl→World→Prop):Prop:=RetT Pg [.agg [.int .i64,.bool,.slice]] 228 #[.agg #[.int .i64 h_0,.bool h_1,.slice h_2.a h_2.len h_2.cap]] w R
/-- chain.Put -/
def F.chain_Put (k:Option Addr) (gen tag:Int) (b:ByteArray) (w:World) (R:Int→Int→World→Prop):Prop:=RetT Pg [.one (.int .i64),.one (.int .i64)] 230 #[.pointer k,.int .i64 gen,.int .i64 tag,.string b] w R
/-- strings.Trim -/
def F.strings_Trim (s cutset:ByteArray) (w:World) (R:ByteArray→World→Prop):Prop:=RetT Pg [.one .str] 232 #[.string s,.string cutset] w R
/-- internal/stringslite.Clone -/
def F.stringslite_Clone (s:ByteArray) (w:World) (R:ByteArray→World→Prop):Prop:=RetT Pg [.one .str] 233 #[.string s] w R
/-- cmp.isNaN[string] -/
def F.cmp_isNaN_string (x:ByteArray) (w:World) (R:Bool→World→Prop):Prop:=RetT Pg [.one .bool] 234 #[.string x] w R
/-- (*desk.Desk).Drop -/
def F.desk_Desk_Drop (k:Option Addr) (l:Sl) (w:World) (R:Int→World→Prop):Prop:=RetT Pg [.one (.int .i64)] 235 #[.pointer k,.slice l.a l.len l.cap] w R
/-- (*desk.Desk).Bad -/
def F.desk_Desk_Bad (k:Option Addr) (w:World) (R:Int→World→Prop):Prop:=RetT Pg [.one (.int .i64)] 244 #[.pointer k] w R
/-- (*wal.Wal).Read -/
def F.wal_Wal_Read (w':Option Addr) (at_:Int) (w:World) (R:ByteArray→Int→World→Prop):Prop:=RetT Pg [.one .str,.one (.int .i64)] 245 #[.pointer w',.int .i64 at_] w R
/-- crc.Open -/
def F.crc_Open (b:ByteArray) (w:World) (R:ByteArray→Int→World→Prop):Prop:=RetT Pg [.one .str,.one (.int .i64)] 246 #[.string b] w R
/-- (*bits.In).Text -/
def F.bits_In_Text (i:Option Addr) (w:World) (R:ByteArray→World→Prop):Prop:=RetT Pg [.one .str] 247 #[.pointer i] w R
/-- (chain.link).lay -/
def F.chain_link_lay (x_0 x_1 x_2 x_3 x_4:Int) (x_5:ByteArray) (w:World) (R:ByteArray→World→Prop):Prop:=RetT Pg [.one .str] 248 #[.agg #[.int .i64 x_0,.int .i64 x_1,.int .i64 x_2,.int .i64 x_3,.int .i64 x_4,.string x_5]] w R
/-- (*disk.Disk).may -/
def F.disk_Disk_may (d:Option Addr) (at_:Int) (w:World) (R:Int→World→Prop):Prop:=RetT Pg [.one (.int .i64)] 251 #[.pointer d,.int .i64 at_] w R
/-- (*bits.In).Long -/
def F.bits_In_Long (i:Option Addr) (w:World) (R:Int→World→Prop):Prop:=RetT Pg [.one (.int .i64)] 252 #[.pointer i] w R
/-- crc.half -/
def F.crc_half (w:World) (R:Int→Int→Int→Int→Int→Int→Int→Int→Int→Int→Int→Int→Int→Int→Int→Int→World→Prop):Prop:=RetT Pg [.agg [.int .u32,.int .u32,.int .u32,.int .u32,.int .u32,.int .u32,.int .u32,.int .u32,.int .u32,.int .u32,.int .u32,.int .u32,.int .u32,.int .u32,.int .u32,.int .u32]] 253 #[] w R
/-- head.Valid -/
def F.head_Valid (h_0:Int) (h_1:Bool) (h_2:Sl) (w:World) (R:Bool→World→Prop):Prop:=RetT Pg [.one .bool] 255 #[.agg #[.int .i64 h_0,.bool h_1,.slice h_2.a h_2.len h_2.cap]] w R
/-- (*bits.Out).Long -/
def F.bits_Out_Long (o:Option Addr) (l:Sl) (w:World) (R:Option Addr→World→Prop):Prop:=RetT Pg [.one .ptr] 256 #[.pointer o,.slice l.a l.len l.cap] w R
/-- chain.Need -/
def F.chain_Need (n:Int) (w:World) (R:Int→World→Prop):Prop:=RetT Pg [.one (.int .i64)] 257 #[.int .i64 n] w R
/-- (*desk.Desk).New -/
def F.desk_Desk_New (k:Option Addr) (data:ByteArray) (w:World) (R:Int→Int→World→Prop):Prop:=RetT Pg [.one (.int .i64),.one (.int .i64)] 258 #[.pointer k,.string data] w R
/-- (*room.Room).Used -/
def F.room_Room_Used (r:Option Addr) (at_:Int) (w:World) (R:Bool→World→Prop):Prop:=RetT Pg [.one .bool] 267 #[.pointer r,.int .i64 at_] w R
/-- slices.Contains[[]int,int] -/
def F.slices_Contains_sl_int_int (s:Sl) (v:Int) (w:World) (R:Bool→World→Prop):Prop:=RetT Pg [.one .bool] 268 #[.slice s.a s.len s.cap,.int .i64 v] w R
/-- (*room.Room).Give -/
def F.room_Room_Give (r:Option Addr) (l:Sl) (w:World) (R:Int→World→Prop):Prop:=RetT Pg [.one (.int .i64)] 269 #[.pointer r,.slice l.a l.len l.cap] w R
/-- (*bits.In).Word -/
def F.bits_In_Word (i:Option Addr) (w:World) (R:Int→World→Prop):Prop:=RetT Pg [.one (.int .i64)] 272 #[.pointer i] w R
/-- (*bits.Out).Text -/
def F.bits_Out_Text (o:Option Addr) (l:Sl) (w:World) (R:Option Addr→World→Prop):Prop:=RetT Pg [.one .ptr] 273 #[.pointer o,.slice l.a l.len l.cap] w R
/-- (*room.Room).Take -/
def F.room_Room_Take (r:Option Addr) (w:World) (R:Int→Int→World→Prop):Prop:=RetT Pg [.one (.int .i64),.one (.int .i64)] 274 #[.pointer r] w R
/-- slices.Index[[]int,int] -/
def F.slices_Index_sl_int_int (s:Sl) (v:Int) (w:World) (R:Int→World→Prop):Prop:=RetT Pg [.one (.int .i64)] 279 #[.slice s.a s.len s.cap,.int .i64 v] w R
/-- slices.Index[[]bool,bool] -/
def F.slices_Index_sl_bool_bool (s:Sl) (v:Bool) (w:World) (R:Int→World→Prop):Prop:=RetT Pg [.one (.int .i64)] 280 #[.slice s.a s.len s.cap,.bool v] w R
theorem Ez {H:Hints} {f:FuncId} {fn:Func} (hf:Tryz.prog.funcs[f]? = some fn) (L:List Ly) (A:List SV) (ha:argsOk A=true) (w:World) (R:Go.Vc.Fn (flats L) (World→Prop)) {a b:Prop} (e:(vcFun cfg H fn L A w R→RetT cfg.P L f ⟨SV.vs A⟩ w R)=(a→b)) (h:a):b:=Eq.mp e (vcFun_sound (C:=cfg) cfg_ok hf ha) h
end Go.Proofs.YtgacpkgaogiocaaGreatDoor
