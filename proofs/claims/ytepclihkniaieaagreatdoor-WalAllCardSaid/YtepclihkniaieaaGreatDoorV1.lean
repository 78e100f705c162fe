import Derived.Test.YtepclihkniaieaaGreatDoorG
namespace Go.Proofs.YtepclihkniaieaaGreatDoor
open Go Go.Vc
open Go.RowKit (Below)
set_option linter.unusedVariables false
set_option maxRecDepth 100000
def V.wal_Open (d : Option Addr) (w : World) (R : Option Addr → Int → World → Prop) : Prop :=
  ((d.isNone = true → (R none 1 w)) ∧ (d.isNone = false → (F.disk_Disk_Read d 0 w (fun (s : ByteArray) (n : Int) (w_ : World) => (((n != 0) = true → (R none n w_)) ∧ ((n != 0) = false → (F.head_Read s w_ (fun (n1 : Int) (b : Bool) (l : Sl) (n2 : Int) (w_1 : World) => let w_2 := w_1.alloc (.cells #[.int .i64 0, .bool false, .slice none 0 0] T.y_head_Head); (Wr w_2 (blk w_1.heap.size) ∧ (let w_3 := w_2.setCell (blk w_1.heap.size) (.int .i64 n1); (Wr w_3 ((blk w_1.heap.size).add 1) ∧ (let w_4 := w_3.setCell ((blk w_1.heap.size).add 1) (.bool b); (Wr w_4 ((blk w_1.heap.size).add 2) ∧ (let w_5 := w_4.setCell ((blk w_1.heap.size).add 2) (.slice l.a l.len l.cap); (((n2 != 0) = true → (R none 25 w_5)) ∧ ((n2 != 0) = false → (∃ (n3 : Int), (w_5.cell? (blk w_1.heap.size) = some (.int .i64 n3) ∧ (∃ (b1 : Bool), (w_5.cell? ((blk w_1.heap.size).add 1) = some (.bool b1) ∧ (∃ (l1 : Sl), (w_5.cell? ((blk w_1.heap.size).add 2) = some (.slice l1.a l1.len l1.cap) ∧ (let w_6 := w_5.alloc (.cells #[.pointer d, .int .i64 n3, .bool b1, .slice l1.a l1.len l1.cap, .bool false, .int .i64 0] T.y_wal_Wal); ∃ (b2 : Bool), (w_6.cell? ((blk w_1.heap.size).add 1) = some (.bool b2) ∧ (((!b2) = true → (R (some (blk w_5.heap.size)) 0 w_6)) ∧ ((!b2) = false → (F.wal_Wal_logged (some (blk w_5.heap.size)) w_6 (fun (l2 : Sl) (n4 : Int) (w_7 : World) => (((n4 == 0) = true → (F.wal_Wal_write (some (blk w_5.heap.size)) l2 w_7 (fun (n5 : Int) (w_8 : World) => (((n5 != 0) = true → (R none n5 w_8)) ∧ ((n5 != 0) = false → (R (some (blk w_5.heap.size)) 0 w_8)))))) ∧ ((n4 == 0) = false → ((((n4 != 0) = true → (R none n4 w_7)) ∧ ((n4 != 0) = false → (R (some (blk w_5.heap.size)) 0 w_7))))))))))))))))))))))))))))))))))
def H.wal_Open : Hints := { loop := fun _ => none, cut := fun _ => none }
theorem E.wal_Open {d : Option Addr} {w : World} {R : Option Addr → Int → World → Prop} (h : V.wal_Open d w R) : F.wal_Open d w R := by
  have e : (vcFun cfg H.wal_Open Tryz.f28 [.one .ptr, .one (.int .i64)] [.val (.pointer d)] w R → RetT cfg.P [.one .ptr, .one (.int .i64)] 28 ⟨SV.vs [.val (.pointer d)]⟩ w R) = (V.wal_Open d w R → F.wal_Open d w R) := by kernel_rfl
  exact Eq.mp e (vcFun_sound (C := cfg) cfg_ok (H := H.wal_Open) (f := 28) (fn := Tryz.f28) Tryz.func28 (lys := [.one .ptr, .one (.int .i64)]) (args := [.val (.pointer d)]) rfl) h

def V.disk_New (n : Int) (w : World) (R : Option Addr → Int → World → Prop) : Prop :=
  (((decide (n < 140)) = true → (R none 1 w)) ∧ ((decide (n < 140)) = false → ((((decide (n > 2000)) = true → (R none 1 w)) ∧ ((decide (n > 2000)) = false → (F.strings_Repeat str_x_ 256 w (fun (s : ByteArray) (w_ : World) => let w_1 := w_.alloc (.cells #[.string s] T.y_string); F.slices_Repeat_sl_string_string ⟨some (blk w_.heap.size), 1, 1⟩ n w_1 (fun (l : Sl) (w_2 : World) => F.slices_Clone_sl_string_string l w_2 (fun (l1 : Sl) (w_3 : World) => let w_4 := w_3.alloc (.cells #[.slice l.a l.len l.cap, .slice l1.a l1.len l1.cap, .slice none 0 0, .int .i64 0, .bool false, .bool false, .int .i64 0, .slice none 0 0] T.y_disk_Disk); R (some (blk w_3.heap.size)) 0 w_4)))))))))
def H.disk_New : Hints := { loop := fun _ => none, cut := fun _ => none }
theorem E.disk_New {n : Int} {w : World} {R : Option Addr → Int → World → Prop} (h : V.disk_New n w R) : F.disk_New n w R := by
  have e : (vcFun cfg H.disk_New Tryz.f29 [.one .ptr, .one (.int .i64)] [.val (.int .i64 n)] w R → RetT cfg.P [.one .ptr, .one (.int .i64)] 29 ⟨SV.vs [.val (.int .i64 n)]⟩ w R) = (V.disk_New n w R → F.disk_New n w R) := by kernel_rfl
  exact Eq.mp e (vcFun_sound (C := cfg) cfg_ok (H := H.disk_New) (f := 29) (fn := Tryz.f29) Tryz.func29 (lys := [.one .ptr, .one (.int .i64)]) (args := [.val (.int .i64 n)]) rfl) h

def V.disk_Disk_Crash (d : Option Addr) (keep : Sl) (w : World) (R : Int → World → Prop) : Prop :=
  F.disk_Disk_On d w (fun (b : Bool) (w_ : World) => (((!b) = true → (R 0 w_)) ∧ ((!b) = false → (∃ (ad : Addr), (d = some ad ∧ (∃ (l : Sl), (w_.cell? (ad.add 2) = some (.slice l.a l.len l.cap) ∧ (∃ (J : Int → Int → World → Prop) (m : Int → Int → World → Nat), (J 0 0 w_ ∧ (∀ (lost : Int) (n : Int) (w_1 : World), J lost n w_1 → ((((decide (n < ((l.len : Nat) : Int))) = true → (∃ (ad1 : Addr), (l.a = some ad1 ∧ ((0 : Int) ≤ n ∧ (n < ((l.len : Nat) : Int) ∧ (∃ (n1 : Int), (w_1.cell? (ad1.add (n.toNat * 2)) = some (.int .i64 n1) ∧ (∃ (s : ByteArray), (w_1.cell? ((ad1.add (n.toNat * 2)).add 1) = some (.string s) ∧ (let w_2 := w_1.alloc (.cells #[.int .i64 0, .string sNil] T.y_api_Write); (Wr w_2 (blk w_1.heap.size) ∧ (let w_3 := w_2.setCell (blk w_1.heap.size) (.int .i64 n1); (Wr w_3 ((blk w_1.heap.size).add 1) ∧ (let w_4 := w_3.setCell ((blk w_1.heap.size).add 1) (.string s); (((decide (n < ((keep.len : Nat) : Int))) = true → (∃ (ad2 : Addr), (keep.a = some ad2 ∧ ((0 : Int) ≤ n ∧ (n < ((keep.len : Nat) : Int) ∧ (∃ (n2 : Int), (w_4.cell? (ad2.add (n.toNat * 1)) = some (.int .i64 n2) ∧ ((((bits .and .i64 n2 1) == 1) = true → (let w_5 := w_4.drew; ∃ (ad3 : Addr), (d = some ad3 ∧ (∃ (l1 : Sl), (w_5.cell? (ad3.add 1) = some (.slice l1.a l1.len l1.cap) ∧ (∃ (n3 : Int), (w_5.cell? (blk w_1.heap.size) = some (.int .i64 n3) ∧ (∃ (s1 : ByteArray), (w_5.cell? ((blk w_1.heap.size).add 1) = some (.string s1) ∧ (∃ (ad4 : Addr), (l1.a = some ad4 ∧ ((0 : Int) ≤ n3 ∧ (n3 < ((l1.len : Nat) : Int) ∧ (Wr w_5 (ad4.add (n3.toNat * 1)) ∧ (let w_6 := w_5.setCell (ad4.add (n3.toNat * 1)) (.string s1); (J lost (w64 (n + 1)) w_6 ∧ (m lost (w64 (n + 1)) w_6 < m lost n w_1))))))))))))))))) ∧ (((bits .and .i64 n2 1) == 1) = false → ((J (w64 (lost + 1)) (w64 (n + 1)) w_4 ∧ (m (w64 (lost + 1)) (w64 (n + 1)) w_4 < m lost n w_1)))))))))))) ∧ ((decide (n < ((keep.len : Nat) : Int))) = false → ((J (w64 (lost + 1)) (w64 (n + 1)) w_4 ∧ (m (w64 (lost + 1)) (w64 (n + 1)) w_4 < m lost n w_1))))))))))))))))))) ∧ ((decide (n < ((l.len : Nat) : Int))) = false → (∃ (ad5 : Addr), (d = some ad5 ∧ (∃ (l2 : Sl), (w_1.cell? (ad5.add 1) = some (.slice l2.a l2.len l2.cap) ∧ (F.slices_Clone_sl_string_string l2 w_1 (fun (l3 : Sl) (w_7 : World) => ∃ (ad6 : Addr), (d = some ad6 ∧ (Wr w_7 ad6 ∧ (let w_8 := w_7.setCell ad6 (.slice l3.a l3.len l3.cap); ∃ (ad7 : Addr), (d = some ad7 ∧ (Wr w_8 (ad7.add 2) ∧ (let w_9 := w_8.setCell (ad7.add 2) (.slice none 0 0); ∃ (ad8 : Addr), (d = some ad8 ∧ (Wr w_9 (ad8.add 4) ∧ (let w_10 := w_9.setCell (ad8.add 4) (.bool true); ∃ (ad9 : Addr), (d = some ad9 ∧ (Wr w_10 (ad9.add 5) ∧ (let w_11 := w_10.setCell (ad9.add 5) (.bool false); ∃ (ad10 : Addr), (d = some ad10 ∧ (Wr w_11 (ad10.add 7) ∧ (let w_12 := w_11.setCell (ad10.add 7) (.slice none 0 0); R lost w_12))))))))))))))))))))))))))))))))))
def H.disk_Disk_Crash : Hints := { loop := fun i => match i with | 5 => some [(5, .one (.int .i64)), (16, .one (.int .i64))] | _ => none, cut := fun _ => none }
theorem E.disk_Disk_Crash {d : Option Addr} {keep : Sl} {w : World} {R : Int → World → Prop} (h : V.disk_Disk_Crash d keep w R) : F.disk_Disk_Crash d keep w R := by
  have e : (vcFun cfg H.disk_Disk_Crash Tryz.f30 [.one (.int .i64)] [.val (.pointer d), .val (.slice keep.a keep.len keep.cap)] w R → RetT cfg.P [.one (.int .i64)] 30 ⟨SV.vs [.val (.pointer d), .val (.slice keep.a keep.len keep.cap)]⟩ w R) = (V.disk_Disk_Crash d keep w R → F.disk_Disk_Crash d keep w R) := by kernel_rfl
  exact Eq.mp e (vcFun_sound (C := cfg) cfg_ok (H := H.disk_Disk_Crash) (f := 30) (fn := Tryz.f30) Tryz.func30 (lys := [.one (.int .i64)]) (args := [.val (.pointer d), .val (.slice keep.a keep.len keep.cap)]) rfl) h

def V.wal_Wal_Read (w' : Option Addr) (at_ : Int) (w : World) (R : ByteArray → Int → World → Prop) : Prop :=
  ((w'.isNone = true → (R sNil 1 w)) ∧ (w'.isNone = false → (F.wal_Wal_Up w' w (fun (b : Bool) (w_ : World) => (((!b) = true → (R sNil 14 w_)) ∧ ((!b) = false → ((((decide (at_ < 0)) = true → (R sNil 15 w_)) ∧ ((decide (at_ < 0)) = false → (F.wal_Wal_Size w' w_ (fun (n : Int) (w_1 : World) => (((decide (at_ ≥ n)) = true → (R sNil 15 w_1)) ∧ ((decide (at_ ≥ n)) = false → (∃ (ad : Addr), (w' = some ad ∧ (∃ (p : Option Addr), (w_1.cell? ad = some (.pointer p) ∧ (F.disk_Disk_Read p (w64 ((111 : Int) + at_)) w_1 (fun (s : ByteArray) (n1 : Int) (w_2 : World) => R s n1 w_2)))))))))))))))))))
def H.wal_Wal_Read : Hints := { loop := fun _ => none, cut := fun _ => none }
theorem E.wal_Wal_Read {w' : Option Addr} {at_ : Int} {w : World} {R : ByteArray → Int → World → Prop} (h : V.wal_Wal_Read w' at_ w R) : F.wal_Wal_Read w' at_ w R := by
  have e : (vcFun cfg H.wal_Wal_Read Tryz.f31 [.one .str, .one (.int .i64)] [.val (.pointer w'), .val (.int .i64 at_)] w R → RetT cfg.P [.one .str, .one (.int .i64)] 31 ⟨SV.vs [.val (.pointer w'), .val (.int .i64 at_)]⟩ w R) = (V.wal_Wal_Read w' at_ w R → F.wal_Wal_Read w' at_ w R) := by kernel_rfl
  exact Eq.mp e (vcFun_sound (C := cfg) cfg_ok (H := H.wal_Wal_Read) (f := 31) (fn := Tryz.f31) Tryz.func31 (lys := [.one .str, .one (.int .i64)]) (args := [.val (.pointer w'), .val (.int .i64 at_)]) rfl) h

def V.wal_Wal_Commit (w' : Option Addr) (l : Sl) (w : World) (R : Int → World → Prop) : Prop :=
  ((w'.isNone = true → (R 1 w)) ∧ (w'.isNone = false → (F.wal_Wal_Up w' w (fun (b : Bool) (w_ : World) => (((!b) = true → (R 14 w_)) ∧ ((!b) = false → (F.wal_Wal_last w' l w_ (fun (m : Option Nat) (n : Int) (w_1 : World) => ∃ (K : Bool → World → Prop), (((((n != 0) = true → (K true w_1)) ∧ ((n != 0) = false → (RunT Pg (Builtin.len_ #[T.y_map_int_string] T.y_int #[.map m]) [.one (.int .i64)] w_1 (fun (n1 : Int) (w_2 : World) => K (n1 == 0) w_2))))) ∧ (∀ (b1 : Bool) (w_3 : World), K b1 w_3 → (((b1 = true → (R n w_3)) ∧ (b1 = false → (F.maps_Keys_map_int_string_int_string m w_3 (fun (v : Value) (w_4 : World) => F.slices_Sorted_int v w_4 (fun (l1 : Sl) (w_5 : World) => ∃ (J : Sl → Sl → Int → World → Prop) (m1 : Sl → Sl → Int → World → Nat), (J ⟨none, 0, 0⟩ ⟨none, 0, 0⟩ 0 w_5 ∧ (∀ (logged : Sl) (home : Sl) (n2 : Int) (w_6 : World), J logged home n2 w_6 → ((((decide (n2 < ((l1.len : Nat) : Int))) = true → (∃ (ad : Addr), (l1.a = some ad ∧ ((0 : Int) ≤ n2 ∧ (n2 < ((l1.len : Nat) : Int) ∧ (∃ (n3 : Int), (w_6.cell? (ad.add (n2.toNat * 1)) = some (.int .i64 n3) ∧ (RunT Pg (Instr.lookup T.y_map_int_string (.map m) (.int .i64 n3) false) [.one .str] w_6 (fun (s : ByteArray) (w_7 : World) => let w_8 := w_7.alloc (.cells #[.int .i64 (w64 ((1 : Int) + n2)), .string s] T.y_api_Write); RunT Pg (Builtin.append_ #[T.y_sl_api_Write, T.y_sl_api_Write] T.y_sl_api_Write #[.slice logged.a logged.len logged.cap, .slice (some (blk w_7.heap.size)) 1 1]) [.one .slice] w_8 (fun (l2 : Sl) (w_9 : World) => RunT Pg (Instr.lookup T.y_map_int_string (.map m) (.int .i64 n3) false) [.one .str] w_9 (fun (s1 : ByteArray) (w_10 : World) => let w_11 := w_10.alloc (.cells #[.int .i64 (w64 ((111 : Int) + n3)), .string s1] T.y_api_Write); RunT Pg (Builtin.append_ #[T.y_sl_api_Write, T.y_sl_api_Write] T.y_sl_api_Write #[.slice home.a home.len home.cap, .slice (some (blk w_10.heap.size)) 1 1]) [.one .slice] w_11 (fun (l3 : Sl) (w_12 : World) => (J l2 l3 (w64 (n2 + 1)) w_12 ∧ (m1 l2 l3 (w64 (n2 + 1)) w_12 < m1 logged home n2 w_6)))))))))))))) ∧ ((decide (n2 < ((l1.len : Nat) : Int))) = false → (∃ (K1 : Int → World → Prop), ((F.wal_Wal_put w' logged w_6 (fun (n4 : Int) (w_13 : World) => (((n4 == 0) = true → (∃ (ad1 : Addr), (w' = some ad1 ∧ (∃ (n5 : Int), (w_13.cell? (ad1.add 1) = some (.int .i64 n5) ∧ (∃ (b2 : Bool), (w_13.cell? ((ad1.add 1).add 1) = some (.bool b2) ∧ (∃ (l4 : Sl), (w_13.cell? ((ad1.add 1).add 2) = some (.slice l4.a l4.len l4.cap) ∧ (F.head_Next n5 b2 l4 l1 w_13 (fun (n6 : Int) (b3 : Bool) (l5 : Sl) (w_14 : World) => F.wal_Wal_putHead w' n6 b3 l5 w_14 (fun (n7 : Int) (w_15 : World) => K1 n7 w_15)))))))))))) ∧ ((n4 == 0) = false → (K1 n4 w_13))))) ∧ (∀ (e : Int) (w_16 : World), K1 e w_16 → (∃ (K2 : Int → World → Prop), (((((e == 0) = true → (F.wal_Wal_write w' home w_16 (fun (n8 : Int) (w_17 : World) => K2 n8 w_17))) ∧ ((e == 0) = false → (K2 e w_16)))) ∧ (∀ (e1 : Int) (w_18 : World), K2 e1 w_18 → ((((e1 != 0) = true → (∃ (ad2 : Addr), (w' = some ad2 ∧ (Wr w_18 (ad2.add 4) ∧ (let w_19 := w_18.setCell (ad2.add 4) (.bool true); R e1 w_19))))) ∧ ((e1 != 0) = false → (∃ (ad3 : Addr), (w' = some ad3 ∧ (∃ (n9 : Int), (w_18.cell? (ad3.add 5) = some (.int .i64 n9) ∧ (∃ (ad4 : Addr), (w' = some ad4 ∧ (Wr w_18 (ad4.add 5) ∧ (let w_20 := w_18.setCell (ad4.add 5) (.int .i64 (w64 (n9 + 1))); R 0 w_20))))))))))))))))))))))))))))))))))))))
def H.wal_Wal_Commit : Hints := { loop := fun i => match i with | 11 => some [(7, .one .slice), (8, .one .slice), (38, .one (.int .i64))] | _ => none, cut := fun i => match i with | 7 => some [(31, .one .bool)] | 19 => some [(6, .one (.int .i64))] | 21 => some [(6, .one (.int .i64))] | _ => none }
theorem E.wal_Wal_Commit {w' : Option Addr} {l : Sl} {w : World} {R : Int → World → Prop} (h : V.wal_Wal_Commit w' l w R) : F.wal_Wal_Commit w' l w R := by
  have e : (vcFun cfg H.wal_Wal_Commit Tryz.f32 [.one (.int .i64)] [.val (.pointer w'), .val (.slice l.a l.len l.cap)] w R → RetT cfg.P [.one (.int .i64)] 32 ⟨SV.vs [.val (.pointer w'), .val (.slice l.a l.len l.cap)]⟩ w R) = (V.wal_Wal_Commit w' l w R → F.wal_Wal_Commit w' l w R) := by kernel_rfl
  exact Eq.mp e (vcFun_sound (C := cfg) cfg_ok (H := H.wal_Wal_Commit) (f := 32) (fn := Tryz.f32) Tryz.func32 (lys := [.one (.int .i64)]) (args := [.val (.pointer w'), .val (.slice l.a l.len l.cap)]) rfl) h

def V.wal_Wal_Size (w' : Option Addr) (w : World) (R : Int → World → Prop) : Prop :=
  ((w'.isNone = true → (R 0 w)) ∧ (w'.isNone = false → (∃ (ad : Addr), (w' = some ad ∧ (∃ (p : Option Addr), (w.cell? ad = some (.pointer p) ∧ (F.disk_Disk_Size p w (fun (n : Int) (w_ : World) => R (w64 (n - 111)) w_))))))))
def H.wal_Wal_Size : Hints := { loop := fun _ => none, cut := fun _ => none }
theorem E.wal_Wal_Size {w' : Option Addr} {w : World} {R : Int → World → Prop} (h : V.wal_Wal_Size w' w R) : F.wal_Wal_Size w' w R := by
  have e : (vcFun cfg H.wal_Wal_Size Tryz.f33 [.one (.int .i64)] [.val (.pointer w')] w R → RetT cfg.P [.one (.int .i64)] 33 ⟨SV.vs [.val (.pointer w')]⟩ w R) = (V.wal_Wal_Size w' w R → F.wal_Wal_Size w' w R) := by kernel_rfl
  exact Eq.mp e (vcFun_sound (C := cfg) cfg_ok (H := H.wal_Wal_Size) (f := 33) (fn := Tryz.f33) Tryz.func33 (lys := [.one (.int .i64)]) (args := [.val (.pointer w')]) rfl) h

def V.wal_Wal_Seq (w' : Option Addr) (w : World) (R : Int → World → Prop) : Prop :=
  ((w'.isNone = true → (R 0 w)) ∧ (w'.isNone = false → (∃ (ad : Addr), (w' = some ad ∧ (∃ (n : Int), (w.cell? (ad.add 1) = some (.int .i64 n) ∧ (R n w)))))))
def H.wal_Wal_Seq : Hints := { loop := fun _ => none, cut := fun _ => none }
theorem E.wal_Wal_Seq {w' : Option Addr} {w : World} {R : Int → World → Prop} (h : V.wal_Wal_Seq w' w R) : F.wal_Wal_Seq w' w R := by
  have e : (vcFun cfg H.wal_Wal_Seq Tryz.f34 [.one (.int .i64)] [.val (.pointer w')] w R → RetT cfg.P [.one (.int .i64)] 34 ⟨SV.vs [.val (.pointer w')]⟩ w R) = (V.wal_Wal_Seq w' w R → F.wal_Wal_Seq w' w R) := by kernel_rfl
  exact Eq.mp e (vcFun_sound (C := cfg) cfg_ok (H := H.wal_Wal_Seq) (f := 34) (fn := Tryz.f34) Tryz.func34 (lys := [.one (.int .i64)]) (args := [.val (.pointer w')]) rfl) h

def V.wal_Wal_Commits (w' : Option Addr) (w : World) (R : Int → World → Prop) : Prop :=
  ((w'.isNone = true → (R 0 w)) ∧ (w'.isNone = false → (∃ (ad : Addr), (w' = some ad ∧ (∃ (n : Int), (w.cell? (ad.add 5) = some (.int .i64 n) ∧ (R n w)))))))
def H.wal_Wal_Commits : Hints := { loop := fun _ => none, cut := fun _ => none }
theorem E.wal_Wal_Commits {w' : Option Addr} {w : World} {R : Int → World → Prop} (h : V.wal_Wal_Commits w' w R) : F.wal_Wal_Commits w' w R := by
  have e : (vcFun cfg H.wal_Wal_Commits Tryz.f35 [.one (.int .i64)] [.val (.pointer w')] w R → RetT cfg.P [.one (.int .i64)] 35 ⟨SV.vs [.val (.pointer w')]⟩ w R) = (V.wal_Wal_Commits w' w R → F.wal_Wal_Commits w' w R) := by kernel_rfl
  exact Eq.mp e (vcFun_sound (C := cfg) cfg_ok (H := H.wal_Wal_Commits) (f := 35) (fn := Tryz.f35) Tryz.func35 (lys := [.one (.int .i64)]) (args := [.val (.pointer w')]) rfl) h

def V.wal_Wal_Up (w' : Option Addr) (w : World) (R : Bool → World → Prop) : Prop :=
  (((!w'.isNone) = true → (∃ (ad : Addr), (w' = some ad ∧ (∃ (b : Bool), (w.cell? (ad.add 4) = some (.bool b) ∧ (R (!b) w)))))) ∧ ((!w'.isNone) = false → (R false w)))
def H.wal_Wal_Up : Hints := { loop := fun _ => none, cut := fun _ => none }
theorem E.wal_Wal_Up {w' : Option Addr} {w : World} {R : Bool → World → Prop} (h : V.wal_Wal_Up w' w R) : F.wal_Wal_Up w' w R := by
  have e : (vcFun cfg H.wal_Wal_Up Tryz.f36 [.one .bool] [.val (.pointer w')] w R → RetT cfg.P [.one .bool] 36 ⟨SV.vs [.val (.pointer w')]⟩ w R) = (V.wal_Wal_Up w' w R → F.wal_Wal_Up w' w R) := by kernel_rfl
  exact Eq.mp e (vcFun_sound (C := cfg) cfg_ok (H := H.wal_Wal_Up) (f := 36) (fn := Tryz.f36) Tryz.func36 (lys := [.one .bool]) (args := [.val (.pointer w')]) rfl) h

def V.masonrylaw7_Fill (s : ByteArray) (w : World) (R : ByteArray → World → Prop) : Prop :=
  RunT Pg (Instr.makeSlice T.y_sl_uint8 (.int .i64 256) (.int .i64 256)) [.one .slice] w (fun (l : Sl) (w_ : World) => ∃ (J : Int → World → Prop) (m : Int → World → Nat), (J 0 w_ ∧ (∀ (n : Int) (w_1 : World), J n w_1 → ((((decide (n < ((l.len : Nat) : Int))) = true → ((((decide ((s.size : Int) > 0)) = true → (((s.size : Int) ≠ (0 : Int) ∧ ((0 : Int) ≤ (n.tmod (s.size : Int)) ∧ ((n.tmod (s.size : Int)) < (s.size : Int) ∧ (∃ (ad : Addr), (l.a = some ad ∧ ((0 : Int) ≤ n ∧ (n < ((l.len : Nat) : Int) ∧ (Wr w_1 (ad.add (n.toNat * 1)) ∧ (let w_2 := w_1.setCell (ad.add (n.toNat * 1)) (.int .u8 (sAt s (n.tmod (s.size : Int)))); (J (w64 (n + 1)) w_2 ∧ (m (w64 (n + 1)) w_2 < m n w_1))))))))))))) ∧ ((decide ((s.size : Int) > 0)) = false → ((J (w64 (n + 1)) w_1 ∧ (m (w64 (n + 1)) w_1 < m n w_1))))))) ∧ ((decide (n < ((l.len : Nat) : Int))) = false → (RunT Pg (convert T.y_sl_uint8 T.y_string (.slice l.a l.len l.cap)) [.one .str] w_1 (fun (s1 : ByteArray) (w_3 : World) => R s1 w_3))))))))
def H.masonrylaw7_Fill : Hints := { loop := fun i => match i with | 3 => some [(8, .one (.int .i64))] | _ => none, cut := fun _ => none }
theorem E.masonrylaw7_Fill {s : ByteArray} {w : World} {R : ByteArray → World → Prop} (h : V.masonrylaw7_Fill s w R) : F.masonrylaw7_Fill s w R := by
  have e : (vcFun cfg H.masonrylaw7_Fill Tryz.f39 [.one .str] [.val (.string s)] w R → RetT cfg.P [.one .str] 39 ⟨SV.vs [.val (.string s)]⟩ w R) = (V.masonrylaw7_Fill s w R → F.masonrylaw7_Fill s w R) := by kernel_rfl
  exact Eq.mp e (vcFun_sound (C := cfg) cfg_ok (H := H.masonrylaw7_Fill) (f := 39) (fn := Tryz.f39) Tryz.func39 (lys := [.one .str]) (args := [.val (.string s)]) rfl) h

def V.disk_Disk_On (d : Option Addr) (w : World) (R : Bool → World → Prop) : Prop :=
  (((!d.isNone) = true → (∃ (ad : Addr), (d = some ad ∧ (∃ (b : Bool), (w.cell? (ad.add 4) = some (.bool b) ∧ (R (!b) w)))))) ∧ ((!d.isNone) = false → (R false w)))
def H.disk_Disk_On : Hints := { loop := fun _ => none, cut := fun _ => none }
theorem E.disk_Disk_On {d : Option Addr} {w : World} {R : Bool → World → Prop} (h : V.disk_Disk_On d w R) : F.disk_Disk_On d w R := by
  have e : (vcFun cfg H.disk_Disk_On Tryz.f43 [.one .bool] [.val (.pointer d)] w R → RetT cfg.P [.one .bool] 43 ⟨SV.vs [.val (.pointer d)]⟩ w R) = (V.disk_Disk_On d w R → F.disk_Disk_On d w R) := by kernel_rfl
  exact Eq.mp e (vcFun_sound (C := cfg) cfg_ok (H := H.disk_Disk_On) (f := 43) (fn := Tryz.f43) Tryz.func43 (lys := [.one .bool]) (args := [.val (.pointer d)]) rfl) h

def V.masonrylaw9_again (d : Option Addr) (w : World) (R : Option Addr → World → Prop) : Prop :=
  ∃ (J : Int → World → Prop) (m : Int → World → Nat), (J 0 w ∧ (∀ (k : Int) (w_ : World), J k w_ → ((((decide (k < 3)) = true → (F.disk_Disk_Restore d w_ (fun (w_1 : World) => F.wal_Open d w_1 (fun (p : Option Addr) (n : Int) (w_2 : World) => (((n == 0) = true → ((((!p.isNone) = true → (R p w_2)) ∧ ((!p.isNone) = false → ((((n != 14) = true → (R none w_2)) ∧ ((n != 14) = false → (F.disk_Disk_On d w_2 (fun (b : Bool) (w_3 : World) => ((b = true → (R none w_3)) ∧ (b = false → ((J (w64 (k + 1)) w_3 ∧ (m (w64 (k + 1)) w_3 < m k w_)))))))))))))) ∧ ((n == 0) = false → ((((n != 14) = true → (R none w_2)) ∧ ((n != 14) = false → (F.disk_Disk_On d w_2 (fun (b1 : Bool) (w_4 : World) => ((b1 = true → (R none w_4)) ∧ (b1 = false → ((J (w64 (k + 1)) w_4 ∧ (m (w64 (k + 1)) w_4 < m k w_)))))))))))))))) ∧ ((decide (k < 3)) = false → (R none w_))))))
def H.masonrylaw9_again : Hints := { loop := fun i => match i with | 2 => some [(3, .one (.int .i64))] | _ => none, cut := fun _ => none }
theorem E.masonrylaw9_again {d : Option Addr} {w : World} {R : Option Addr → World → Prop} (h : V.masonrylaw9_again d w R) : F.masonrylaw9_again d w R := by
  have e : (vcFun cfg H.masonrylaw9_again Tryz.f44 [.one .ptr] [.val (.pointer d)] w R → RetT cfg.P [.one .ptr] 44 ⟨SV.vs [.val (.pointer d)]⟩ w R) = (V.masonrylaw9_again d w R → F.masonrylaw9_again d w R) := by kernel_rfl
  exact Eq.mp e (vcFun_sound (C := cfg) cfg_ok (H := H.masonrylaw9_again) (f := 44) (fn := Tryz.f44) Tryz.func44 (lys := [.one .ptr]) (args := [.val (.pointer d)]) rfl) h

def V.masonrylaw9_is (w' : Option Addr) (home : Sl) (w : World) (R : Bool → World → Prop) : Prop :=
  ∃ (J : Int → World → Prop) (m : Int → World → Nat), (J 0 w ∧ (∀ (i : Int) (w_ : World), J i w_ → ((((decide (i < ((home.len : Nat) : Int))) = true → (F.wal_Wal_Read w' i w_ (fun (s : ByteArray) (n : Int) (w_1 : World) => (((n != 0) = true → (R false w_1)) ∧ ((n != 0) = false → (∃ (ad : Addr), (home.a = some ad ∧ ((0 : Int) ≤ i ∧ (i < ((home.len : Nat) : Int) ∧ (∃ (s1 : ByteArray), (w_1.cell? (ad.add (i.toNat * 1)) = some (.string s1) ∧ (((!sEq s s1) = true → (R false w_1)) ∧ ((!sEq s s1) = false → ((J (w64 (i + 1)) w_1 ∧ (m (w64 (i + 1)) w_1 < m i w_)))))))))))))))) ∧ ((decide (i < ((home.len : Nat) : Int))) = false → (F.wal_Wal_Size w' w_ (fun (n1 : Int) (w_2 : World) => R (n1 == ((home.len : Nat) : Int)) w_2)))))))
def H.masonrylaw9_is : Hints := { loop := fun i => match i with | 2 => some [(5, .one (.int .i64))] | _ => none, cut := fun _ => none }
theorem E.masonrylaw9_is {w' : Option Addr} {home : Sl} {w : World} {R : Bool → World → Prop} (h : V.masonrylaw9_is w' home w R) : F.masonrylaw9_is w' home w R := by
  have e : (vcFun cfg H.masonrylaw9_is Tryz.f45 [.one .bool] [.val (.pointer w'), .val (.slice home.a home.len home.cap)] w R → RetT cfg.P [.one .bool] 45 ⟨SV.vs [.val (.pointer w'), .val (.slice home.a home.len home.cap)]⟩ w R) = (V.masonrylaw9_is w' home w R → F.masonrylaw9_is w' home w R) := by kernel_rfl
  exact Eq.mp e (vcFun_sound (C := cfg) cfg_ok (H := H.masonrylaw9_is) (f := 45) (fn := Tryz.f45) Tryz.func45 (lys := [.one .bool]) (args := [.val (.pointer w'), .val (.slice home.a home.len home.cap)]) rfl) h

def V.disk_Disk_Arm (d : Option Addr) (n : Int) (keep : Sl) (w : World) (R : World → Prop) : Prop :=
  (((!d.isNone) = true → (F.slices_Clone_sl_int_int keep w (fun (l : Sl) (w_ : World) => ∃ (ad : Addr), (d = some ad ∧ (Wr w_ (ad.add 5) ∧ (let w_1 := w_.setCell (ad.add 5) (.bool (decide (n ≥ 0))); ∃ (ad1 : Addr), (d = some ad1 ∧ (Wr w_1 (ad1.add 6) ∧ (let w_2 := w_1.setCell (ad1.add 6) (.int .i64 n); ∃ (ad2 : Addr), (d = some ad2 ∧ (Wr w_2 (ad2.add 7) ∧ (let w_3 := w_2.setCell (ad2.add 7) (.slice l.a l.len l.cap); R w_3)))))))))))) ∧ ((!d.isNone) = false → (R w)))
def H.disk_Disk_Arm : Hints := { loop := fun _ => none, cut := fun _ => none }
theorem E.disk_Disk_Arm {d : Option Addr} {n : Int} {keep : Sl} {w : World} {R : World → Prop} (h : V.disk_Disk_Arm d n keep w R) : F.disk_Disk_Arm d n keep w R := by
  have e : (vcFun cfg H.disk_Disk_Arm Tryz.f46 [] [.val (.pointer d), .val (.int .i64 n), .val (.slice keep.a keep.len keep.cap)] w R → RetT cfg.P [] 46 ⟨SV.vs [.val (.pointer d), .val (.int .i64 n), .val (.slice keep.a keep.len keep.cap)]⟩ w R) = (V.disk_Disk_Arm d n keep w R → F.disk_Disk_Arm d n keep w R) := by kernel_rfl
  exact Eq.mp e (vcFun_sound (C := cfg) cfg_ok (H := H.disk_Disk_Arm) (f := 46) (fn := Tryz.f46) Tryz.func46 (lys := []) (args := [.val (.pointer d), .val (.int .i64 n), .val (.slice keep.a keep.len keep.cap)]) rfl) h

def V.masonrylaw9_many (n : Int) (i : Int) (w : World) (R : Sl → World → Prop) : Prop :=
  ∃ (J : Sl → Int → World → Prop) (m : Sl → Int → World → Nat), (J ⟨none, 0, 0⟩ (w64 (n - 1)) w ∧ (∀ (out : Sl) (k : Int) (w_ : World), J out k w_ → ((((decide (k ≥ 0)) = true → (F.masonrylaw9_round i w_ (fun (s : ByteArray) (w_1 : World) => let w_2 := w_1.alloc (.cells #[.int .i64 k, .string s] T.y_api_Write); RunT Pg (Builtin.append_ #[T.y_sl_api_Write, T.y_sl_api_Write] T.y_sl_api_Write #[.slice out.a out.len out.cap, .slice (some (blk w_1.heap.size)) 1 1]) [.one .slice] w_2 (fun (l : Sl) (w_3 : World) => (J l (w64 (k - 1)) w_3 ∧ (m l (w64 (k - 1)) w_3 < m out k w_)))))) ∧ ((decide (k ≥ 0)) = false → (R out w_))))))
def H.masonrylaw9_many : Hints := { loop := fun i => match i with | 3 => some [(5, .one .slice), (6, .one (.int .i64))] | _ => none, cut := fun _ => none }
theorem E.masonrylaw9_many {n : Int} {i : Int} {w : World} {R : Sl → World → Prop} (h : V.masonrylaw9_many n i w R) : F.masonrylaw9_many n i w R := by
  have e : (vcFun cfg H.masonrylaw9_many Tryz.f47 [.one .slice] [.val (.int .i64 n), .val (.int .i64 i)] w R → RetT cfg.P [.one .slice] 47 ⟨SV.vs [.val (.int .i64 n), .val (.int .i64 i)]⟩ w R) = (V.masonrylaw9_many n i w R → F.masonrylaw9_many n i w R) := by kernel_rfl
  exact Eq.mp e (vcFun_sound (C := cfg) cfg_ok (H := H.masonrylaw9_many) (f := 47) (fn := Tryz.f47) Tryz.func47 (lys := [.one .slice]) (args := [.val (.int .i64 n), .val (.int .i64 i)]) rfl) h

def V.masonrylaw9_round (i : Int) (w : World) (R : ByteArray → World → Prop) : Prop :=
  let w_ := w.alloc (.cells #[.int .u8 (wr .u8 ((w64 ((97 : Int) + i))))] T.y_uint8); RunT Pg (convert T.y_sl_uint8 T.y_string (.slice (some (blk w.heap.size)) 1 1)) [.one .str] w_ (fun (s : ByteArray) (w_1 : World) => F.masonrylaw7_Fill s w_1 (fun (s1 : ByteArray) (w_2 : World) => R s1 w_2))
def H.masonrylaw9_round : Hints := { loop := fun _ => none, cut := fun _ => none }
theorem E.masonrylaw9_round {i : Int} {w : World} {R : ByteArray → World → Prop} (h : V.masonrylaw9_round i w R) : F.masonrylaw9_round i w R := by
  have e : (vcFun cfg H.masonrylaw9_round Tryz.f48 [.one .str] [.val (.int .i64 i)] w R → RetT cfg.P [.one .str] 48 ⟨SV.vs [.val (.int .i64 i)]⟩ w R) = (V.masonrylaw9_round i w R → F.masonrylaw9_round i w R) := by kernel_rfl
  exact Eq.mp e (vcFun_sound (C := cfg) cfg_ok (H := H.masonrylaw9_round) (f := 48) (fn := Tryz.f48) Tryz.func48 (lys := [.one .str]) (args := [.val (.int .i64 i)]) rfl) h

def V.disk_Disk_Writes (d : Option Addr) (w : World) (R : Int → World → Prop) : Prop :=
  ((d.isNone = true → (R 0 w)) ∧ (d.isNone = false → (∃ (ad : Addr), (d = some ad ∧ (∃ (n : Int), (w.cell? (ad.add 3) = some (.int .i64 n) ∧ (R n w)))))))
def H.disk_Disk_Writes : Hints := { loop := fun _ => none, cut := fun _ => none }
theorem E.disk_Disk_Writes {d : Option Addr} {w : World} {R : Int → World → Prop} (h : V.disk_Disk_Writes d w R) : F.disk_Disk_Writes d w R := by
  have e : (vcFun cfg H.disk_Disk_Writes Tryz.f49 [.one (.int .i64)] [.val (.pointer d)] w R → RetT cfg.P [.one (.int .i64)] 49 ⟨SV.vs [.val (.pointer d)]⟩ w R) = (V.disk_Disk_Writes d w R → F.disk_Disk_Writes d w R) := by kernel_rfl
  exact Eq.mp e (vcFun_sound (C := cfg) cfg_ok (H := H.disk_Disk_Writes) (f := 49) (fn := Tryz.f49) Tryz.func49 (lys := [.one (.int .i64)]) (args := [.val (.pointer d)]) rfl) h

def V.disk_Disk_Dirty (d : Option Addr) (w : World) (R : Int → World → Prop) : Prop :=
  ((d.isNone = true → (R 0 w)) ∧ (d.isNone = false → (∃ (ad : Addr), (d = some ad ∧ (∃ (l : Sl), (w.cell? (ad.add 2) = some (.slice l.a l.len l.cap) ∧ (R ((l.len : Nat) : Int) w)))))))
def H.disk_Disk_Dirty : Hints := { loop := fun _ => none, cut := fun _ => none }
theorem E.disk_Disk_Dirty {d : Option Addr} {w : World} {R : Int → World → Prop} (h : V.disk_Disk_Dirty d w R) : F.disk_Disk_Dirty d w R := by
  have e : (vcFun cfg H.disk_Disk_Dirty Tryz.f50 [.one (.int .i64)] [.val (.pointer d)] w R → RetT cfg.P [.one (.int .i64)] 50 ⟨SV.vs [.val (.pointer d)]⟩ w R) = (V.disk_Disk_Dirty d w R → F.disk_Disk_Dirty d w R) := by kernel_rfl
  exact Eq.mp e (vcFun_sound (C := cfg) cfg_ok (H := H.disk_Disk_Dirty) (f := 50) (fn := Tryz.f50) Tryz.func50 (lys := [.one (.int .i64)]) (args := [.val (.pointer d)]) rfl) h

def V.masonryref1_Low (v : Int) (n : Int) (w : World) (R : ByteArray → World → Prop) : Prop :=
  ∃ (J : Int → Sl → Int → World → Prop) (m : Int → Sl → Int → World → Nat), (J v ⟨none, 0, 0⟩ 0 w ∧ (∀ (v1 : Int) (b : Sl) (i : Int) (w_ : World), J v1 b i w_ → ((((decide (i < n)) = true → (let w_1 := w_.alloc (.cells #[.int .u8 (wr .u8 (v1))] T.y_uint8); RunT Pg (Builtin.append_ #[T.y_sl_uint8, T.y_sl_uint8] T.y_sl_uint8 #[.slice b.a b.len b.cap, .slice (some (blk w_.heap.size)) 1 1]) [.one .slice] w_1 (fun (l : Sl) (w_2 : World) => (256 ≠ (0 : Int) ∧ (J (wr .u64 (v1.tdiv 256)) l (w64 (i + 1)) w_2 ∧ (m (wr .u64 (v1.tdiv 256)) l (w64 (i + 1)) w_2 < m v1 b i w_)))))) ∧ ((decide (i < n)) = false → (RunT Pg (convert T.y_sl_uint8 T.y_string (.slice b.a b.len b.cap)) [.one .str] w_ (fun (s : ByteArray) (w_3 : World) => R s w_3)))))))
def H.masonryref1_Low : Hints := { loop := fun i => match i with | 3 => some [(0, .one (.int .u64)), (5, .one .slice), (6, .one (.int .i64))] | _ => none, cut := fun _ => none }
theorem E.masonryref1_Low {v : Int} {n : Int} {w : World} {R : ByteArray → World → Prop} (h : V.masonryref1_Low v n w R) : F.masonryref1_Low v n w R := by
  have e : (vcFun cfg H.masonryref1_Low Tryz.f69 [.one .str] [.val (.int .u64 v), .val (.int .i64 n)] w R → RetT cfg.P [.one .str] 69 ⟨SV.vs [.val (.int .u64 v), .val (.int .i64 n)]⟩ w R) = (V.masonryref1_Low v n w R → F.masonryref1_Low v n w R) := by kernel_rfl
  exact Eq.mp e (vcFun_sound (C := cfg) cfg_ok (H := H.masonryref1_Low) (f := 69) (fn := Tryz.f69) Tryz.func69 (lys := [.one .str]) (args := [.val (.int .u64 v), .val (.int .i64 n)]) rfl) h

def V.bits_Out_Byte (o : Option Addr) (l : Sl) (w : World) (R : Option Addr → World → Prop) : Prop :=
  F.bits_Out_lay o 1 l w (fun (p : Option Addr) (w_ : World) => R p w_)
def H.bits_Out_Byte : Hints := { loop := fun _ => none, cut := fun _ => none }
theorem E.bits_Out_Byte {o : Option Addr} {l : Sl} {w : World} {R : Option Addr → World → Prop} (h : V.bits_Out_Byte o l w R) : F.bits_Out_Byte o l w R := by
  have e : (vcFun cfg H.bits_Out_Byte Tryz.f72 [.one .ptr] [.val (.pointer o), .val (.slice l.a l.len l.cap)] w R → RetT cfg.P [.one .ptr] 72 ⟨SV.vs [.val (.pointer o), .val (.slice l.a l.len l.cap)]⟩ w R) = (V.bits_Out_Byte o l w R → F.bits_Out_Byte o l w R) := by kernel_rfl
  exact Eq.mp e (vcFun_sound (C := cfg) cfg_ok (H := H.bits_Out_Byte) (f := 72) (fn := Tryz.f72) Tryz.func72 (lys := [.one .ptr]) (args := [.val (.pointer o), .val (.slice l.a l.len l.cap)]) rfl) h

def V.bits_Out_Long (o : Option Addr) (l : Sl) (w : World) (R : Option Addr → World → Prop) : Prop :=
  F.bits_Out_lay o 8 l w (fun (p : Option Addr) (w_ : World) => R p w_)
def H.bits_Out_Long : Hints := { loop := fun _ => none, cut := fun _ => none }
theorem E.bits_Out_Long {o : Option Addr} {l : Sl} {w : World} {R : Option Addr → World → Prop} (h : V.bits_Out_Long o l w R) : F.bits_Out_Long o l w R := by
  have e : (vcFun cfg H.bits_Out_Long Tryz.f73 [.one .ptr] [.val (.pointer o), .val (.slice l.a l.len l.cap)] w R → RetT cfg.P [.one .ptr] 73 ⟨SV.vs [.val (.pointer o), .val (.slice l.a l.len l.cap)]⟩ w R) = (V.bits_Out_Long o l w R → F.bits_Out_Long o l w R) := by kernel_rfl
  exact Eq.mp e (vcFun_sound (C := cfg) cfg_ok (H := H.bits_Out_Long) (f := 73) (fn := Tryz.f73) Tryz.func73 (lys := [.one .ptr]) (args := [.val (.pointer o), .val (.slice l.a l.len l.cap)]) rfl) h

def V.bits_Out_Half (o : Option Addr) (l : Sl) (w : World) (R : Option Addr → World → Prop) : Prop :=
  F.bits_Out_lay o 2 l w (fun (p : Option Addr) (w_ : World) => R p w_)
def H.bits_Out_Half : Hints := { loop := fun _ => none, cut := fun _ => none }
theorem E.bits_Out_Half {o : Option Addr} {l : Sl} {w : World} {R : Option Addr → World → Prop} (h : V.bits_Out_Half o l w R) : F.bits_Out_Half o l w R := by
  have e : (vcFun cfg H.bits_Out_Half Tryz.f74 [.one .ptr] [.val (.pointer o), .val (.slice l.a l.len l.cap)] w R → RetT cfg.P [.one .ptr] 74 ⟨SV.vs [.val (.pointer o), .val (.slice l.a l.len l.cap)]⟩ w R) = (V.bits_Out_Half o l w R → F.bits_Out_Half o l w R) := by kernel_rfl
  exact Eq.mp e (vcFun_sound (C := cfg) cfg_ok (H := H.bits_Out_Half) (f := 74) (fn := Tryz.f74) Tryz.func74 (lys := [.one .ptr]) (args := [.val (.pointer o), .val (.slice l.a l.len l.cap)]) rfl) h

def V.bits_Out_End (o : Option Addr) (w : World) (R : ByteArray → Int → World → Prop) : Prop :=
  ((o.isNone = true → (R sNil 1 w)) ∧ (o.isNone = false → (∃ (ad : Addr), (o = some ad ∧ (∃ (n : Int), (w.cell? (ad.add 1) = some (.int .i64 n) ∧ (((n != 0) = true → (let w_ := w.drew; ∃ (ad1 : Addr), (o = some ad1 ∧ (∃ (n1 : Int), (w_.cell? (ad1.add 1) = some (.int .i64 n1) ∧ (R sNil n1 w_)))))) ∧ ((n != 0) = false → (∃ (ad2 : Addr), (o = some ad2 ∧ (∃ (l : Sl), (w.cell? ad2 = some (.slice l.a l.len l.cap) ∧ (RunT Pg (convert T.y_sl_uint8 T.y_string (.slice l.a l.len l.cap)) [.one .str] w (fun (s : ByteArray) (w_1 : World) => R s 0 w_1))))))))))))))
def H.bits_Out_End : Hints := { loop := fun _ => none, cut := fun _ => none }
theorem E.bits_Out_End {o : Option Addr} {w : World} {R : ByteArray → Int → World → Prop} (h : V.bits_Out_End o w R) : F.bits_Out_End o w R := by
  have e : (vcFun cfg H.bits_Out_End Tryz.f75 [.one .str, .one (.int .i64)] [.val (.pointer o)] w R → RetT cfg.P [.one .str, .one (.int .i64)] 75 ⟨SV.vs [.val (.pointer o)]⟩ w R) = (V.bits_Out_End o w R → F.bits_Out_End o w R) := by kernel_rfl
  exact Eq.mp e (vcFun_sound (C := cfg) cfg_ok (H := H.bits_Out_End) (f := 75) (fn := Tryz.f75) Tryz.func75 (lys := [.one .str, .one (.int .i64)]) (args := [.val (.pointer o)]) rfl) h

def V.crc_Seal (n : Int) (l : Sl) (w : World) (R : ByteArray → Int → World → Prop) : Prop :=
  (((decide (n < 4)) = true → (R sNil 1 w)) ∧ ((decide (n < 4)) = false → ((((decide (n > 65536)) = true → (R sNil 1 w)) ∧ ((decide (n > 65536)) = false → (let w_ := w.alloc (.cells #[.slice none 0 0, .int .i64 0] T.y_bits_Out); F.bits_Out_Raw (some (blk w.heap.size)) l w_ (fun (p : Option Addr) (w_1 : World) => F.bits_Out_Pad p (w64 (n - 4)) w_1 (fun (p1 : Option Addr) (w_2 : World) => F.bits_Out_End p1 w_2 (fun (s : ByteArray) (n1 : Int) (w_3 : World) => (((n1 != 0) = true → (R sNil n1 w_3)) ∧ ((n1 != 0) = false → (let w_4 := w_3.alloc (.cells #[.slice none 0 0, .int .i64 0] T.y_bits_Out); let w_5 := w_4.alloc (.cells #[.string s] T.y_string); F.bits_Out_Raw (some (blk w_3.heap.size)) ⟨some (blk w_4.heap.size), 1, 1⟩ w_5 (fun (p2 : Option Addr) (w_6 : World) => let w_7 := w_6.alloc (.cells #[.string s] T.y_string); F.crc_Of ⟨some (blk w_6.heap.size), 1, 1⟩ w_7 (fun (n2 : Int) (w_8 : World) => let w_9 := w_8.alloc (.cells #[.int .i64 (w64 (n2))] T.y_int); F.bits_Out_Word p2 ⟨some (blk w_8.heap.size), 1, 1⟩ w_9 (fun (p3 : Option Addr) (w_10 : World) => F.bits_Out_End p3 w_10 (fun (s1 : ByteArray) (n3 : Int) (w_11 : World) => R s1 n3 w_11))))))))))))))))
def H.crc_Seal : Hints := { loop := fun _ => none, cut := fun _ => none }
theorem E.crc_Seal {n : Int} {l : Sl} {w : World} {R : ByteArray → Int → World → Prop} (h : V.crc_Seal n l w R) : F.crc_Seal n l w R := by
  have e : (vcFun cfg H.crc_Seal Tryz.f76 [.one .str, .one (.int .i64)] [.val (.int .i64 n), .val (.slice l.a l.len l.cap)] w R → RetT cfg.P [.one .str, .one (.int .i64)] 76 ⟨SV.vs [.val (.int .i64 n), .val (.slice l.a l.len l.cap)]⟩ w R) = (V.crc_Seal n l w R → F.crc_Seal n l w R) := by kernel_rfl
  exact Eq.mp e (vcFun_sound (C := cfg) cfg_ok (H := H.crc_Seal) (f := 76) (fn := Tryz.f76) Tryz.func76 (lys := [.one .str, .one (.int .i64)]) (args := [.val (.int .i64 n), .val (.slice l.a l.len l.cap)]) rfl) h

def V.crc_Open (b : ByteArray) (w : World) (R : ByteArray → Int → World → Prop) : Prop :=
  (((decide ((w64 ((b.size : Int) - 4)) < 0)) = true → (R sNil 5 w)) ∧ ((decide ((w64 ((b.size : Int) - 4)) < 0)) = false → (let w_ := w.drew; ((0 : Int) ≤ (w64 ((b.size : Int) - 4)) ∧ ((w64 ((b.size : Int) - 4)) ≤ (b.size : Int) ∧ ((0 : Int) ≤ (w64 ((b.size : Int) - 4)) ∧ ((w64 ((b.size : Int) - 4)) ≤ (b.size : Int) ∧ (∀ (w_1 : World), Below w_.heap.size w_ w_1 → (F.bits_On (b.extract (w64 ((b.size : Int) - 4)).toNat b.size) w_1 (fun (p : Option Addr) (w_2 : World) => (Keep [(w_.heap.size, w_1.heap.size)] [] w_1 w_2 ∧ (∀ (w_3 : World), Below w_2.heap.size w_2 w_3 → (F.bits_In_Word p w_3 (fun (n : Int) (w_4 : World) => (Keep [(w_2.heap.size, w_3.heap.size), (w_.heap.size, w_1.heap.size)] [] w_3 w_4 ∧ (∀ (w_5 : World) (g : Nat), Below w_4.heap.size w_4 w_5 → inIv [(w_4.heap.size, w_5.heap.size), (w_2.heap.size, w_3.heap.size), (w_.heap.size, w_1.heap.size)] g → g ∉ ([] : List Nat) → w_5.heap[g]? = some (.cells ⟨[.string (b.extract 0 (w64 ((b.size : Int) - 4)).toNat)]⟩ T.y_string (0, 0)) → (∀ (w_6 : World), Below w_5.heap.size w_5 w_6 → (F.crc_Of ⟨some (blk g), 1, 1⟩ w_6 (fun (n1 : Int) (w_7 : World) => (Keep [(w_5.heap.size, w_6.heap.size), (w_4.heap.size, w_5.heap.size), (w_2.heap.size, w_3.heap.size), (w_.heap.size, w_1.heap.size)] [g] w_6 w_7 ∧ (∀ (w_8 : World), Below w_7.heap.size w_7 w_8 → ((((n != (w64 (n1))) = true → (R sNil 7 w_8)) ∧ ((n != (w64 (n1))) = false → (((0 : Int) ≤ (w64 ((b.size : Int) - 4)) ∧ ((w64 ((b.size : Int) - 4)) ≤ (b.size : Int) ∧ (R (b.extract 0 (w64 ((b.size : Int) - 4)).toNat) 0 w_8))))))))))))))))))))))))))))
def H.crc_Open : Hints := { loop := fun _ => none, cut := fun _ => none }
theorem E.crc_Open {b : ByteArray} {w : World} {R : ByteArray → Int → World → Prop} (h : V.crc_Open b w R) : F.crc_Open b w R := by
  have e : (vcFun cfg H.crc_Open Tryz.f78 [.one .str, .one (.int .i64)] [.val (.string b)] w R → RetT cfg.P [.one .str, .one (.int .i64)] 78 ⟨SV.vs [.val (.string b)]⟩ w R) = (V.crc_Open b w R → F.crc_Open b w R) := by kernel_rfl
  exact Eq.mp e (vcFun_sound (C := cfg) cfg_ok (H := H.crc_Open) (f := 78) (fn := Tryz.f78) Tryz.func78 (lys := [.one .str, .one (.int .i64)]) (args := [.val (.string b)]) rfl) h

def V.bits_On (b : ByteArray) (w : World) (R : Option Addr → World → Prop) : Prop :=
  let w_ := w.alloc (.cells #[.string b, .int .i64 0] T.y_bits_In); R (some (blk w.heap.size)) w_
def H.bits_On : Hints := { loop := fun _ => none, cut := fun _ => none }
theorem E.bits_On {b : ByteArray} {w : World} {R : Option Addr → World → Prop} (h : V.bits_On b w R) : F.bits_On b w R := by
  have e : (vcFun cfg H.bits_On Tryz.f79 [.one .ptr] [.val (.string b)] w R → RetT cfg.P [.one .ptr] 79 ⟨SV.vs [.val (.string b)]⟩ w R) = (V.bits_On b w R → F.bits_On b w R) := by kernel_rfl
  exact Eq.mp e (vcFun_sound (C := cfg) cfg_ok (H := H.bits_On) (f := 79) (fn := Tryz.f79) Tryz.func79 (lys := [.one .ptr]) (args := [.val (.string b)]) rfl) h

def V.bits_In_Byte (i : Option Addr) (w : World) (R : Int → World → Prop) : Prop :=
  F.bits_In_low i 1 w (fun (n : Int) (w_ : World) => R n w_)
def H.bits_In_Byte : Hints := { loop := fun _ => none, cut := fun _ => none }
theorem E.bits_In_Byte {i : Option Addr} {w : World} {R : Int → World → Prop} (h : V.bits_In_Byte i w R) : F.bits_In_Byte i w R := by
  have e : (vcFun cfg H.bits_In_Byte Tryz.f80 [.one (.int .i64)] [.val (.pointer i)] w R → RetT cfg.P [.one (.int .i64)] 80 ⟨SV.vs [.val (.pointer i)]⟩ w R) = (V.bits_In_Byte i w R → F.bits_In_Byte i w R) := by kernel_rfl
  exact Eq.mp e (vcFun_sound (C := cfg) cfg_ok (H := H.bits_In_Byte) (f := 80) (fn := Tryz.f80) Tryz.func80 (lys := [.one (.int .i64)]) (args := [.val (.pointer i)]) rfl) h

def V.bits_In_Long (i : Option Addr) (w : World) (R : Int → World → Prop) : Prop :=
  F.bits_In_low i 8 w (fun (n : Int) (w_ : World) => R n w_)
def H.bits_In_Long : Hints := { loop := fun _ => none, cut := fun _ => none }
theorem E.bits_In_Long {i : Option Addr} {w : World} {R : Int → World → Prop} (h : V.bits_In_Long i w R) : F.bits_In_Long i w R := by
  have e : (vcFun cfg H.bits_In_Long Tryz.f81 [.one (.int .i64)] [.val (.pointer i)] w R → RetT cfg.P [.one (.int .i64)] 81 ⟨SV.vs [.val (.pointer i)]⟩ w R) = (V.bits_In_Long i w R → F.bits_In_Long i w R) := by kernel_rfl
  exact Eq.mp e (vcFun_sound (C := cfg) cfg_ok (H := H.bits_In_Long) (f := 81) (fn := Tryz.f81) Tryz.func81 (lys := [.one (.int .i64)]) (args := [.val (.pointer i)]) rfl) h

def V.bits_In_Half (i : Option Addr) (w : World) (R : Int → World → Prop) : Prop :=
  F.bits_In_low i 2 w (fun (n : Int) (w_ : World) => R n w_)
def H.bits_In_Half : Hints := { loop := fun _ => none, cut := fun _ => none }
theorem E.bits_In_Half {i : Option Addr} {w : World} {R : Int → World → Prop} (h : V.bits_In_Half i w R) : F.bits_In_Half i w R := by
  have e : (vcFun cfg H.bits_In_Half Tryz.f82 [.one (.int .i64)] [.val (.pointer i)] w R → RetT cfg.P [.one (.int .i64)] 82 ⟨SV.vs [.val (.pointer i)]⟩ w R) = (V.bits_In_Half i w R → F.bits_In_Half i w R) := by kernel_rfl
  exact Eq.mp e (vcFun_sound (C := cfg) cfg_ok (H := H.bits_In_Half) (f := 82) (fn := Tryz.f82) Tryz.func82 (lys := [.one (.int .i64)]) (args := [.val (.pointer i)]) rfl) h

def V.masonryref1_Num (s : ByteArray) (w : World) (R : Int → World → Prop) : Prop :=
  ∃ (J : Int → Int → World → Prop) (m : Int → Int → World → Nat), (J 0 (w64 ((s.size : Int) - 1)) w ∧ (∀ (v : Int) (i : Int) (w_ : World), J v i w_ → ((((decide (i ≥ 0)) = true → (((0 : Int) ≤ i ∧ (i < (s.size : Int) ∧ (J (wr .u64 ((wr .u64 (v * 256)) + (wr .u64 ((sAt s i))))) (w64 (i - 1)) w_ ∧ (m (wr .u64 ((wr .u64 (v * 256)) + (wr .u64 ((sAt s i))))) (w64 (i - 1)) w_ < m v i w_)))))) ∧ ((decide (i ≥ 0)) = false → (R v w_))))))
def H.masonryref1_Num : Hints := { loop := fun i => match i with | 3 => some [(3, .one (.int .u64)), (4, .one (.int .i64))] | _ => none, cut := fun _ => none }
theorem E.masonryref1_Num {s : ByteArray} {w : World} {R : Int → World → Prop} (h : V.masonryref1_Num s w R) : F.masonryref1_Num s w R := by
  have e : (vcFun cfg H.masonryref1_Num Tryz.f84 [.one (.int .u64)] [.val (.string s)] w R → RetT cfg.P [.one (.int .u64)] 84 ⟨SV.vs [.val (.string s)]⟩ w R) = (V.masonryref1_Num s w R → F.masonryref1_Num s w R) := by kernel_rfl
  exact Eq.mp e (vcFun_sound (C := cfg) cfg_ok (H := H.masonryref1_Num) (f := 84) (fn := Tryz.f84) Tryz.func84 (lys := [.one (.int .u64)]) (args := [.val (.string s)]) rfl) h

end Go.Proofs.YtepclihkniaieaaGreatDoor
