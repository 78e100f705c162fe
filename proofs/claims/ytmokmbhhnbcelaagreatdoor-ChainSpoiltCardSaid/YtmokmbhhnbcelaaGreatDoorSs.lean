/- Words of what lies apart: rows of bytes; a new disk, and a desk on it. -/
import Derived.Test.YtmokmbhhnbcelaaGreatDoorSr
set_option linter.unusedVariables false
namespace Go.Proofs.YtmokmbhhnbcelaaGreatDoor
open Go Go.Vc Go.RowKit Go.Lib

def EB : Enc UInt8 := ⟨fun x => [.int .u8 x.toNat], 1, fun _ => rfl, fun _ u hu => by simp at hu; subst hu; rfl⟩
theorem EB_all (bs : List UInt8) : EB.all bs = bv bs := by simp [Enc.all, EB, bv]; induction bs <;> simp_all
theorem elt_byte : Elt Pg T.y_sl_uint8 T.y_uint8 1 1 := ⟨und_bytes, by obtain ⟨i, hi, hz, h1, h2⟩ := info_byte; exact ⟨i, _, hi, hz, h1, h2, rfl⟩, by decide⟩

section
variable {w w' : World} {X : List As} {l : Sl}
theorem St.makeB (h : St w X) {n : Nat} (hn : n ≤ 1000000) {R : Sl → World → Prop}
    (hR : ∀ l w', l.len = n → St w' (Row EB T.y_uint8 l (List.replicate n 0) :: X) → R l w') : RunT Pg (Instr.makeSlice T.y_sl_uint8 (.int .i64 (n : Int)) (.int .i64 (n : Int))) [.one .slice] w R := by
  obtain ⟨inf, hi, hz, hs1, hby⟩ := info_byte
  refine runT_make und_bytes hi hz hs1 (by rw [hby]; omega) (by simp only [maxLen]; omega) fun w1 hO hF hs => hR _ w1 rfl (St.rowOf h hF ?_ fun k hk => ?_)
  · have h2 := toList_madeCells_one (Value.int .u8 0) (n * 1)
    rw [show (Value.int IntKind.u8 0).cells = #[Value.int .u8 0] from rfl, h2] at hO
    have e : EB.all (List.replicate n 0) = List.replicate (n * 1) (Value.int .u8 0) := by rw [EB_all]; simp [bv]
    rw [e]; exact hO
  · obtain ⟨a, ha, rfl⟩ := hk
    injection ha with ha
    subst ha
    exact Nat.le_refl _
theorem St.strB {t : TypeId} (ht : t = T.y_uint8) {bs : List UInt8} (h : St w (Row EB t l bs :: X)) {R : ByteArray → World → Prop} (hR : R (tx bs) w) :
    RunT Pg (convert T.y_sl_uint8 T.y_string (.slice l.a l.len l.cap)) [.one .str] w R := by
  subst ht
  have hO := h.own
  rw [EB_all] at hO
  exact runT_bytes_str und_bytes und_byte und_str hO hR
theorem St.setB {t : TypeId} {bs : List UInt8} (h : St w (Row EB t l bs :: X)) {k : Nat} (hk : k < bs.length) (v : UInt8) {a : Addr} (ha : l.a = some a) :
    Wr w (a.add (k * 1)) ∧ St (w.setCell (a.add (k * 1)) (.int .u8 (v.toNat : Int))) (Row EB t l (bs.set k v) :: X) := by
  obtain ⟨S, ⟨hO, e⟩, hlt, hX⟩ := h.out
  subst e
  rw [EB_all] at hO
  obtain ⟨q1, q2, q3⟩ := Own.set1 (show Own w t 1 l (bv bs) from hO) (k := k) (by simpa [bv] using hk) (.int .u8 (v.toNat : Int)) ha
  rw [Nat.mul_one]
  refine ⟨q1, hX ⟨?_, rfl⟩ q3 (fun j hj => .inl hj)⟩
  rw [EB_all]
  have e : (bv bs).set k (.int .u8 (v.toNat : Int)) = bv (bs.set k v) := by simp [bv, List.map_set]
  rw [← e]; exact q2
/-- so many zero bytes, as a text -/
theorem zeros_st (h : St w X) {n : Nat} (hn : n ≤ 1000000) {K : ByteArray → World → Prop} (hK : ∀ w', St w' X → K (tx (List.replicate n 0)) w') :
    RunT Pg (Instr.makeSlice T.y_sl_uint8 (.int .i64 (n : Int)) (.int .i64 (n : Int))) [.one .slice] w fun l w1 => RunT Pg (convert T.y_sl_uint8 T.y_string (.slice l.a l.len l.cap)) [.one .str] w1 K :=
  St.makeB h hn fun l w1 _ h1 => St.strB rfl h1 (hK w1 h1.drop)

/-- a disk of which nothing is armed -/
def DskS (g : Nat) (d : Ds) : As where
  p := fun w S => Dsk w g S d
  lt := fun h k hk => h.lt hk
  keep := fun h hf => h.keep hf (fun j hj hn => hn hj)
theorem newdisk_st (h : St w X) {n : Nat} (h1 : 140 ≤ n) (h2 : n ≤ 2000) {R : Option Addr → Int → World → Prop} (hR : ∀ g w', St w' (DskS g (newD n) :: X) → R (some (blk g)) 0 w') : F.disk_New (n : Int) w R :=
  New_disk h1 h2 fun g L S w' hD hfp hB => hR g w' (h.add (A := DskS g (newD n)) (S := fpD g L S ⟨none, 0, 0⟩) ⟨L, S, _, hD, rfl⟩ (fr_below hB) hfp)
def fmt0 (n : Nat) : DkV := fmtD (newD n) 0 (n - 111)
theorem format_st {g : Nat} {d : Ds} {seq : Int} (h : St w (DskS g d :: X)) (hq : Quiet d seq) (hs : 0 ≤ seq ∧ seq ≤ 1000) (hm : d.many ≤ 1000) {R : Option Addr → Int → World → Prop}
    (hR : ∀ k w', St w' (DeskS k g 1001 (fmtD d seq (d.l.length - 111)) :: X) → R (some (blk k)) 0 w') : F.desk_Format (some (blk g)) w R := by
  obtain ⟨S, hd, hlt, hX⟩ := h.out
  refine Format_desk hd hq ⟨hs.1, by omega⟩ (by omega) fun k u r b fpd' fpr w' hA hn hG => hR k w' (hX (A' := DeskS k g 1001 _) (S' := fpK k u b fpd' fpr) ⟨fmt_ok hq hs hm, u, r, b, fpd', fpr, hA, rfl⟩ hG.fr fun j hj => ?_)
  rcases hj with hj | hj | hj | hj | hj
  · exact .inr (hn j (.inl hj))
  · exact .inr (hn j (.inr (.inl hj)))
  · exact .inr (hn j (.inr (.inr (.inl hj))))
  · exact hG.new j hj
  · exact .inr (hn j (.inr (.inr (.inr hj))))
theorem format0_st {g n : Nat} (h : St w (DskS g (newD n) :: X)) (h1 : 140 ≤ n) (h2 : n ≤ 2000) {R : Option Addr → Int → World → Prop}
    (hR : ∀ k w', St w' (DeskS k g 1001 (fmt0 n) :: X) → R (some (blk k)) 0 w') : F.desk_Format (some (blk g)) w R := by
  refine format_st h (Quiet.new h1 h2) (by decide) (by show (0 : Int) ≤ 1000; decide) fun k w' h' => hR k w' ?_
  have e : (newD n).l.length = n := List.length_replicate
  rw [e] at h'; exact h'
theorem DeskS.wal {k g c : Nat} {D : DkV} (h : St w (DeskS k g c D :: X)) : ∃ u, w.cell? (blk k) = some (.pointer (some (blk u))) := by
  obtain ⟨_, u, r, b, fpd, fpr, Tf, hA, _⟩ := DeskS.open h
  exact ⟨u, hA.c0⟩
theorem Free_st {r : Nat} {bs : List Bool} (h : St w (RoomS r bs :: X)) (hn : bs.length ≤ 1000000) {R : Int → World → Prop} (hR : ∀ w', St w' (RoomS r bs :: X) → R ((bs.length : Int) - ((allL bs bs.length).length : Int)) w') : F.room_Room_Free (some (blk r)) w R := by
  obtain ⟨S, hr⟩ := h.hd
  exact Free_room hr hn fun w' hB => hR w' (h.below hB)
theorem All_st {r : Nat} {bs : List Bool} (h : St w (RoomS r bs :: X)) (hn : bs.length ≤ 1000000) {R : Sl → World → Prop}
    (hR : ∀ l w', St w' (Row EI T.y_int l (allL bs bs.length) :: RoomS r bs :: X) → R l w') : F.room_Room_All (some (blk r)) w R := by
  obtain ⟨S, hr⟩ := h.hd
  exact All_room hr hn fun l w' hO hbk hB => hR l w' (St.rowOf h (fr_below hB) (by rw [EI_all]; exact hO) hbk)
theorem Dirty_st {k g c : Nat} {D : DkV} (h : St w (DeskS k g c D :: X)) (hc : c ≤ 100000) {R : Sl → World → Prop}
    (hR : ∀ l w', St w' (Row EI T.y_int l (keysW (written D)) :: DeskS k g c D :: X) → R l w') : F.desk_Desk_Dirty (some (blk k)) w R := by
  obtain ⟨hk, u, r, b, fpd, fpr, Tf, hA, _⟩ := DeskS.open h
  exact Dirty_desk hA hk hc fun l w' hO hbk hB => hR l w' (St.rowOf h (fr_below hB) (by rw [EI_all]; exact hO) hbk)
end
end Go.Proofs.YtmokmbhhnbcelaaGreatDoor
