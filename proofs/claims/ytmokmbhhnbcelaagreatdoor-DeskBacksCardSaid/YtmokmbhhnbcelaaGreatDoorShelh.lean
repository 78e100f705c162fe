/- Words of what lies apart: rows of bytes; a new disk, and a desk on it. -/
import Derived.Test.YtmokmbhhnbcelaaGreatDoorSr
import Derived.Shelf.SlGeneric
import Derived.Shelf.SlMaps.DeleteFunc
import Derived.Ground.SlmdProg
import Derived.Test.YtmokmbhhnbcelaaGreatDoorProg
set_option linter.unusedVariables false
namespace Go.Proofs.YtmokmbhhnbcelaaGreatDoor
open Go Go.Vc Go.RowKit Go.Lib

def EB : Enc UInt8 := ⟨fun x => [.int .u8 x.toNat], 1, fun _ => rfl, fun _ u hu => by simp at hu; subst hu; rfl⟩
theorem EB_all (bs : List UInt8) : EB.all bs = bv bs := by simp [Enc.all, EB, bv]; induction bs <;> simp_all
theorem elt_byte : Elt Pg T.y_sl_uint8 T.y_uint8 1 1 := ⟨und_bytes, by obtain ⟨i, hi, hz, h1, h2⟩ := info_byte; exact ⟨i, _, hi, hz, h1, h2, rfl⟩, by decide⟩

section
variable {w w' : World} {X : List As} {l : Sl}
theorem St.strB {t : TypeId} (ht : t = T.y_uint8) {bs : List UInt8} (h : St w (Row EB t l bs :: X)) {R : ByteArray → World → Prop} (hR : R (tx bs) w) :
    RunT Pg (convert T.y_sl_uint8 T.y_string (.slice l.a l.len l.cap)) [.one .str] w R := by
  subst ht
  have hO := h.own
  rw [EB_all] at hO
  exact runT_bytes_str und_bytes und_byte und_str hO hR
/-- a disk of which nothing is armed -/
def DskS (g : Nat) (d : Ds) : As where
  p := fun w S => Dsk w g S d
  lt := fun h k hk => h.lt hk
  keep := fun h hf => h.keep hf (fun j hj hn => hn hj)
theorem newdisk_st (h : St w X) {n : Nat} (h1 : 140 ≤ n) (h2 : n ≤ 2000) {R : Option Addr → Int → World → Prop} (hR : ∀ g w', St w' (DskS g (newD n) :: X) → R (some (blk g)) 0 w') : F.disk_New (n : Int) w R :=
  New_disk h1 h2 fun g L S w' hD hfp hB => hR g w' (h.add (A := DskS g (newD n)) (S := fpD g L S ⟨none, 0, 0⟩) ⟨L, S, _, hD, rfl⟩ (fr_below hB) hfp)
def fmt0 (n : Nat) : DkV := fmtD (newD n) 0 (n - 111)
theorem format_st {g : Nat} {d : Ds} {seq : Int} (h : St w (DskS g d :: X)) (hq : Quiet d seq) (hs : 0 ≤ seq ∧ seq ≤ 1000) (hm : d.many ≤ 1000) {R : Option Addr → Int → World → Prop}
    (hR : ∀ k w', St w' (DeskS k g 1001 (fmtD d seq (d.l.length - 111)) :: X) → R (some (blk k)) 0 w') : F.desk_Format (some (blk g)) w R := by
  obtain ⟨S, hd, hlt, hX⟩ := h.out
  refine Format_desk hd hq ⟨hs.1, by omega⟩ (by omega) fun k u r b fpd' fpr w' hA hn hG => hR k w' (hX (A' := DeskS k g 1001 _) (S' := fpK k u b fpd' fpr) ⟨fmt_ok hq hs hm, u, r, b, fpd', fpr, hA, rfl⟩ hG.fr fun j hj => ?_)
  rcases hj with hj | hj | hj | hj | hj
  · exact .inr (hn j (.inl hj))
  · exact .inr (hn j (.inr (.inl hj)))
  · exact .inr (hn j (.inr (.inr (.inl hj))))
  · exact hG.new j hj
  · exact .inr (hn j (.inr (.inr (.inr hj))))
theorem format0_st {g n : Nat} (h : St w (DskS g (newD n) :: X)) (h1 : 140 ≤ n) (h2 : n ≤ 2000) {R : Option Addr → Int → World → Prop}
    (hR : ∀ k w', St w' (DeskS k g 1001 (fmt0 n) :: X) → R (some (blk k)) 0 w') : F.desk_Format (some (blk g)) w R := by
  refine format_st h (Quiet.new h1 h2) (by decide) (by show (0 : Int) ≤ 1000; decide) fun k w' h' => hR k w' ?_
  have e : (newD n).l.length = n := List.length_replicate
  rw [e] at h'; exact h'
theorem DeskS.wal {k g c : Nat} {D : DkV} (h : St w (DeskS k g c D :: X)) : ∃ u, w.cell? (blk k) = some (.pointer (some (blk u))) := by
  obtain ⟨_, u, r, b, fpd, fpr, Tf, hA, _⟩ := DeskS.open h
  exact ⟨u, hA.c0⟩
theorem All_st {r : Nat} {bs : List Bool} (h : St w (RoomS r bs :: X)) (hn : bs.length ≤ 1000000) {R : Sl → World → Prop}
    (hR : ∀ l w', St w' (Row EI T.y_int l (allL bs bs.length) :: RoomS r bs :: X) → R l w') : F.room_Room_All (some (blk r)) w R := by
  obtain ⟨S, hr⟩ := h.hd
  exact All_room hr hn fun l w' hO hbk hB => hR l w' (St.rowOf h (fr_below hB) (by rw [EI_all]; exact hO) hbk)
theorem Dirty_st {k g c : Nat} {D : DkV} (h : St w (DeskS k g c D :: X)) (hc : c ≤ 100000) {R : Sl → World → Prop}
    (hR : ∀ l w', St w' (Row EI T.y_int l (keysW (written D)) :: DeskS k g c D :: X) → R l w') : F.desk_Desk_Dirty (some (blk k)) w R := by
  obtain ⟨hk, u, r, b, fpd, fpr, Tf, hA, _⟩ := DeskS.open h
  exact Dirty_desk hA hk hc fun l w' hO hbk hB => hR l w' (St.rowOf h (fr_below hB) (by rw [EI_all]; exact hO) hbk)
end
end Go.Proofs.YtmokmbhhnbcelaaGreatDoor

/-
  DERIVED: THE SHELF's CONTRACTS AT THIS DUMP, IN PLAIN WORDS (tools/lay-plain.mjs out of 'YtmokmbhhnbcelaaGreatDoorShelfX.lean', which tools/lay-shelf.mjs wrote): THE SAME DECLARATIONS UNDER THE SAME NAMES: 'import', 'namespace', 'open', 'def', 'theorem' AND NOTHING ELSE: no command of the shelf's: FOR A HAND-IN. Each laying: the table of numbers ('.._ren') and one theorem, a field a fact of the dump's own or the kernel's comparison; each contract: ONE APPLICATION.
-/
namespace Go.Proofs
open Go.Shelf
def Tryz.mdelf_ren : Go.Shelf.Ren := ⟨fun | 5 => 132 | n => n, fun | 23 => 68 | 26 => 3 | 24 => 9 | 27 => 195 | 0 => 0 | 4 => 4 | n => n, fun | n => n⟩
theorem Tryz.mdelf : Go.Proofs.SlLaysDf.n5 Tryz.prog Tryz.mdelf_ren := {
  mixed := by kernel_rfl
  f5 := ⟨Tryz.f132.name, by decide, Tryz.func132.trans (congrArg some (by kernel_rfl))⟩
  t0 := Tryz.underlying0
  a0 := Tryz.isAgg0
  z0 := Tryz.sizeOf0
  v0 := Tryz.zeroValue0
  t4 := Tryz.underlying4
  a4 := Tryz.isAgg4
  z4 := Tryz.sizeOf4
  v4 := Tryz.zeroValue4
  t23 := Tryz.underlying68
  a23 := Tryz.isAgg68
  z23 := Tryz.sizeOf68
  v23 := Tryz.zeroValue68
  a24 := Tryz.isAgg9
  z24 := Tryz.sizeOf9
  a26 := Tryz.isAgg3
  z26 := Tryz.sizeOf3
  t27 := Tryz.underlying195
  a27 := Tryz.isAgg195
  z27 := Tryz.sizeOf195
  v27 := Tryz.zeroValue195 }
end Go.Proofs
