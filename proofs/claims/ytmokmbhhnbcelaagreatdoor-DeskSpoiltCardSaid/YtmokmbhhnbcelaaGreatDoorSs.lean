/- desk: its calls in words of what lies apart; Mark, Back, Set, Drop, Room. -/
import Derived.Test.YtmokmbhhnbcelaaGreatDoorSq
import Derived.Test.YtmokmbhhnbcelaaGreatDoorShelg
import Derived.LaidEqlPtr
set_option linter.unusedVariables false
namespace Go.Proofs.YtmokmbhhnbcelaaGreatDoor
open Go Go.Vc Go.RowKit Go.Lib Go.Maps Go.Proofs

/-- a desk -/
def DeskS (k g c : Nat) (D : DkV) : As where
  p := fun w S => DOk c D ∧ ∃ u r b fpd fpr, DeskA w k u g r b fpd fpr D ∧ S = fpK k u b fpd fpr
  lt := fun ⟨_, u, r, b, fpd, fpr, h, e⟩ k hk => by subst e; exact h.lt hk
  keep := fun ⟨hk, u, r, b, fpd, fpr, h, e⟩ hf => ⟨hk, u, r, b, fpd, fpr, h.keep hf (fun j hj hn => hn (by subst e; exact hj)), e⟩
/-- a Room -/
def RoomS (r : Nat) (bs : List Bool) : As where
  p := fun w S => Go.Proofs.YtmokmbhhnbcelaaGreatDoor.Room w r S bs
  lt := fun h k hk => h.lt hk
  keep := fun h hf => h.keep hf (fun j hj hn => hn hj)

section
variable {w w' : World} {X : List As} {k g c : Nat} {D : DkV}
theorem DeskS.open (h : St w (DeskS k g c D :: X)) : DOk c D ∧ ∃ u r b fpd fpr Tf, DeskA w k u g r b fpd fpr D ∧ StP X w Tf ∧ (∀ j, fpK k u b fpd fpr j → ¬ Tf j) ∧
    ∀ {c' D' b' fpd' r' fpr' w'}, DOk c' D' → DeskA w' k u g r' b' fpd' fpr' D' → Fr (fpK k u b fpd fpr) w w' → (∀ j, fpK k u b' fpd' fpr' j → fpK k u b fpd fpr j ∨ w.heap.size ≤ j) → St w' (DeskS k g c' D' :: X) := by
  obtain ⟨Tf, a, t, ⟨hk, u, r, b, fpd, fpr, hA, e⟩, hb, hd, hs⟩ := h
  subst e
  refine ⟨hk, u, r, b, fpd, fpr, t, hA, hb, hd, fun {c' D' b' fpd' r' fpr' w'} hk' hA' hf hn => ⟨fun j => fpK k u b' fpd' fpr' j ∨ t j, _, t, ⟨hk', u, r', b', fpd', fpr', hA', rfl⟩, hb.keep (hf.mono fun j _ hj ht => hd j hj ht), fun j hj ht => ?_, fun j => Iff.rfl⟩⟩
  rcases hn j hj with h | h
  · exact hd j h ht
  · have := hb.lt j ht; omega
theorem DeskS.ok (h : St w (DeskS k g c D :: X)) : DOk c D := (DeskS.open h).1
theorem DeskS.mono (h : St w (DeskS k g c D :: X)) {c' : Nat} (hc : c ≤ c') : St w (DeskS k g c' D :: X) := h.as fun _ ⟨hk, r⟩ => ⟨hk.mono hc, r⟩

/-- the sector at a place, as it would be -/
def getD (D : DkV) (a : Int) : Bs := if a ∈ keysW D.ws then lastW D.ws a else if 0 ≤ a ∧ a < (D.bs.length : Int) then homeAt D.d a.toNat else []
def getE (D : DkV) (a : Int) : Int := if a ∈ keysW D.ws then 0 else if 0 ≤ a ∧ a < (D.bs.length : Int) then 0 else 15
def newD' (D : DkV) (data : Bs) : DkV := { D with bs := D.bs.set (freeAt D.bs) true, ws := D.ws ++ [((freeAt D.bs : Int), data)] }
def setD (D : DkV) (a : Int) (data : Bs) : DkV := { D with ws := D.ws ++ [(a, data)] }
def backD (D M : DkV) : DkV := { D with bs := M.bs, ws := M.ws }

theorem Room_st (h : St w (DeskS k g c D :: X)) {R : Option Addr → World → Prop} (hR : ∀ r w', St w' (RoomS r D.bs :: DeskS k g c D :: X) → R (some (blk r)) w') : F.desk_Desk_Room (some (blk k)) w R := by
  apply E.desk_Desk_Room
  unfold V.desk_Desk_Room
  obtain ⟨hk, u, r, b, fpd, fpr, Tf, hD, _⟩ := DeskS.open h
  have hbl := hk.bsl
  refine ⟨fun h => by simp at h, fun _ => ⟨blk k, rfl, some (blk r), hD.c1, Copy_room hD.rm (by omega) fun r' fp' w' hr hn hB => hR r' w' (h.add (A := RoomS r' D.bs) hr (fr_below hB) hn)⟩⟩

theorem back_ok {c c' : Nat} {M : DkV} (hk : DOk c D) (hm : DOk c' M) (hl : M.bs.length = D.bs.length) : DOk (max c c') (backD D M) := by
  have h1 := hk.mono (Nat.le_max_left c c')
  have h2 := hm.mono (Nat.le_max_right c c')
  exact ⟨h1.q, by show M.bs.length + 111 = _; rw [hl]; exact h1.len, h2.u0, h2.u1, h2.ws, h2.wl, h1.seq, h1.com, h1.syn, h1.many⟩

/-- the desk takes over a Room and a map -/
theorem DeskS.swap {r' b' c' : Nat} {M : DkV} (h : St w (RoomS r' M.bs :: MapS b' M.ws :: DeskS k g c D :: X)) (hm : DOk c' M) (hl : M.bs.length = D.bs.length) :
    Wr w ((blk k).add 1) ∧ Wr (w.setCell ((blk k).add 1) (.pointer (some (blk r')))) ((blk k).add 2) ∧ St ((w.setCell ((blk k).add 1) (.pointer (some (blk r')))).setCell ((blk k).add 2) (.map (some b'))) (DeskS k g (max c c') (backD D M) :: X) := by
  obtain ⟨Tf, a, y, hr, ⟨e, z, ⟨hb, he⟩, ⟨q, x, ⟨hk, u, r, b, fpd, fpr, hA, hq⟩, hX, d1, s1⟩, d2, s2⟩, d3, s3⟩ := h
  subst hq
  subst he
  have S := hA.sep
  have nk1 : ¬ a k := fun hh => d3 k hh ((s2 k).2 (.inr ((s1 k).2 (.inl (.inl rfl)))))
  have nk2 : ¬ k = b' := fun hh => d2 k hh ((s1 k).2 (.inl (.inl rfl)))
  have o1 := hA.obj
  have o2 := blk_set o1 1 (.pointer (some (blk r')))
  have f1 := fr_set w k 1 (.pointer (some (blk r')))
  have w1 := blk_wr o1 (j := 1) (by simp)
  have w2 := blk_wr o2 (j := 2) (by simp)
  have o3 := blk_set o2 2 (.map (some b'))
  have f2 := f1.trans (fr_set _ k 2 (.map (some b'))) (fun _ _ h => h)
  refine ⟨w1, w2, ?_⟩
  refine ⟨fun j => fpK k u b' fpd a j ∨ x j, _, x, ⟨back_ok hk hm hl, u, r', b', fpd, a, ⟨o3, hA.wl.keep f2 (fun e => S.ku e.symm), hA.dk.keep f2 (fun j hj e => S.dk (by have : j = k := e; exact this ▸ hj)), hr.keep f2 (fun j hj e => nk1 (by have : j = k := e; exact this ▸ hj)), hb.keep f2 (fun e => nk2 e.symm)⟩, rfl⟩,
    hX.keep (f2.mono fun j _ hj hx => d1 j (.inl hj) hx), fun j hj hx => ?_, fun j => Iff.rfl⟩
  rcases hj with hj | hj | hj | hj | hj
  · exact d1 j (.inl hj) hx
  · exact d1 j (.inr (.inl hj)) hx
  · exact d2 j hj ((s1 j).2 (.inr hx))
  · exact d1 j (.inr (.inr (.inr (.inl hj)))) hx
  · exact d3 j hj ((s2 j).2 (.inr ((s1 j).2 (.inr hx))))

def dropD (D : DkV) (zs : List Int) : DkV := { D with bs := giveL D.bs zs, ws := D.ws.filter fun p => decide (p.1 ∉ zs) }

theorem giveL_keeps {bs : List Bool} {i : Nat} : ∀ {zs : List Int}, (∀ z ∈ zs, z ≠ (i : Int)) → (giveL bs zs).getD i false = bs.getD i false := by
  refine fun {zs} => snoc_ind (P := fun zs => (∀ z ∈ zs, z ≠ (i : Int)) → (giveL bs zs).getD i false = bs.getD i false) (fun _ => rfl) (fun l x ih h => ?_) zs
  have ih := ih fun z hz => h z (List.mem_append_left _ hz)
  have hx := h x (by simp)
  rw [giveL_app]
  split
  · rename_i hu
    simp only [usedB, Bool.and_eq_true, decide_eq_true_eq] at hu
    have : x.toNat ≠ i := by omega
    rw [← ih]
    simp only [List.getD_eq_getElem?_getD]
    rw [List.getElem?_set_ne this]
  · exact ih

theorem DOk.drop (hk : DOk c D) {zs : List Int} (h0 : ∀ z ∈ zs, z ≠ 0 ∧ z ≠ 1) : DOk c (dropD D zs) := by
  refine ⟨hk.q, by show (giveL _ _).length + 111 = _; rw [giveL_len]; exact hk.len, ?_, ?_, fun x hx => ?_, Nat.le_trans (List.length_filter_le _ _) hk.wl, hk.seq, hk.com, hk.syn, hk.many⟩
  · show (giveL D.bs zs).getD 0 false = true
    rw [giveL_keeps fun z hz => (h0 z hz).1]; exact hk.u0
  · show (giveL D.bs zs).getD 1 false = true
    rw [giveL_keeps fun z hz => (h0 z hz).2]; exact hk.u1
  · have h := hk.ws x (List.mem_filter.1 hx).1
    exact ⟨h.1, by show x.1 < ((giveL D.bs zs).length : Int); rw [giveL_len]; exact h.2.1, h.2.2⟩

end
end Go.Proofs.YtmokmbhhnbcelaaGreatDoor

/- Words of what lies apart: rows of bytes; a new disk, and a desk on it. -/
set_option linter.unusedVariables false
namespace Go.Proofs.YtmokmbhhnbcelaaGreatDoor
open Go Go.Vc Go.RowKit Go.Lib

section
variable {w w' : World} {X : List As} {l : Sl}
/-- a disk of which nothing is armed -/
def DskS (g : Nat) (d : Ds) : As where
  p := fun w S => Dsk w g S d
  lt := fun h k hk => h.lt hk
  keep := fun h hf => h.keep hf (fun j hj hn => hn hj)
theorem newdisk_st (h : St w X) {n : Nat} (h1 : 140 ≤ n) (h2 : n ≤ 2000) {R : Option Addr → Int → World → Prop} (hR : ∀ g w', St w' (DskS g (newD n) :: X) → R (some (blk g)) 0 w') : F.disk_New (n : Int) w R :=
  New_disk h1 h2 fun g L S w' hD hfp hB => hR g w' (h.add (A := DskS g (newD n)) (S := fpD g L S ⟨none, 0, 0⟩) ⟨L, S, _, hD, rfl⟩ (fr_below hB) hfp)
theorem DeskS.wal {k g c : Nat} {D : DkV} (h : St w (DeskS k g c D :: X)) : ∃ u, w.cell? (blk k) = some (.pointer (some (blk u))) := by
  obtain ⟨_, u, r, b, fpd, fpr, Tf, hA, _⟩ := DeskS.open h
  exact ⟨u, hA.c0⟩
theorem All_st {r : Nat} {bs : List Bool} (h : St w (RoomS r bs :: X)) (hn : bs.length ≤ 1000000) {R : Sl → World → Prop}
    (hR : ∀ l w', St w' (Row EI T.y_int l (allL bs bs.length) :: RoomS r bs :: X) → R l w') : F.room_Room_All (some (blk r)) w R := by
  obtain ⟨S, hr⟩ := h.hd
  exact All_room hr hn fun l w' hO hbk hB => hR l w' (St.rowOf h (fr_below hB) (by rw [EI_all]; exact hO) hbk)
theorem Dirty_st {k g c : Nat} {D : DkV} (h : St w (DeskS k g c D :: X)) (hc : c ≤ 100000) {R : Sl → World → Prop}
    (hR : ∀ l w', St w' (Row EI T.y_int l (keysW (written D)) :: DeskS k g c D :: X) → R l w') : F.desk_Desk_Dirty (some (blk k)) w R := by
  obtain ⟨hk, u, r, b, fpd, fpr, Tf, hA, _⟩ := DeskS.open h
  exact Dirty_desk hA hk hc fun l w' hO hbk hB => hR l w' (St.rowOf h (fr_below hB) (by rw [EI_all]; exact hO) hbk)
end
end Go.Proofs.YtmokmbhhnbcelaaGreatDoor
