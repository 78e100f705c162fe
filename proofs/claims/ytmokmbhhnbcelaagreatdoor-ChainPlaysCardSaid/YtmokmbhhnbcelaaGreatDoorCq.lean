/- Words of what lies apart: rows of bytes; a new disk, and a desk on it. -/
import Derived.Test.YtmokmbhhnbcelaaGreatDoorSr
import Derived.Test.YtmokmbhhnbcelaaGreatDoorCp
set_option linter.unusedVariables false
namespace Go.Proofs.YtmokmbhhnbcelaaGreatDoor
open Go Go.Vc Go.RowKit Go.Lib

def EB : Enc UInt8 := ⟨fun x => [.int .u8 x.toNat], 1, fun _ => rfl, fun _ u hu => by simp at hu; subst hu; rfl⟩
theorem EB_all (bs : List UInt8) : EB.all bs = bv bs := by simp [Enc.all, EB, bv]; induction bs <;> simp_all
section
variable {w w' : World} {X : List As} {l : Sl}
theorem St.makeB (h : St w X) {n : Nat} (hn : n ≤ 1000000) {R : Sl → World → Prop}
    (hR : ∀ l w', l.len = n → St w' (Row EB T.y_uint8 l (List.replicate n 0) :: X) → R l w') : RunT Pg (Instr.makeSlice T.y_sl_uint8 (.int .i64 (n : Int)) (.int .i64 (n : Int))) [.one .slice] w R := by
  obtain ⟨inf, hi, hz, hs1, hby⟩ := info_byte
  refine runT_make und_bytes hi hz hs1 (by rw [hby]; omega) (by simp only [maxLen]; omega) fun w1 hO hF hs => hR _ w1 rfl (St.rowOf h hF ?_ fun k hk => ?_)
  · have h2 := toList_madeCells_one (Value.int .u8 0) (n * 1)
    rw [show (Value.int IntKind.u8 0).cells = #[Value.int .u8 0] from rfl, h2] at hO
    have e : EB.all (List.replicate n 0) = List.replicate (n * 1) (Value.int .u8 0) := by rw [EB_all]; simp [bv]
    rw [e]; exact hO
  · obtain ⟨a, ha, rfl⟩ := hk
    injection ha with ha
    subst ha
    exact Nat.le_refl _
theorem St.strB {t : TypeId} (ht : t = T.y_uint8) {bs : List UInt8} (h : St w (Row EB t l bs :: X)) {R : ByteArray → World → Prop} (hR : R (tx bs) w) :
    RunT Pg (convert T.y_sl_uint8 T.y_string (.slice l.a l.len l.cap)) [.one .str] w R := by
  subst ht
  have hO := h.own
  rw [EB_all] at hO
  exact runT_bytes_str und_bytes und_byte und_str hO hR
/-- so many zero bytes, as a text -/
theorem zeros_st (h : St w X) {n : Nat} (hn : n ≤ 1000000) {K : ByteArray → World → Prop} (hK : ∀ w', St w' X → K (tx (List.replicate n 0)) w') :
    RunT Pg (Instr.makeSlice T.y_sl_uint8 (.int .i64 (n : Int)) (.int .i64 (n : Int))) [.one .slice] w fun l w1 => RunT Pg (convert T.y_sl_uint8 T.y_string (.slice l.a l.len l.cap)) [.one .str] w1 K :=
  St.makeB h hn fun l w1 _ h1 => St.strB rfl h1 (hK w1 h1.drop)

/-- a disk of which nothing is armed -/
def DskS (g : Nat) (d : Ds) : As where
  p := fun w S => Dsk w g S d
  lt := fun h k hk => h.lt hk
  keep := fun h hf => h.keep hf (fun j hj hn => hn hj)
theorem newdisk_st (h : St w X) {n : Nat} (h1 : 140 ≤ n) (h2 : n ≤ 2000) {R : Option Addr → Int → World → Prop} (hR : ∀ g w', St w' (DskS g (newD n) :: X) → R (some (blk g)) 0 w') : F.disk_New (n : Int) w R :=
  New_disk h1 h2 fun g L S w' hD hfp hB => hR g w' (h.add (A := DskS g (newD n)) (S := fpD g L S ⟨none, 0, 0⟩) ⟨L, S, _, hD, rfl⟩ (fr_below hB) hfp)
def fmt0 (n : Nat) : DkV := fmtD (newD n) 0 (n - 111)
theorem format_st {g : Nat} {d : Ds} {seq : Int} (h : St w (DskS g d :: X)) (hq : Quiet d seq) (hs : 0 ≤ seq ∧ seq ≤ 1000) (hm : d.many ≤ 1000) {R : Option Addr → Int → World → Prop}
    (hR : ∀ k w', St w' (DeskS k g 1001 (fmtD d seq (d.l.length - 111)) :: X) → R (some (blk k)) 0 w') : F.desk_Format (some (blk g)) w R := by
  obtain ⟨S, hd, hlt, hX⟩ := h.out
  refine Format_desk hd hq ⟨hs.1, by omega⟩ (by omega) fun k u r b fpd' fpr w' hA hn hG => hR k w' (hX (A' := DeskS k g 1001 _) (S' := fpK k u b fpd' fpr) ⟨fmt_ok hq hs hm, u, r, b, fpd', fpr, hA, rfl⟩ hG.fr fun j hj => ?_)
  rcases hj with hj | hj | hj | hj | hj
  · exact .inr (hn j (.inl hj))
  · exact .inr (hn j (.inr (.inl hj)))
  · exact .inr (hn j (.inr (.inr (.inl hj))))
  · exact hG.new j hj
  · exact .inr (hn j (.inr (.inr (.inr hj))))
theorem format0_st {g n : Nat} (h : St w (DskS g (newD n) :: X)) (h1 : 140 ≤ n) (h2 : n ≤ 2000) {R : Option Addr → Int → World → Prop}
    (hR : ∀ k w', St w' (DeskS k g 1001 (fmt0 n) :: X) → R (some (blk k)) 0 w') : F.desk_Format (some (blk g)) w R := by
  refine format_st h (Quiet.new h1 h2) (by decide) (by show (0 : Int) ≤ 1000; decide) fun k w' h' => hR k w' ?_
  have e : (newD n).l.length = n := List.length_replicate
  rw [e] at h'; exact h'
theorem DeskS.wal {k g c : Nat} {D : DkV} (h : St w (DeskS k g c D :: X)) : ∃ u, w.cell? (blk k) = some (.pointer (some (blk u))) := by
  obtain ⟨_, u, r, b, fpd, fpr, Tf, hA, _⟩ := DeskS.open h
  exact ⟨u, hA.c0⟩
theorem Free_st {r : Nat} {bs : List Bool} (h : St w (RoomS r bs :: X)) (hn : bs.length ≤ 1000000) {R : Int → World → Prop} (hR : ∀ w', St w' (RoomS r bs :: X) → R ((bs.length : Int) - ((allL bs bs.length).length : Int)) w') : F.room_Room_Free (some (blk r)) w R := by
  obtain ⟨S, hr⟩ := h.hd
  exact Free_room hr hn fun w' hB => hR w' (h.below hB)
theorem All_st {r : Nat} {bs : List Bool} (h : St w (RoomS r bs :: X)) (hn : bs.length ≤ 1000000) {R : Sl → World → Prop}
    (hR : ∀ l w', St w' (Row EI T.y_int l (allL bs bs.length) :: RoomS r bs :: X) → R l w') : F.room_Room_All (some (blk r)) w R := by
  obtain ⟨S, hr⟩ := h.hd
  exact All_room hr hn fun l w' hO hbk hB => hR l w' (St.rowOf h (fr_below hB) (by rw [EI_all]; exact hO) hbk)
theorem Dirty_st {k g c : Nat} {D : DkV} (h : St w (DeskS k g c D :: X)) (hc : c ≤ 100000) {R : Sl → World → Prop}
    (hR : ∀ l w', St w' (Row EI T.y_int l (keysW (written D)) :: DeskS k g c D :: X) → R l w') : F.desk_Desk_Dirty (some (blk k)) w R := by
  obtain ⟨hk, u, r, b, fpd, fpr, Tf, hA, _⟩ := DeskS.open h
  exact Dirty_desk hA hk hc fun l w' hO hbk hB => hR l w' (St.rowOf h (fr_below hB) (by rw [EI_all]; exact hO) hbk)
end
end Go.Proofs.YtmokmbhhnbcelaaGreatDoor

/- chain: calls on a chain that is there; masonrylaw12.Fresh, alive. -/
set_option linter.unusedVariables false
namespace Go.Proofs.YtmokmbhhnbcelaaGreatDoor
open Go Go.Vc Go.RowKit Go.Lib

theorem freeN_bs0 {m : Nat} (hm : 2 ≤ m) : freeN (bs0 m) = m - 2 := by
  have e : bs0 m = takeN (List.replicate m false) 2 := by
    have f0 : freeAt (List.replicate m false) = 0 := freeAt_eq (fun i hi => by omega) (by rw [List.getElem?_replicate, if_pos (by omega)])
    have f1 : freeAt ((List.replicate m false).set 0 true) = 1 := freeAt_eq (fun i hi => by
      have : i = 0 := by omega
      subst this
      rw [List.getElem?_set_self (by simp; omega)]) (by rw [List.getElem?_set_ne (by omega), List.getElem?_replicate, if_pos (by omega)])
    show _ = (takeN (List.replicate m false) 1).set (freeAt (takeN (List.replicate m false) 1)) true
    have t1 : takeN (List.replicate m false) 1 = (List.replicate m false).set 0 true := by
      show (List.replicate m false).set (freeAt (List.replicate m false)) true = _
      rw [f0]
    rw [t1, f1]
    rfl
  have h0 : freeN (List.replicate m false) = m := by simp [freeN, List.countP_replicate]
  have := freeN_take (bs := List.replicate m false) (j := 2) (by omega)
  rw [e]; omega
theorem fmt0_bs {n : Nat} : (fmt0 n).bs = bs0 (n - 111) := by
  unfold fmt0 fmtD
  exact Eq.refl (bs0 (n - 111))

theorem put_has {D : DkV} {gen tag : Int} {b : Bs} (hf : needN b.length ≤ freeN D.bs) : HasC (putS D gen tag b (needN b.length) (needN b.length)).1 (linkP D gen tag b (needN b.length)) (placeP D (needN b.length)) (needN b.length) :=
  fun i hi => (putS_get (needN b.length) (Nat.le_refl _) hf).1 i (by omega) hi
theorem put_else {D : DkV} {gen tag : Int} {b : Bs} (hf : needN b.length ≤ freeN D.bs) {a : Int} (ha : ∀ i, i < needN b.length → placeP D (needN b.length) i ≠ a) : getE (putS D gen tag b (needN b.length) (needN b.length)).1 a = getE D a ∧ getD (putS D gen tag b (needN b.length) (needN b.length)).1 a = getD D a :=
  (putS_get (needN b.length) (Nat.le_refl _) hf).2 a fun i _ hi => ha i hi
theorem dataOf_put {D : DkV} {gen tag : Int} {b : Bs} (hb : b.length ≤ 9440) {n : Nat} : dataOf ((List.range (needN b.length)).map (linkP D gen tag b n)) = b := by
  have : (List.range (needN b.length)).map (fun i => (linkP D gen tag b n i).data) = (List.range (needN b.length)).map (partB b) := rfl
  unfold dataOf
  rw [List.map_map]
  show ((List.range (needN b.length)).map (fun i => (linkP D gen tag b n i).data)).flatten = b
  rw [this, partB_whole hb]
/-- the places that Put takes are in use behind it, and were free -/
theorem place_used {D : DkV} {n i : Nat} (hi : i < n) (hn : n ≤ freeN D.bs) : usedB (takeN D.bs n) (placeP D n i) = true ∧ D.bs.getD (placeP D n i).toNat false = false := by
  unfold placeP
  rw [if_pos hi]
  have h1 := take_lt (bs := D.bs) (j := n - 1 - i) (by omega)
  have h2 := (take_get D.bs n _ h1).2 (.inr ⟨n - 1 - i, by omega, rfl⟩)
  refine ⟨?_, ?_⟩
  · unfold usedB
    rw [takeN_len, decide_eq_true (by omega), decide_eq_true (by omega), Int.toNat_natCast, h2]; rfl
  · rw [Int.toNat_natCast]; exact take_was (by omega)

section
variable {w : World} {X : List As} {k g c : Nat} {D : DkV} {n : Nat} {L : Nat → Lk} {P : Nat → Int}
theorem Get_chn (h : St w (DeskS k g c D :: X)) (hc : Chn n L P) (hg : HasC D L P n) (hP : 0 ≤ P 0 ∧ P 0 < 65536) {R : Int → Int → Int → ByteArray → Int → World → Prop}
    (hR : ∀ w', St w' (DeskS k g c D :: X) → R (L 0).gen (L 0).tag (L 0).refs (tx (dataOf ((List.range n).map L))) 0 w') : F.chain_Get (some (blk k)) (P 0) w R := by
  have hw := hc.walk hg
  refine Get_chain h (by omega) (fun w' he => absurd (by rw [hw]) he) fun x xs w' hx he h' => ?_
  rw [hw] at hx
  have hp := hc.pos
  have e : (List.range n).map L = x :: xs := hx
  rw [← e]
  obtain ⟨m, rfl⟩ : ∃ m, n = m + 1 := ⟨n - 1, by omega⟩
  rw [List.range_succ_eq_map] at e
  simp only [List.map_cons, List.cons.injEq] at e
  rw [← e.1]
  exact hR w' h'
theorem Sectors_chn (h : St w (DeskS k g c D :: X)) (hc : Chn n L P) (hg : HasC D L P n) (hP : 0 ≤ P 0 ∧ P 0 < 65536) {R : Sl → Int → World → Prop}
    (hR : ∀ pl w', St w' (Row EI T.y_int pl ((List.range n).map P) :: DeskS k g c D :: X) → R pl 0 w') : F.chain_Sectors (some (blk k)) (P 0) w R := by
  have hw := hc.walk hg
  refine Sectors_chain h (by omega) fun pl w' h' => ?_
  rw [hw] at h' ⊢
  exact hR pl w' h'

theorem Fresh_st (h : St w X) {n : Nat} (h1 : 140 ≤ n) (h2 : n ≤ 2000) {R : Option Addr → World → Prop} (hR : ∀ k g w', St w' (DeskS k g 1001 (fmt0 n) :: X) → R (some (blk k)) w') : F.masonrylaw12_Fresh (n : Int) w R := by
  apply E.masonrylaw12_Fresh
  unfold V.masonrylaw12_Fresh
  try simp (config := { zeta := false }) only [cnd_all]
  refine newdisk_st h h1 h2 fun g w1 h1' => ⟨fun h => absurd rfl h, fun _ => format0_st h1' h1 h2 fun k w2 h2' => ⟨fun h => absurd rfl h, fun _ => ⟨fun h => (by cases h), fun _ => ?_⟩⟩⟩
  obtain ⟨u, hu⟩ := DeskS.wal h2'
  exact ⟨blk k, rfl, some (blk u), hu, fun h => (by cases h), fun _ => hR k g w2 h2'⟩

theorem alive12_spec (h : St w X) {R : Bool → World → Prop} (hR : ∀ w', St w' X → R true w') : F.masonrylaw12_alive w R := by
  apply E.masonrylaw12_alive
  unfold V.masonrylaw12_alive
  try simp (config := { zeta := false }) only [cnd_all]
  have e2 : needN (List.replicate 237 (0 : UInt8)).length = 2 := by rw [List.length_replicate]; rfl
  have hf : freeN (fmt0 150).bs = 37 := by rw [fmt0_bs, freeN_bs0 (by decide)]
  refine Fresh_st h (n := 150) (by decide) (by decide) fun k g w1 h1 => ⟨fun h => (by cases h), fun _ => zeros_st h1 (n := 237) (by decide) fun w2 h2 => ?_⟩
  have hlen : (List.replicate 237 (0 : UInt8)).length = 237 := List.length_replicate
  generalize List.replicate 237 (0 : UInt8) = b at *
  refine Put_chain h2 (by decide) (by decide) (by omega) (by decide) (fun w3 hlf _ => by omega) fun w3 hle h3 => ?_
  have hhas := put_has (gen := 1) (tag := 5) hle
  have hchn := putS_chn (D := fmt0 150) (gen := 1) (tag := 5) (b := b) (by decide) (by decide) (by omega) rfl hle (by rw [fmt0_bs, bs0_len]; decide) (DeskS.ok h2).u0
  have hdat := dataOf_put (D := fmt0 150) (gen := 1) (tag := 5) (b := b) (by omega) (n := needN b.length)
  have hpr := placeP_range (fmt0 150) (needN b.length) 0
  rw [fmt0_bs, bs0_len] at hpr
  have hl0 : (linkP (fmt0 150) 1 5 b (needN b.length) 0).gen = 1 ∧ (linkP (fmt0 150) 1 5 b (needN b.length) 0).tag = 5 ∧ (linkP (fmt0 150) 1 5 b (needN b.length) 0).refs = 1 := ⟨rfl, rfl, rfl⟩
  generalize linkP (fmt0 150) 1 5 b (needN b.length) = L at *
  generalize placeP (fmt0 150) (needN b.length) = P at *
  refine Sectors_chn h3 hchn hhas (by omega) fun pl w4 h4 => Get_chn h4.sw hchn hhas (by omega) fun w5 h5 => ?_
  rw [hl0.1, hl0.2.1, hl0.2.2, hdat]
  intro wa1
  replace h5 : St wa1 (Cs _ _ _ :: _) := h5.new _ _
  clear_value wa1
  refine ⟨h5.wr0 (by simp), ?_⟩
  intro wa2
  replace h5 : St wa2 _ := h5.set0 _
  clear_value wa2
  refine ⟨h5.wr (by simp), ?_⟩
  intro wa3
  replace h5 : St wa3 _ := h5.set 1 _
  clear_value wa3
  refine ⟨h5.wr (by simp), ?_⟩
  intro wa4
  replace h5 : St wa4 _ := h5.set 2 _
  clear_value wa4
  refine ⟨h5.wr (by simp), ?_⟩
  intro wa5
  replace h5 : St wa5 _ := h5.set 3 _
  clear_value wa5
  simp only [List.set_cons_zero, List.set_cons_succ] at h5
  obtain ⟨ad, had, hlt, hc⟩ := (h5.up2.has (by decide)).at (j := 0) (by simp [e2])
  have hc0 := hc 0 (.int .i64 (P 0)) (by simp [EI])
  have hl : pl.len = 2 := by have := (h5.up2.has (by decide)).1; simpa [e2] using this
  refine ⟨fun _ => ⟨fun _ => ⟨fun _ => ⟨ad, had, by decide, by omega, _, by simpa [addr_add0] using hc0, fun _ => ⟨fun _ => ⟨_, h5.cell 3, fun _ => ⟨_, h5.cell 2, fun _ => ⟨_, h5.cell 1, fun _ => ⟨_, h5.cell0, fun _ => ?_, fun h => absurd rfl h⟩, fun h => absurd rfl h⟩, fun h => absurd rfl h⟩, fun h => absurd (by rw [tx_size, hlen]; rfl) h⟩, fun h => absurd rfl h⟩, fun h => absurd rfl h⟩, fun h => by omega⟩, fun h => absurd rfl h⟩, fun h => absurd rfl h⟩
  exact Need_chain (n := 237) (by decide) (hR _ h5.drop.drop.drop)
end
end Go.Proofs.YtmokmbhhnbcelaaGreatDoor
