/- room.Read. -/
import Derived.Test.YtmokmbhhnbcelaaGreatDoorKc
import Derived.Test.YtmokmbhhnbcelaaGreatDoorCl
set_option linter.unusedVariables false
namespace Go.Proofs.YtmokmbhhnbcelaaGreatDoor
open Go Go.Vc Go.RowKit Go.Lib Go.Maps Go.Proofs

def bitB (m : Bs) (i : Nat) : Bool := (m.getD (i / 8) 0).toNat.testBit (i % 8)
def bitsTo (n : Nat) (m : Bs) (k : Nat) : List Bool := (List.range n).map fun i => decide (i < k) && bitB m i
theorem bitsTo_len (n : Nat) (m : Bs) (k : Nat) : (bitsTo n m k).length = n := by simp [bitsTo]
theorem bitsTo_zero (n : Nat) (m : Bs) : bitsTo n m 0 = List.replicate n false := by simp [bitsTo, List.map_const']
theorem bitsTo_succ {n : Nat} (m : Bs) {k : Nat} (hk : k < n) : (bitsTo n m k).set k (bitB m k) = bitsTo n m (k + 1) := by
  apply List.ext_getElem
  · simp [bitsTo]
  · intro i h1 h2
    rw [List.getElem_set]
    simp only [bitsTo, List.getElem_map, List.getElem_range]
    by_cases h : k = i
    · subst h
      rw [if_pos rfl]; simp
    · rw [if_neg h]
      have : decide (i < k) = decide (i < k + 1) := by rw [Bool.eq_iff_iff]; simp; omega
      rw [this]
theorem bitsTo_pack (bs : List Bool) : bitsTo bs.length (packTo bs bs.length) bs.length = bs := by
  apply List.ext_getElem
  · simp [bitsTo]
  · intro i h1 h2
    simp only [bitsTo, List.getElem_map, List.getElem_range, bitB]
    rw [pack_bit bs bs.length (Nat.le_refl _) h2]
    simp [h2]
theorem shr8 (a k : Nat) (ha : a < 256) (hk : k < 8) : (bits .and .u8 (shr .u8 (a : Int) (k : Int)) 1 == 1) = a.testBit k := by
  have h : ∀ a : Fin 256, ∀ k : Fin 8, (bits .and .u8 (shr .u8 ((a.val : Nat) : Int) ((k.val : Nat) : Int)) 1 == 1) = a.val.testBit k.val := by decide +kernel
  exact h ⟨a, ha⟩ ⟨k, hk⟩

def rm1 (b : Bs) : Int × Bs × Int := lowIn 1 (openB b).1 0
def rm2 (b : Bs) : Int × Bs × Int := lowIn 2 (rm1 b).2.1 (rm1 b).2.2
theorem rm_lay {bs : List Bool} (h1 : 1 ≤ bs.length) (h2 : bs.length ≤ 1900) : (openB (layRoom bs)).2 = 0 ∧ (rm2 (layRoom bs)).1 = bs.length ∧
    (rawIn (((bs.length + 7) / 8 : Nat) : Int) (rm2 (layRoom bs)).2.1 (rm2 (layRoom bs)).2.2).1 = packTo bs bs.length := by
  have hl := roomBytes_len bs
  have e1 : openB (layRoom bs) = (padTo (256 - 4) (roomBytes bs), 0) := openB_seal (by decide) (by omega)
  have e2 : padTo (256 - 4) (roomBytes bs) = leBytes 1 6 ++ (leBytes 2 (bs.length : Int) ++ (packTo bs bs.length ++ List.replicate ((256 - 4) - (roomBytes bs).length) 0)) := by
    unfold padTo
    conv => lhs; arg 1; unfold roomBytes
    simp only [List.append_assoc]
  have e3 : rm1 (layRoom bs) = (6, leBytes 2 (bs.length : Int) ++ (packTo bs bs.length ++ List.replicate ((256 - 4) - (roomBytes bs).length) 0), 0) := by
    unfold rm1
    rw [e1]
    simp only
    rw [e2]
    exact lowIn_layI (k := 1) (v := 6) (by decide) (by decide) (by decide) _
  have e4 : rm2 (layRoom bs) = ((bs.length : Int), packTo bs bs.length ++ List.replicate ((256 - 4) - (roomBytes bs).length) 0, 0) := by
    unfold rm2
    rw [e3]
    exact lowIn_layI (k := 2) (by omega) (by omega) (by decide) _
  refine ⟨by rw [e1], by rw [e4], ?_⟩
  rw [e4]
  simp only
  have e5 := rawIn_app (packTo bs bs.length) (List.replicate ((256 - 4) - (roomBytes bs).length) 0)
  rw [packTo_len] at e5
  rw [e5]

/-- the sector says which are in use -/
def IsRoom (b : Bs) (bs : List Bool) : Prop := layRoom bs = b ∧ 1 ≤ bs.length ∧ bs.length ≤ 1900

section
variable {w : World} {X : List As}
theorem NewRoom_st (h : St w X) {n : Nat} (h1 : 1 ≤ n) (h2 : n ≤ 1900) {R : Option Addr → Int → World → Prop} (hR : ∀ r w', St w' (RoomS r (List.replicate n false) :: X) → R (some (blk r)) 0 w') : F.room_New (n : Int) ⟨none, 0, 0⟩ w R := by
  refine New_room h1 h2 (us := []) ⟨rfl, fun j v hj => by cases hj⟩ (fun k hk => ?_) (Nat.zero_le _) (fun w' hn => absurd (fun x hx => by cases hx) hn) fun r fp w' _ hr hfp hB => hR r w' (h.add (A := RoomS r _) (S := fp) hr (fr_below hB) hfp)
  obtain ⟨a, ha, _⟩ := hk
  cases ha
theorem NewRoom_bad {n : Int} (h : n < 1 ∨ 1900 < n) {R : Option Addr → Int → World → Prop} (hR : R none 1 w) : F.room_New n ⟨none, 0, 0⟩ w R := by
  apply E.room_New
  unfold V.room_New
  try simp (config := { zeta := false }) only [cnd_all, Nat.reduceAdd]
  refine ⟨fun _ => hR, fun h1 => ⟨fun _ => hR, fun h2 => by omega⟩⟩
theorem LayRoom_st {r : Nat} {bs : List Bool} (h : St w (RoomS r bs :: X)) (h1 : 1 ≤ bs.length) (h2 : bs.length ≤ 1900) {R : ByteArray → Int → World → Prop} (hR : ∀ w', St w' (RoomS r bs :: X) → R (tx (layRoom bs)) 0 w') : F.room_Room_Lay (some (blk r)) w R := by
  obtain ⟨S, hr⟩ := h.hd
  exact Lay_room hr h1 h2 fun w' hB => hR w' (h.below hB)
theorem SizeRoom_st {r : Nat} {bs : List Bool} (h : St w (RoomS r bs :: X)) {R : Int → World → Prop} (hR : R (bs.length : Int) w) : F.room_Room_Size (some (blk r)) w R := by
  obtain ⟨S, hr⟩ := h.hd
  exact Size_room hr hR

set_option maxHeartbeats 1000000 in
theorem ReadRoom_st (h : St w X) {b : Bs} (hb : b.length = 256) {R : Option Addr → Int → World → Prop} (hE : ∀ e w', e ≠ 0 → (∀ bs, ¬ IsRoom b bs) → St w' X → R none e w')
    (hR : ∀ r bs w', IsRoom b bs → St w' (RoomS r bs :: X) → R (some (blk r)) 0 w') : F.room_Read (tx b) w R := by
  apply E.room_Read
  unfold V.room_Read
  try simp (config := { zeta := false }) only [cnd_all, Nat.reduceAdd]
  refine ⟨fun hn => absurd (by omega) hn, fun _ => open_st h (by omega) fun w1 h1 => ?_⟩
  have hol := openB_len b
  refine ⟨fun he => hE _ w1 he (fun bs ⟨e, l1, l2⟩ => he (by rw [← e]; exact (rm_lay l1 l2).1)) h1, fun he => ?_⟩
  refine InS.on h1 fun g w2 h2 => InS.byte h2 (by omega) fun w3 h3 => ?_
  have hl1 := lowIn_left 1 (openB b).1 0
  refine InS.half h3 (by omega) fun w4 h4 => ?_
  have hl2 := lowIn_left 2 (rm1 b).2.1 (rm1 b).2.2
  have hl2' : (rm2 b).2.1.length ≤ 256 := by unfold rm2; unfold rm1 at *; omega
  have h4 : St w4 (InS g (rm2 b).2.1 (rm2 b).2.2 :: X) := h4
  show F.room_New (rm2 b).1 _ _ _
  have hN : ∀ bs, IsRoom b bs → (rm2 b).1 = bs.length := fun bs ⟨e, l1, l2⟩ => by rw [← e]; exact (rm_lay l1 l2).2.1
  by_cases hbad : (rm2 b).1 < 1 ∨ 1900 < (rm2 b).1
  · refine NewRoom_bad hbad ⟨fun _ => hE 6 w4 (by decide) (fun bs hi => ?_) h4.drop, fun h => by cases h⟩
    have := hN bs hi
    obtain ⟨_, l1, l2⟩ := hi
    omega
  obtain ⟨n, hn⟩ : ∃ n : Nat, (rm2 b).1 = n := ⟨(rm2 b).1.toNat, by omega⟩
  have n1 : 1 ≤ n := by omega
  have n2 : n ≤ 1900 := by omega
  rw [hn]
  have hN : ∀ bs, IsRoom b bs → bs.length = n := fun bs hi => by have := hN bs hi; omega
  refine NewRoom_st h4 n1 n2 fun r w5 h5 => ⟨fun h => absurd rfl h, fun _ => ?_⟩
  obtain ⟨L, hr5, e5⟩ := h5.out.choose_spec.1
  have hl5 := hr5.len
  rw [List.length_replicate] at hl5
  refine ⟨blk r, rfl, L, hr5.c0, by decide, ?_⟩
  have en : w64 ((w64 (((L.len : Nat) : Int) + 7)).tdiv 8) = (((n + 7) / 8 : Nat) : Int) := by
    rw [hl5, w64_id (x := (n : Int) + 7) (by omega) (by omega)]
    have : ((n : Int) + 7).tdiv 8 = (((n + 7) / 8 : Nat) : Int) := (Int.ofNat_tdiv (n + 7) 8).symm
    rw [this, w64_id (by omega) (by omega)]
  rw [en]
  refine InS.raw h5.sw (by omega) fun w6 h6 => ?_
  have hM : ∀ bs, IsRoom b bs → (rawIn (((n + 7) / 8 : Nat) : Int) (rm2 b).2.1 (rm2 b).2.2).1 = packTo bs n := fun bs hi => by
    have e := hN bs hi
    obtain ⟨e', l1, l2⟩ := hi
    have h := (rm_lay l1 l2).2.2
    rw [e', e] at h
    exact h
  have hml : (rawIn (((n + 7) / 8 : Nat) : Int) (rm2 b).2.1 (rm2 b).2.2).1.length ≤ 256 := by
    unfold rawIn
    split
    · simp
    · split
      · simp
      · split
        · simp
        · simp only [List.length_take]; omega
  generalize (rawIn (((n + 7) / 8 : Nat) : Int) (rm2 b).2.1 (rm2 b).2.2).1 = m at *
  have h7 := h6.drop
  obtain ⟨L1, hr6, e6⟩ := h7.out.choose_spec.1
  have hl6 := hr6.len
  rw [List.length_replicate] at hl6
  refine ⟨blk r, rfl, L1, hr6.c0, ?_⟩
  have ek : imin ((L1.len : Nat) : Int) (w64 ((8 : Int) * ((tx m).size : Int))) = ((min n (8 * m.length) : Nat) : Int) := by
    rw [tx_size, hl6, w64_id (by omega) (by omega)]
    unfold imin
    omega
  rw [ek]
  generalize hk : min n (8 * m.length) = k
  refine ⟨fun i w' => ∃ j : Nat, i = j ∧ j ≤ k ∧ St w' (RoomS r (bitsTo n m j) :: X), fun i _ => (k - i).toNat, ⟨0, rfl, Nat.zero_le _, by rw [bitsTo_zero]; exact h7⟩, ?_⟩
  rintro i w8 ⟨j, rfl, hj, h8⟩
  refine ⟨fun hlt => ?_, fun hge => ?_⟩
  · have hlt : j < k := by omega
    have e1 : w64 ((j : Int) + 1) = ((j + 1 : Nat) : Int) := by rw [w64_id (by omega) (by omega)]; omega
    have hme : ((k : Int) - ((j + 1 : Nat) : Int)).toNat < ((k : Int) - (j : Int)).toNat := by omega
    intro wa1
    replace h8 : St wa1 _ := h8.drew
    clear_value wa1
    obtain ⟨S, ⟨L2, hr8, e8⟩, hlt8, hX⟩ := h8.out
    subst e8
    have hl8 := hr8.len
    rw [bitsTo_len] at hl8
    obtain ⟨a, ha, _⟩ := hr8.at (i := j) (by rw [bitsTo_len]; omega)
    have d1 : (j : Int).tdiv 8 = ((j / 8 : Nat) : Int) := (Int.ofNat_tdiv j 8).symm
    have d2 : (j : Int).tmod 8 = ((j % 8 : Nat) : Int) := (Int.ofNat_tmod j 8).symm
    have d3 : w64 ((j : Int).tdiv 8) = ((j / 8 : Nat) : Int) := by rw [d1, w64_id (by omega) (by omega)]
    rw [d3, d2]
    have hbit : (bits .and .u8 (shr .u8 (sAt (tx m) ((j / 8 : Nat) : Int)) ((j % 8 : Nat) : Int)) 1 == 1) = bitB m j := by
      rw [tx_at]
      exact shr8 _ _ (m.getD (j / 8) 0).toNat_lt (Nat.mod_lt _ (by decide))
    obtain ⟨q1, q2, q3⟩ := hr8.set (i := j) (by rw [bitsTo_len]; omega) (bitB m j) ha
    refine ⟨blk r, rfl, L2, hr8.c0, by decide, by omega, by rw [tx_size]; omega, by decide, by omega, a, ha, by omega, by rw [hl8]; omega, q1, ?_⟩
    simp -zeta only [hbit]
    intro w9
    have h9 : St w9 (RoomS r (bitsTo n m (j + 1)) :: X) := by
      refine hX (A' := RoomS r _) ⟨L2, ?_, rfl⟩ q3 fun i hi => .inl hi
      rw [← bitsTo_succ m (by omega)]
      exact q2
    clear_value w9
    rw [e1]
    exact ⟨⟨j + 1, rfl, hlt, h9⟩, hme⟩
  · have hjk : j = k := by omega
    subst hjk
    refine LayRoom_st h8 (by rw [bitsTo_len]; exact n1) (by rw [bitsTo_len]; exact n2) fun w9 h9 => ⟨fun h => absurd rfl h, fun _ => ?_⟩
    rw [tx_eq]
    have hall : ∀ bs, IsRoom b bs → bitsTo n m j = bs := fun bs hi => by
      have a1 := hN bs hi
      have a2 := hM bs hi
      have a3 := packTo_len bs n
      rw [← a2] at a3
      have : j = bs.length := by rw [← hk, a1]; omega
      rw [this, a2, ← a1]
      exact bitsTo_pack bs
    by_cases heq : layRoom (bitsTo n m j) = b
    · refine ⟨fun h => absurd h (by simp [heq]), fun _ => hR r _ w9 ⟨heq, by rw [bitsTo_len]; exact n1, by rw [bitsTo_len]; exact n2⟩ h9⟩
    · refine ⟨fun _ => hE 6 w9 (by decide) (fun bs hi => heq (by rw [hall bs hi]; exact hi.1)) h9.drop, fun h => absurd h (by simp [heq])⟩
end
end Go.Proofs.YtmokmbhhnbcelaaGreatDoor

/- desk: Format where the head is none; Open. -/
set_option linter.unusedVariables false
namespace Go.Proofs.YtmokmbhhnbcelaaGreatDoor
open Go Go.Vc Go.RowKit Go.Lib Go.Maps Go.Proofs

/-- a Wal by itself -/
def WlA (u g : Nat) (s : WlS) : As where
  p := fun w S => Wl w u g s ∧ S = fun j => j = u
  lt := fun ⟨h, e⟩ k hk => by subst e; have : k = u := hk; subst this; exact h.lt
  keep := fun ⟨h, e⟩ hf => ⟨h.keep hf (fun hn => hn (by subst e; rfl)), e⟩

/-- a disk whose head is none -/
structure Broken (d : Ds) : Prop where
  off : d.off = false
  ws : d.ws.length ≤ 10
  lo : 140 ≤ d.l.length
  hi : d.l.length ≤ 2000
  head : (readHead (d.l.getD 0 [])).2 ≠ 0
  hlen : (d.l.getD 0 []).length = 256
  many : 0 ≤ d.many
  secs : ∀ s ∈ d.l, s.length = 256
def healD (d : Ds) : Ds := flushD (wr1 d (0, zeroS))
theorem zero_head : readHead zeroS = (⟨0, false, []⟩, 0) := by
  have h : zeroS.all (fun x => [(0 : UInt8)].contains x) = true := List.all_eq_true.2 fun x hx => by rw [List.eq_of_mem_replicate hx]; rfl
  unfold readHead
  rw [if_neg (by rw [zeroS_len]; decide), if_pos h]
theorem Broken.heal {d : Ds} (h : Broken d) : Quiet (healD d) 0 := by
  have hlo := h.lo
  have e : (healD d).l = d.l.set 0 zeroS := rfl
  have e0 : (healD d).l.getD 0 [] = zeroS := by rw [e]; simp [show 0 < d.l.length by omega]
  refine ⟨h.off, Nat.zero_le _, by rw [e, List.length_set]; exact h.lo, by rw [e, List.length_set]; exact h.hi, by rw [e0]; exact zero_head, by rw [e0]; exact zeroS_len, ?_, ?_⟩
  · show 0 ≤ d.many + 1
    have := h.many; omega
  · rw [e]; exact set_mem h.secs zeroS_len
theorem heal_len (d : Ds) : (healD d).l.length = d.l.length := List.length_set
/-- what stands there when the disk is opened to be formatted -/
def OpenTo (d d' : Ds) (seq : Int) : Prop := (Quiet d seq ∧ d' = d) ∨ (Broken d ∧ d' = healD d ∧ seq = 0)
theorem OpenTo.quiet {d d' : Ds} {seq : Int} (h : OpenTo d d' seq) : Quiet d' seq := by
  rcases h with ⟨h, rfl⟩ | ⟨h, rfl, rfl⟩
  · exact h
  · exact h.heal

section
variable {w : World} {X : List As} {u g : Nat} {D : DkV} {d : Ds} {s : WlS}
theorem WDS.split (h : St w (WDS u g D :: X)) : St w (WlA u g ⟨D.seq, false, D.commits⟩ :: DskS g D.d :: X) := by
  obtain ⟨Tf, a, t, ⟨fpd, h1, h2, e⟩, hX, hd, hs⟩ := h
  subst e
  refine ⟨Tf, fun j => j = u, fun j => fpd j ∨ t j, ⟨h1, rfl⟩, ⟨fpd, t, h2, hX, fun j hj => hd j (.inr hj), fun j => Iff.rfl⟩, fun j hj hor => ?_, fun j => ?_⟩
  · have hj : j = u := hj
    subst hj
    rcases hor with h | h
    · exact h1.apart h2 h
    · exact hd j (.inl rfl) h
  · rw [hs j]; exact or_assoc
theorem WDS.put (h : St w (WlA u g ⟨D.seq, false, D.commits⟩ :: DskS g D.d :: X)) : St w (WDS u g D :: X) := by
  obtain ⟨Tf, a, t, ⟨h1, e⟩, ⟨fpd, t2, h2, hX, hd2, hs2⟩, hd, hs⟩ := h
  subst e
  refine ⟨Tf, fun j => j = u ∨ fpd j, t2, ⟨fpd, h1, h2, rfl⟩, hX, fun j hj ht => ?_, fun j => ?_⟩
  · rcases hj with h | h
    · exact hd j h ((hs2 j).2 (.inr ht))
    · exact hd2 j h ht
  · rw [hs j, hs2 j]; exact or_assoc.symm

theorem WriteD_st {b n : Nat} {xs : List Wr1} (h : St w (DskS g d :: Cs b (wrCells xs) T.y_api_Write :: X)) (hn : n = xs.length) (hoff : d.off = false) (hok : OkW d.l.length xs) (hm0 : 0 ≤ d.many) (hm : d.many + xs.length < 1000000000000) (hws : d.ws.length + xs.length ≤ 1000000000)
    {R : Int → World → Prop} (hR : ∀ w', St w' (DskS g (wrN d xs) :: Cs b (wrCells xs) T.y_api_Write :: X) → R 0 w') : F.disk_Disk_Write (some (blk g)) ⟨some (blk b), n, n⟩ w R := by
  have hb := h.drop.bl
  obtain ⟨Tf, a, t, hd, hY, hdis, hs⟩ := h
  have hbt : t b := by
    obtain ⟨a2, t2, ⟨hb2, e2⟩, _, _, hs2⟩ := hY
    rw [hs2, e2]; exact .inl rfl
  obtain ⟨L, S, Wn, hk, rfl⟩ := hd
  refine Write_disk hk hoff (Wrs.row hb n n hn) (fun k hk' => ?_) hok hm0 hm hws fun Wn' w' hk2 hbk hF => hR w' ⟨fun j => fpD g L S Wn' j ∨ t j, fpD g L S Wn', t, ⟨L, S, Wn', hk2, rfl⟩, hY.keep (hF.mono fun j _ hj ht => hdis j hj ht), fun j hj ht => ?_, fun j => Iff.rfl⟩
  · obtain ⟨a', ha', rfl⟩ := hk'
    injection ha' with ha'
    subst ha'
    exact ⟨heap_lt hb, fun hf => hdis _ hf hbt⟩
  · rcases fp_mono hbk hj with h | h
    · exact hdis j h ht
    · have := hY.lt j ht; omega
theorem FlushD_st (h : St w (DskS g d :: X)) (hoff : d.off = false) (hl : d.l.length ≤ 1000000) {R : Int → World → Prop} (hR : ∀ w', St w' (DskS g (flushD d) :: X) → R 0 w') : F.disk_Disk_Flush (some (blk g)) w R := by
  obtain ⟨S0, ⟨L, S, Wn, hk, e⟩, hlt, hX⟩ := h.out
  subst e
  refine Flush_disk hk hoff hl fun S' w' hk' hbk hF => hR w' (hX (A' := DskS g (flushD d)) ⟨L, S', _, hk', rfl⟩ (hF.mono fun j _ hj => .inl hj) fun j hj => ?_)
  rcases hj with h | h | h | h
  · exact .inl (.inl h)
  · exact .inl (.inr (.inl h))
  · exact .inr (hbk j h)
  · exact bk_nil h
theorem OpenWal_st (h : St w (DskS g d :: X)) {seq : Int} (hq : Quiet d seq) {R : Option Addr → Int → World → Prop} (hR : ∀ u w', St w' (WlA u g ⟨seq, false, 0⟩ :: DskS g d :: X) → R (some (blk u)) 0 w') : F.wal_Open (some (blk g)) w R := by
  obtain ⟨S, hd⟩ := h.hd
  exact Open_quiet hd hq fun u w' hu hlo hB => hR u w' (h.add (A := WlA u g _) (S := fun j => j = u) ⟨hu, rfl⟩ (fr_below hB) fun j hj => by have : j = u := hj; omega)
theorem OpenWal_bad (h : St w (DskS g d :: X)) (hb : Broken d) {R : Option Addr → Int → World → Prop} (hR : ∀ w', St w' (DskS g d :: X) → R none 25 w') : F.wal_Open (some (blk g)) w R := by
  apply E.wal_Open
  unfold V.wal_Open
  try simp (config := { zeta := false }) only [cnd_all, Nat.reduceAdd]
  obtain ⟨S0, L, S, Wn, hk, e⟩ := h.hd
  have hlo := hb.lo
  refine Read_disk hk ?_
  have e0 : mayD d 0 = 0 := by unfold mayD; rw [if_neg (by simp [hb.off]), if_neg (by omega)]
  rw [e0]
  refine ⟨fun hn => absurd rfl hn, fun _ => ?_⟩
  rw [if_pos rfl]
  refine Read_head (by have := hb.hlen; show (d.l.getD 0 []).length ≤ _; omega) fun l w1 hO1 hbk1 hB1 => ?_
  have h1 := h.below hB1
  intro wa1
  replace h1 : St wa1 (Cs _ _ _ :: _) := h1.new _ _
  clear_value wa1
  refine ⟨h1.wr0 (by simp), ?_⟩
  intro wa2
  replace h1 : St wa2 _ := h1.set0 _
  clear_value wa2
  refine ⟨h1.wr (by simp), ?_⟩
  intro wa3
  replace h1 : St wa3 _ := h1.set 1 _
  clear_value wa3
  refine ⟨h1.wr (by simp), ?_⟩
  intro wa4
  replace h1 : St wa4 _ := h1.set 2 _
  clear_value wa4
  exact ⟨fun _ => hR _ h1.drop, fun hz => absurd hz hb.head⟩
theorem Opened_st {d' : Ds} {seq : Int} (h : St w (DskS g d :: X)) (ho : OpenTo d d' seq) (hm : d.many ≤ 1000000000) {R : Option Addr → Int → World → Prop} (hR : ∀ u w', St w' (WlA u g ⟨seq, false, 0⟩ :: DskS g d' :: X) → R (some (blk u)) 0 w') : F.desk_opened (some (blk g)) w R := by
  apply E.desk_opened
  unfold V.desk_opened
  try simp (config := { zeta := false }) only [cnd_all, Nat.reduceAdd]
  rcases ho with ⟨hq, rfl⟩ | ⟨hb, rfl, rfl⟩
  · exact OpenWal_st h hq fun u w1 h1 => ⟨fun _ => hR u w1 h1, fun h => absurd h (by decide)⟩
  refine OpenWal_bad h hb fun w1 h1 => ⟨fun h => absurd rfl h, fun _ => zeros_desk fun w2 hB2 => ?_⟩
  replace h1 := h1.below hB2
  intro wa1
  replace h1 : St wa1 (Cs _ _ _ :: _) := h1.new _ _
  clear_value wa1
  have hlo := hb.lo
  have hhi := hb.hi
  have hws := hb.ws
  have hm0 := hb.many
  refine WriteD_st (xs := [(0, zeroS)]) h1.sw rfl hb.off (fun x hx => ?_) hm0 (by simp; omega) (by simp; omega) fun w3 h3 => ⟨fun h => absurd rfl h, fun _ => ?_⟩
  · simp only [List.mem_cons, List.not_mem_nil, or_false] at hx
    subst hx
    exact ⟨by decide, by show (0 : Int) < _; omega, zeroS_len⟩
  have h3 : St w3 (DskS g (wr1 d (0, zeroS)) :: _) := h3
  refine FlushD_st h3 hb.off (by show (d.l.set _ _).length ≤ _; rw [List.length_set]; omega) fun w4 h4 => ⟨fun h => absurd rfl h, fun _ => ?_⟩
  exact OpenWal_st (d := healD d) h4.d2 hb.heal hR

theorem SizeWal_st (h : St w (WlA u g s :: DskS g d :: X)) (hn : d.l.length ≤ 1000000) {R : Int → World → Prop} (hR : R (sizeD d) w) : F.wal_Wal_Size (some (blk u)) w R := by
  obtain ⟨S, hu, e⟩ := h.hd
  obtain ⟨S2, hd⟩ := h.drop.hd
  exact Size_wal hu hd hn hR
theorem Commit_st {seq commits : Int} {sl : Sl} {ws : List Wr1} (h : St w (WlA u g ⟨seq, false, commits⟩ :: DskS g d :: X)) (hq : Quiet d seq) (hx : Wrs w sl ws) (hsl : ∀ k, sl.bk k → k < w.heap.size) (hl : ws.length ≤ 1000000) (hne : ws ≠ []) (hE : lastE (sizeD d) ws = 0)
    (hs0 : 0 ≤ seq) (hs1 : seq < 1099511627776) (hc0 : 0 ≤ commits) (hc1 : commits < 1000000000000) (hm : d.many < 999999999000) {R : Int → World → Prop}
    (hR : ∀ w', St w' (WlA u g ⟨seq + 1, false, commits + 1⟩ :: DskS g (commitD d seq ws) :: X) → R 0 w') : F.wal_Wal_Commit (some (blk u)) sl w R := by
  obtain ⟨S, ⟨fpd, hu, hd, e⟩, hlt, hX⟩ := (WDS.put (D := ⟨d, seq, commits, 0, [], []⟩) h).out
  subst e
  have hws := hq.ws
  refine Commit_wal hu hd hq.off hx hsl hl hq.lo hq.hi hs0 hs1 hc0 hc1 hq.many hm (by show d.ws.length ≤ _; omega) (fun w' hn => absurd hE hn) (fun w' hn => absurd hn hne) fun fp' w' _ _ hd' hu' hG => hR w' (WDS.split (D := ⟨commitD d seq ws, seq + 1, commits + 1, 0, [], []⟩) (hX (A' := WDS u g ⟨commitD d seq ws, seq + 1, commits + 1, 0, [], []⟩) (S' := fun j => j = u ∨ fp' j) ⟨fp', hu', hd', rfl⟩ (hG.fr.mono fun j _ hj => hj.symm) fun j hj => ?_))
  rcases hG.new j hj.symm with h | h
  · exact .inl h.symm
  · exact .inr h

set_option maxHeartbeats 1000000 in
theorem FormatTo_st {d' : Ds} {seq : Int} (h : St w (DskS g d :: X)) (ho : OpenTo d d' seq) (hs : 0 ≤ seq ∧ seq ≤ 1000) (hm : d.many ≤ 1000) (hm' : d'.many ≤ 1000) {R : Option Addr → Int → World → Prop}
    (hR : ∀ k w', St w' (DeskS k g 1001 (fmtD d' seq (d'.l.length - 111)) :: X) → R (some (blk k)) 0 w') : F.desk_Format (some (blk g)) w R := by
  have hq := ho.quiet
  have hlo := hq.lo
  have hhi := hq.hi
  have hok := fmt_ok hq hs hm'
  apply E.desk_Format
  unfold V.desk_Format
  try simp (config := { zeta := false }) only [cnd_all, Nat.reduceAdd]
  refine Opened_st h ho (by omega) fun u w1 h1 => ⟨fun h => absurd rfl h, fun _ => ?_⟩
  refine SizeWal_st h1 (by omega) ?_
  have en : sizeD d' = ((d'.l.length - 111 : Nat) : Int) := by unfold sizeD; omega
  rw [en]
  generalize hn : d'.l.length - 111 = n at *
  intro wa1
  replace h1 : St wa1 (Cs _ _ _ :: _) := h1.new _ _
  clear_value wa1
  refine New_room (n := n) (us := [0, 1]) (by omega) (by omega) (Has.ints (h1.lit (En := EI) (xs := [0, 1]) rfl rfl 2)) (fun k hk => by
    obtain ⟨a, ha, rfl⟩ := hk
    injection ha with ha
    subst ha
    exact heap_lt h1.bl) (by decide) (fun w' hbad _ => absurd (fun x hx => by
      simp only [List.mem_cons, List.not_mem_nil, or_false] at hx
      rcases hx with rfl | rfl
      · exact ⟨by decide, by omega⟩
      · exact ⟨by decide, by omega⟩) hbad) fun r fpr w3 _ hr3 hfr3 hB3 => ⟨fun h => absurd rfl h, fun _ => ?_⟩
  have h3 : St w3 (RoomS r (bs0 n) :: _) := h1.add (A := RoomS r (bs0 n)) (S := fpr) hr3 (fr_below hB3) hfr3
  have hbl := bs0_len n
  refine LayRoom_st h3 (by omega) (by omega) fun w4 h4 => zeros_desk fun w5 hB5 => ?_
  replace h4 := h4.below hB5
  intro wa2
  replace h4 : St wa2 (Cs _ _ _ :: _) := h4.new _ _
  clear_value wa2
  -- writes, room, ints, wal, disk
  have h5 := h4.up4.up4
  have hE := fmt_lastE hq
  rw [hn] at hE
  refine Commit_st h5 hq (Wrs.row (ws := fmtW n) h4.bl 2 2 rfl) (fun k hk => by
    obtain ⟨a, ha, rfl⟩ := hk
    injection ha with ha
    subst ha
    exact heap_lt h4.bl) (by show 2 ≤ 1000000; decide) (fun h => by cases h) hE hs.1 (by omega) (by decide) (by decide) (by omega) fun w6 h6 => ⟨fun h => absurd rfl h, fun _ => ?_⟩
  -- wal, disk, writes, room, ints
  have h7 := WDS.put (D := fmtD d' seq n) h6
  intro w8
  have h8 : St w8 (MapS w6.heap.size [] :: _) := h7.add (A := MapS w6.heap.size []) (S := fun j => j = w6.heap.size) ⟨MapOf.made w6, rfl⟩ (Fr.alloc no w6 _) fun j hj => by have : j = w6.heap.size := hj; omega
  generalize w6.heap.size = b at *
  clear_value w8
  intro wa3
  replace h8 : St wa3 (Cs _ _ _ :: _) := h8.new _ _
  clear_value wa3
  refine hR _ _ (DeskS.join hok (u := u) (r := r) (b := b) (D := fmtD d' seq n) ?_)
  -- desk, map, wal+disk, writes, room, ints
  exact h8.up4.sw.up4.drop.up4.drop
end
end Go.Proofs.YtmokmbhhnbcelaaGreatDoor
