/- masonryref1.Put: a number more, at its place. -/
import Derived.Test.YtmokmbhhnbcelaaGreatDoorSq
import Derived.Test.YtmokmbhhnbcelaaGreatDoorKc
set_option linter.unusedVariables false
namespace Go.Proofs.YtmokmbhhnbcelaaGreatDoor
open Go Go.Vc Go.RowKit Go.Lib

end Go.Proofs.YtmokmbhhnbcelaaGreatDoor

/- desk: Drop and Keep of lists that came in: whatever they tell, what is committed stays. -/
set_option linter.unusedVariables false
namespace Go.Proofs.YtmokmbhhnbcelaaGreatDoor
open Go Go.Vc Go.RowKit Go.Lib Go.Maps Go.Proofs

/-- the same, but for what is on the desk -/
structure Same (D D' : DkV) : Prop where
  d : D'.d = D.d
  seq : D'.seq = D.seq
  com : D'.commits = D.commits
  syn : D'.syncs = D.syncs
  len : D'.bs.length = D.bs.length
theorem Same.refl (D : DkV) : Same D D := ⟨rfl, rfl, rfl, rfl, rfl⟩
theorem Same.trans {A B C : DkV} (h : Same A B) (k : Same B C) : Same A C := ⟨k.d.trans h.d, k.seq.trans h.seq, k.com.trans h.com, k.syn.trans h.syn, k.len.trans h.len⟩
theorem Same.back {A B : DkV} (h : Same A B) : backD B A = A := by
  unfold backD
  rw [h.d, h.seq, h.com, h.syn]
section
variable {w : World} {X : List As} {k g c : Nat} {D : DkV}
set_option maxHeartbeats 1000000 in
theorem Drop_any (h : St w (DeskS k g c D :: X)) {sl : Sl} {zs : List Int} (hx : ∀ w', St w' X → Ints w' sl zs) (hcap : sl.len ≤ sl.cap) (hz : zs.length ≤ 1000000) {R : Int → World → Prop}
    (hR : ∀ e D' w', Same D D' → St w' (DeskS k g c D' :: X) → R e w') : F.desk_Desk_Drop (some (blk k)) sl w R := by
  apply E.desk_Desk_Drop
  unfold V.desk_Desk_Drop
  have hT := hx w h.drop
  have hl := hT.1
  have bad : R 15 w := hR 15 D w (Same.refl D) h
  obtain ⟨hk0, u0, r0, b0, fpd, fpr, Tf, hA, _⟩ := DeskS.open h
  obtain ⟨hk, u, r, b, hP⟩ := DeskS.parts h
  have hbl := hk.bsl
  refine Bad_desk hA ⟨fun h => by simp at h, fun _ => ⟨Cnt zs.length fun m w' => w' = w ∧ ∀ i (h : i < m) (h2 : i < zs.length), zs[i] ≠ 0 ∧ zs[i] ≠ 1 ∧ usedB D.bs zs[i] = true ∧ zs[i] ∉ zs.take i, cntM zs.length, Cnt.zero ⟨rfl, fun i h => absurd h (Nat.not_lt_zero _)⟩, ?_⟩⟩
  rintro _ w1 ⟨m, rfl, hm, rfl, hall⟩
  refine ⟨fun hlt => ?_, fun hge => ?_⟩
  · have hlt : m < zs.length := by have := of_decide_eq_true hlt; omega
    obtain ⟨a, ha, hc⟩ := hT.2 m zs[m] (by simp [hlt])
    refine ⟨a, ha, by omega, by omega, zs[m], by simpa using hc, fun h0 => bad, fun h0 => ⟨fun h1 => bad, fun h1 => ⟨blk k, rfl, some (blk r), by rw [hP.cell]; rfl, Used_st hP.sw ⟨fun hu => bad, fun hu => ⟨by omega, by omega, ?_⟩⟩⟩⟩⟩
    rw [slA0]
    refine Contains_ints (zs := zs.take m) ⟨by simp; omega, fun j v hj => ?_⟩ (by simp; omega) ⟨fun hb => bad, fun hb => Cnt.next hlt (by omega) ⟨rfl, fun i hi h2 => ?_⟩⟩
    · rw [List.getElem?_take] at hj
      split at hj
      · exact hT.2 j v hj
      · cases hj
    · rcases Nat.lt_succ_iff_lt_or_eq.1 hi with h' | h'
      · exact hall i h' h2
      · subst h'
        exact ⟨by simpa using h0, by simpa using h1, by simpa using hu, by simpa using hb⟩
  · have hmm : m = zs.length := by have := of_decide_eq_false hge; omega
    subst hmm
    refine ⟨blk k, rfl, some (blk r), by rw [hP.cell]; rfl, Give_st hP.sw (by omega) (fun w' hw => hx w' hw.drop.drop.drop) hz fun n w2 h2 => ?_⟩
    -- room, desk's block, map, wal
    have h3 := h2.up2
    refine ⟨Cnt zs.length fun m w' => St w' (MapS b (D.ws.filter fun p => decide (p.1 ∉ zs.take m)) :: RoomS r (giveL D.bs zs) :: Cs k (dkC u r b D.syncs) T.y_desk_Desk :: WDS u g D :: X), cntM zs.length, Cnt.zero (by rw [show (D.ws.filter fun p => decide (p.1 ∉ zs.take 0)) = D.ws from by simp]; exact h3), ?_⟩
    rintro _ w3 ⟨m, rfl, hm, h4⟩
    refine ⟨fun hlt => ?_, fun hge => ?_⟩
    · have hlt : m < zs.length := by have := of_decide_eq_true hlt; omega
      obtain ⟨a, ha, hc⟩ := (hx _ h4.drop.drop.drop.drop).2 m zs[m] (by simp [hlt])
      have hzr : -9223372036854775808 ≤ zs[m] ∧ zs[m] < 9223372036854775808 := by
        have := (hall m hlt hlt).2.2.1
        simp only [usedB, Bool.and_eq_true, decide_eq_true_eq] at this
        omega
      refine ⟨a, ha, by omega, by omega, zs[m], by simpa using hc, blk k, rfl, some b, by rw [h4.up2.cell]; rfl, mdrop_st h4 hzr fun w4 h5 => Cnt.next hlt (by omega) ?_⟩
      have e : (D.ws.filter fun p => decide (p.1 ∉ zs.take (m + 1))) = (D.ws.filter fun p => decide (p.1 ∉ zs.take m)).filter fun p => decide (p.1 ≠ zs[m]) := by
        rw [List.filter_filter, List.take_succ_eq_append_getElem hlt]
        congr 1
        funext p
        rw [Bool.eq_iff_iff]
        simp only [decide_eq_true_eq, Bool.and_eq_true, List.mem_append, List.mem_singleton, not_or, ne_eq]
        exact and_comm
      rw [e]; exact h5
    · have hmm : m = zs.length := by have := of_decide_eq_false hge; omega
      subst hmm
      rw [List.take_length] at h4
      have hok : DOk c (dropD D zs) := hk.drop fun z hz => by
        obtain ⟨i, hi, rfl⟩ := List.mem_iff_getElem.1 hz
        exact ⟨(hall i hi hi).1, (hall i hi hi).2.1⟩
      refine hR 0 (dropD D zs) w3 ⟨rfl, rfl, rfl, rfl, giveL_len _ _⟩ (DeskS.join (u := u) (r := r) (b := b) hok ?_)
      have h5 := h4.up2.dn2
      have h6 : St w3 (Cs k (dkC u r b D.syncs) T.y_desk_Desk :: RoomS r (giveL D.bs zs) :: MapS b (D.ws.filter fun p => decide (p.1 ∉ zs)) :: WDS u g D :: X) := (h4.sw).up2
      exact ((WDS.to (D' := dropD D zs) rfl rfl rfl (h6.up3)).dn3)
set_option maxHeartbeats 1000000 in
theorem Keep_any (h : St w (DeskS k g c D :: X)) {sl : Sl} {zs : List Int} (hx : ∀ w', St w' X → Ints w' sl zs) (hz : zs.length ≤ 100000) {R : Int → World → Prop}
    (hR : ∀ e D' w', Same D D' → St w' (DeskS k g c D' :: X) → R e w') : F.desk_Desk_Keep (some (blk k)) sl w R := by
  apply E.desk_Desk_Keep
  unfold V.desk_Desk_Keep
  try simp (config := { zeta := false }) only [cnd_all, Nat.reduceAdd]
  have hT := hx w h.drop
  have hl := hT.1
  have bad : R 15 w := hR 15 D w (Same.refl D) h
  obtain ⟨hk, u0, r0, b0, fpd, fpr, Tf, hA, _⟩ := DeskS.open h
  have hbl := hk.bsl
  have hdl := hk.len
  have hsz : sizeD D.d = (D.bs.length : Int) := by unfold sizeD; omega
  refine Bad_desk hA ⟨fun h => absurd rfl h, fun _ => ⟨Cnt zs.length fun m w' => w' = w ∧ ∀ x ∈ zs.take m, 0 ≤ x ∧ x < (D.bs.length : Int), cntM zs.length, Cnt.zero ⟨rfl, by simp⟩, ?_⟩⟩
  rintro _ w1 ⟨m, rfl, hm, rfl, hall⟩
  refine ⟨fun hlt => ?_, fun hge => ?_⟩
  · have hlt : m < zs.length := by omega
    obtain ⟨a, ha, hc⟩ := hT.2 m zs[m] (by simp [hlt])
    refine ⟨a, ha, by omega, by omega, zs[m], by simpa using hc, fun h0 => bad, fun h0 => ⟨some (blk u0), hA.c0, Size_wal hA.wl hA.dk (by omega) ?_⟩⟩
    rw [hsz]
    refine ⟨fun h1 => bad, fun h1 => Cnt.next hlt (by omega) ⟨rfl, fun x hxm => ?_⟩⟩
    rw [List.take_succ_eq_append_getElem hlt] at hxm
    rcases List.mem_append.1 hxm with hxm | hxm
    · exact hall x hxm
    · simp only [List.mem_cons, List.not_mem_nil, or_false] at hxm
      subst hxm; omega
  have hmm : m = zs.length := by omega
  subst hmm
  rw [List.take_length] at hall
  refine ⟨some (blk u0), hA.c0, Size_wal hA.wl hA.dk (by omega) ?_⟩
  rw [hsz]
  refine Clone_ints hT (by omega) fun l1 w2 hO2 hbk2 hB2 => ?_
  have h2 : St w2 (Row EI T.y_int l1 zs :: DeskS k g c D :: X) := St.rowOf h (fr_below hB2) (by rw [EI_all]; exact hO2) hbk2
  intro wa1
  replace h2 : St wa1 (Cs _ _ _ :: _) := h2.new _ _
  clear_value wa1
  refine St.app elt_int h2.sw (sl := ⟨some (blk w2.heap.size), 2, 2⟩) (ys := [0, 1]) (h2.lit (xs := [0, 1]) rfl rfl 2) rfl (by simp; omega) (by simp; omega) fun l2 w3 h3 hl3 => ?_
  have h3 := h3.d2
  have hO3 : Ints w3 l2 (zs ++ [0, 1]) := St.ints h3
  have hall2 : ∀ x ∈ zs ++ [0, 1], 0 ≤ x ∧ x < (D.bs.length : Int) := fun x hxm => by
    rcases List.mem_append.1 hxm with hxm | hxm
    · exact hall x hxm
    · simp only [List.mem_cons, List.not_mem_nil, or_false] at hxm
      rcases hxm with rfl | rfl <;> omega
  refine New_room (n := D.bs.length) (by omega) (by omega) hO3 (fun j hj => h3.own.lt hj) (by simp; omega) (fun w' hno _ => absurd hall2 hno) fun r1 fp w4 _ hr4 hfp hB4 => ?_
  have h4 : St w4 (RoomS r1 (usedL D.bs.length (zs ++ [0, 1])) :: Row EI T.y_int l2 (zs ++ [0, 1]) :: DeskS k g c D :: X) := h3.add (A := RoomS r1 _) (S := fp) hr4 (fr_below hB4) hfp
  have h4 := h4.d2
  intro wa2
  replace h4 : St wa2 (Cs _ _ _ :: _) := h4.new _ _
  clear_value wa2
  refine ⟨h4.wr0 (by simp), ?_⟩
  intro wa3
  replace h4 : St wa3 _ := h4.set0 _
  clear_value wa3
  simp only [List.set_cons_zero] at h4
  generalize w4.heap.size = v at *
  refine ⟨fun h => absurd rfl h, fun _ => ⟨some (blk r1), h4.cell0, ?_⟩⟩
  -- var, room, desk
  obtain ⟨hk2, u, r, b, hP⟩ := DeskS.parts h4.up2
  -- block, old room, map, wal, var, new room
  refine ⟨hP.wr (by simp), ?_⟩
  intro wb1
  replace hP : St wb1 _ := hP.set 1 (.pointer (some (blk r1)))
  clear_value wb1
  simp only [List.set_cons_zero, List.set_cons_succ] at hP
  have hP := hP.d2
  -- block, map, wal, var, new room
  refine ⟨some b, by rw [hP.cell]; rfl, ?_⟩
  have hlen2 : (usedL D.bs.length (zs ++ [0, 1])).length = D.bs.length := usedL_len _ _
  have hget : ∀ i, i < D.bs.length → (usedL D.bs.length (zs ++ [0, 1])).getD i false = decide ((i : Int) ∈ zs ++ [0, 1]) := fun i hi => usedL_get _ _ (fun x hxm => (hall2 x hxm).1) hi
  generalize usedL D.bs.length (zs ++ [0, 1]) = bs' at *
  refine mdelf_st (pd := fun x => !usedB bs' x) hP.sw (fun W x s hW => ?_) fun w5 h5 => ?_
  · -- block, wal, var, room
    apply E.desk_Desk_Keep_fn1
    unfold V.desk_Desk_Keep_fn1
    refine ⟨some (blk r1), by rw [hW.up2.cell0]; rfl, Used_st hW.up3 ⟨rfl, Below.refl _ _⟩⟩
  · -- map, block, wal, var, room
    have hok : DOk c { D with bs := bs', ws := D.ws.filter fun p => !(!usedB bs' p.1) } := by
      refine ⟨hk.q, by show bs'.length + 111 = _; rw [hlen2]; exact hk.len, ?_, ?_, fun x hxm => ?_, Nat.le_trans (List.length_filter_le _ _) hk.wl, hk.seq, hk.com, hk.syn, hk.many⟩
      · show bs'.getD 0 false = true
        rw [hget 0 (by omega), decide_eq_true_iff]; simp
      · show bs'.getD 1 false = true
        rw [hget 1 (by omega), decide_eq_true_iff]; simp
      · have := hk.ws x (List.mem_filter.1 hxm).1
        exact ⟨this.1, by show x.1 < (bs'.length : Int); rw [hlen2]; exact this.2.1, this.2.2⟩
    have h6 : St w5 (Cs k (dkC u r1 b D.syncs) T.y_desk_Desk :: RoomS r1 bs' :: MapS b (D.ws.filter fun p => !(!usedB bs' p.1)) :: WDS u g D :: X) := (h5.up3.drop.up3).up2
    exact hR 0 { D with bs := bs', ws := D.ws.filter fun p => !(!usedB bs' p.1) } w5 ⟨rfl, rfl, rfl, rfl, hlen2⟩ (DeskS.join (u := u) (r := r1) (b := b) hok ((WDS.to (D' := { D with bs := bs', ws := D.ws.filter fun p => !(!usedB bs' p.1) }) rfl rfl rfl h6.up3).dn3))
end
end Go.Proofs.YtmokmbhhnbcelaaGreatDoor
