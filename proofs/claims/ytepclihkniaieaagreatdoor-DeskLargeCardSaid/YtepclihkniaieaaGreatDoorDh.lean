/- DeskLarge: the walk. -/
import Derived.Test.YtepclihkniaieaaGreatDoorDg
set_option linter.unusedVariables false
namespace Go.Proofs.YtepclihkniaieaaGreatDoor
open Go Go.Vc Go.RowKit Go.Lib Go.Maps Go.Proofs

def from2 (m : Nat) : List Int := (List.range m).map fun (i : Nat) => ((2 + i : Nat) : Int)
theorem from2_succ (m : Nat) : from2 (m + 1) = from2 m ++ [((2 + m : Nat) : Int)] := by simp [from2, List.range_succ]
theorem from2_nodup (m : Nat) : (from2 m ++ [1]).Nodup := by
  rw [List.nodup_append]
  refine ⟨?_, by simp, fun a ha b hb => ?_⟩
  · unfold from2
    rw [List.nodup_iff_pairwise_ne, List.pairwise_map]
    exact (List.nodup_iff_pairwise_ne.1 List.nodup_range).imp fun h => by omega
  · simp only [from2, List.mem_map, List.mem_range] at ha
    obtain ⟨i, hi, rfl⟩ := ha
    simp only [List.mem_cons, List.not_mem_nil, or_false] at hb
    subst hb
    omega

/-- a desk on which m sectors are new -/
structure Many (D0 D : DkV) (N m : Nat) : Prop where
  d : D.d = D0.d
  seq : D.seq = D0.seq
  com : D.commits = D0.commits
  len : D.bs.length = N
  bit : ∀ i, i < N → D.bs.getD i false = decide (i < m + 2)
  keys : keysW D.ws = from2 m

theorem Many.free {D0 D : DkV} {N m : Nat} (h : Many D0 D N m) (hm : m + 2 < N) : freeAt D.bs = m + 2 := by
  refine freeAt_eq (fun i hi => ?_) ?_
  · have h2 := h.bit i (by omega)
    rw [decide_eq_true (by omega)] at h2
    have h3 : i < D.bs.length := by rw [h.len]; omega
    have e : D.bs.getD i false = D.bs[i] := by simp [h3]
    rw [List.getElem?_eq_getElem h3, ← e, h2]
  · have h2 := h.bit (m + 2) (by omega)
    rw [decide_eq_false (by omega)] at h2
    have h3 : m + 2 < D.bs.length := by rw [h.len]; omega
    have e : D.bs.getD (m + 2) false = D.bs[m + 2] := by simp [h3]
    rw [List.getElem?_eq_getElem h3, ← e, h2]

theorem Many.step {D0 D : DkV} {N m : Nat} (h : Many D0 D N m) (hm : m + 2 < N) (data : Bs) : Many D0 { D with bs := D.bs.set (m + 2) true, ws := D.ws ++ [(((m + 2 : Nat) : Int), data)] } N (m + 1) where
  d := h.d
  seq := h.seq
  com := h.com
  len := by show (D.bs.set _ _).length = _; rw [List.length_set]; exact h.len
  bit := fun i hi => by
    show (D.bs.set (m + 2) true).getD i false = _
    have h2 := h.bit i hi
    by_cases he : m + 2 = i
    · subst he
      have h3 : m + 2 < D.bs.length := by rw [h.len]; exact hi
      rw [decide_eq_true (by omega)]
      simp [h3]
    · have e : (D.bs.set (m + 2) true).getD i false = D.bs.getD i false := by
        simp only [List.getD_eq_getElem?_getD]
        rw [List.getElem?_set_ne he]
      rw [e, h2]
      have : decide (i < m + 2) = decide (i < m + 1 + 2) := by rw [Bool.eq_iff_iff]; simp; omega
      rw [this]
  keys := by
    show keysW (D.ws ++ _) = _
    rw [from2_succ, ← h.keys]
    have : m + 2 = 2 + m := Nat.add_comm _ _
    simp [keysW, this]

theorem Many.written {D0 D : DkV} {N m : Nat} (h : Many D0 D N m) (hm1 : 1 ≤ m) (hN : 3 ≤ N) (hN2 : N ≤ 1900) (hroom : homeAt D0.d 1 = layRoom (bs0 N)) : (YtepclihkniaieaaGreatDoor.written D).length = m + 1 := by
  have hne : ¬ homeAt D.d 1 = layRoom D.bs := fun e => by
    rw [h.d, hroom] at e
    have := layRoom_inj (by rw [h.len, bs0_len]) (by rw [bs0_len]; exact hN2) e
    have h1 : (bs0 N).getD 2 false = D.bs.getD 2 false := congrArg (fun l : List Bool => l.getD 2 false) this
    rw [h.bit 2 (by omega), decide_eq_true (by omega)] at h1
    have := free_false (bs := bs0 N) (by rw [free_bs0 hN, bs0_len]; omega)
    rw [free_bs0 hN] at this
    rw [this] at h1
    cases h1
  unfold YtepclihkniaieaaGreatDoor.written
  rw [if_neg hne, normW_len]
  have e : keysW (D.ws ++ [((1 : Int), layRoom D.bs)]) = from2 m ++ [1] := by rw [← h.keys]; simp [keysW]
  rw [e, nextT_nodup (from2_nodup m)]
  simp [from2]

set_option maxHeartbeats 4000000 in
theorem DeskLarge_spec {w : World} {n : Int} {R : Bool → World → Prop} (hR : ∀ w', Below w.heap.size w w' → R true w') : F.masonrylaw11_DeskLarge n w R := by
  apply E.masonrylaw11_DeskLarge
  unfold V.masonrylaw11_DeskLarge
  refine ⟨fun _ => alive11_spec hR, fun h1 => ⟨fun _ => alive11_spec hR, fun h2 => alive11_spec fun w1 hB1 => ⟨fun h => by simp at h, fun _ => ?_⟩⟩⟩
  have h1 := of_decide_eq_false h1
  have h2 := of_decide_eq_false h2
  obtain ⟨N, rfl⟩ : ∃ N : Nat, n = N := ⟨n.toNat, by omega⟩
  have hN1 : 1 ≤ N := by omega
  have hN2 : N ≤ 160 := by omega
  clear h1 h2
  refine New_disk (n := 400) (by decide) (by decide) fun g L S w2 hD2 hfp2 hB2 => ⟨fun h => by simp at h, fun _ => ⟨fun h => by simp at h, fun _ => ?_⟩⟩
  have hd2 : Dsk w2 g (fpD g L S ⟨none, 0, 0⟩) (newD 400) := ⟨L, S, _, hD2, rfl⟩
  generalize fpD g L S ⟨none, 0, 0⟩ = fpd at *
  have hq2 : Quiet (newD 400) 0 := Quiet.new (by decide) (by decide)
  have hlen : (newD 400).l.length = 400 := List.length_replicate
  have hmany : (newD 400).many ≤ 1000 := by decide
  generalize hd0 : newD 400 = d at *
  refine Format_desk hd2 hq2 (by decide) (by omega) fun k u r b fpd3 fpr w3 h3 hnew3 hG3 => ⟨fun h => by simp at h, fun _ => ⟨fun h => by simp at h, fun _ => ⟨blk k, rfl, some (blk u), h3.c0, fun h => by simp at h, fun _ => ?_⟩⟩⟩
  have hk3 := fmt_ok hq2 (by decide) hmany
  have hroom := fmt_room hq2 (by decide)
  have hr289 : bs0 (d.l.length - 111) = bs0 289 := by rw [hlen]
  have hM0 : Many (fmtD d 0 (d.l.length - 111)) (fmtD d 0 (d.l.length - 111)) 289 0 := by
    refine ⟨rfl, rfl, rfl, ?_, fun i hi => ?_, rfl⟩
    · show (bs0 _).length = _; rw [hr289, bs0_len]
    · show (bs0 _).getD i false = _
      rw [hr289]
      unfold bs0
      rw [usedL_get _ _ (by simp) hi, Bool.eq_iff_iff]
      simp
      omega
  rw [hr289] at hroom
  generalize fmtD d 0 (d.l.length - 111) = D0 at *
  have s1 := hB1.size
  have s2 := hB2.size
  have s3 := hG3.size
  have hlo : ∀ j, fpK k u b fpd3 fpr j → w.heap.size ≤ j := fun j hj => by
    rcases hj with rfl | rfl | rfl | hj | hj
    · have := hnew3 j (.inl rfl); omega
    · have := hnew3 j (.inr (.inl rfl)); omega
    · have := hnew3 j (.inr (.inr (.inl rfl))); omega
    · rcases hG3.new j hj with h | h
      · have := hfp2 j h; omega
      · omega
    · have := hnew3 j (.inr (.inr (.inr hj))); omega
  have b2 := hB1.trans (hB2.mono s1)
  have b3 := b2.trans (hG3.fr.toBelow (B := w.heap.size) (fun j hj => by have := hfp2 j hj; omega) b2.size)
  refine ⟨fun i w' => ∃ (m : Nat) (D : DkV), i = m ∧ m ≤ N ∧ DeskA w' k u g r b fpd3 fpr D ∧ DOk (1001 + m) D ∧ Many D0 D 289 m ∧ Below w.heap.size w w', fun i _ => (N - i).toNat, ⟨0, D0, rfl, Nat.zero_le _, h3, hk3, hM0, b3⟩, ?_⟩
  rintro i w4 ⟨m, D, rfl, hm, h4, hk4, hM4, b4⟩
  refine ⟨fun hlt => ?_, fun hge => ?_⟩
  · have hlt : m < N := by have := of_decide_eq_true hlt; omega
    have e1 : w64 ((m : Int) + 1) = ((m + 1 : Nat) : Int) := by rw [w64_id (by omega) (by omega)]; omega
    have e2 : w64 ((2 : Int) + (m : Int)) = ((m + 2 : Nat) : Int) := by rw [w64_id (by omega) (by omega)]; omega
    rw [e1, e2]
    refine Fill_spec (s := [120]) (by decide) fun w5 hB5 => ?_
    have h5 := h4.below hB5
    have hf := hM4.free (by omega)
    have hbl := hM4.len
    refine New_desk h5 hk4 (by omega) (by rw [fillS_len]; decide) (fun h => absurd (fillS_len _) h) (fun _ h => by rw [hf, hbl] at h; omega) fun w6 _ hlt6 h6 hG6 => ⟨fun h => by simp at h, fun _ => ?_⟩
    have hk6 := hk4.new hlt6 (fillS_len [120])
    rw [hf] at h6 hk6 ⊢
    have b5 := b4.trans (hB5.mono b4.size)
    refine ⟨fun h => by simp at h, fun _ => ⟨⟨m + 1, _, rfl, hlt, h6, hk6, hM4.step (by omega) _, b5.trans (hG6.fr.toBelow (B := w.heap.size) hlo b5.size)⟩, ?_⟩⟩
    show ((N : Int) - ((m + 1 : Nat) : Int)).toNat < ((N : Int) - (m : Int)).toNat
    omega
  have hmm : m = N := by have := of_decide_eq_false hge; omega
  subst hmm
  have hwl := hM4.written hN1 (by decide) (by decide) hroom
  intro w5
  have h5 : DeskA w5 k u g r b fpd3 fpr D := h4.keep (Fr.drew no w4) (fun _ _ => id)
  have b5 : Below w.heap.size w w5 := b4.drew
  clear_value w5
  have en : w64 ((m : Int) + 1) = ((m + 1 : Nat) : Int) := by rw [w64_id (by omega) (by omega)]; omega
  rw [en]
  have hcm := hk4.com
  have hmn := hk4.many
  have hmn0 := hk4.q.many
  refine ⟨blk k, rfl, some (blk u), h5.c0, Writes_disk h5.dk ⟨h5.c0, Commits_wal h5.wl (Sync_desk h5 hk4 (by omega) (fun w6 hgt h6 hB6 => ?_) fun b6 fpd6 w6 hle h6 hG6 => ?_)⟩⟩
  · have b6 := b5.trans (hB6.mono b5.size)
    refine ⟨fun _ => ⟨fun _ => Writes_disk h6.dk ⟨fun _ => Dirty_desk h6 hk4 (by omega) fun l7 w7 hO7 hbk7 hB7 => ?_, fun h => by simp at h⟩, fun h => by simp at h⟩, fun h => by have := of_decide_eq_false h; omega⟩
    have hl7 := (Own.ints hO7).1
    rw [keysW, List.length_map, hwl] at hl7
    refine ⟨fun _ => Bad_desk (h6.below hB7) (hR w7 (b6.trans (hB7.mono b6.size))), fun h => by rw [hl7] at h; simp at h⟩
  · have hcl := sync_clean hk4 (by omega) hle
    have hk6 := hk4.sync (by omega) hle
    have hne : ¬ written D = [] := fun e => by rw [e] at hwl; simp at hwl
    have hcom : (syncD D).commits = D.commits + 1 := by unfold syncD; rw [if_neg hne]
    have hmany6 : (syncD D).d.many = D.d.many + 2 * ((m + 1 : Nat) : Int) + 2 := by
      obtain ⟨q1, q2, q3, q4⟩ := commit_facts hk4.q hk4.seq.1 (by have := hk4.seq.2; omega) (written_E hk4 hle)
      rw [written_keys, keysW, List.length_map, hwl] at q3
      unfold syncD
      rw [if_neg hne]
      exact q3
    have b6 := b5.trans (hG6.fr.toBelow (B := w.heap.size) hlo b5.size)
    refine ⟨fun h => by have := of_decide_eq_true h; omega, fun _ => ⟨fun _ => Dirty_desk h6 hk6 (by omega) fun l7 w7 hO7 hbk7 hB7 => ?_, fun h => by simp at h⟩⟩
    have h7 := h6.below hB7
    rw [hcl] at hO7
    have hl7 := (Own.ints hO7).1
    refine ⟨fun _ => ⟨blk k, rfl, some (blk u), h7.c0, Commits_wal h7.wl ⟨fun _ => Writes_disk h7.dk ?_, fun h => ?_⟩⟩, fun h => by rw [hl7] at h; simp [keysW] at h⟩
    · have e : (w64 ((syncD D).d.many - D.d.many) == w64 (w64 ((2 : Int) * ((m + 1 : Nat) : Int)) + 2)) = true := by
        rw [hmany6]
        have a1 : w64 ((2 : Int) * ((m + 1 : Nat) : Int)) = 2 * ((m + 1 : Nat) : Int) := w64_id (by omega) (by omega)
        rw [a1, w64_id (by omega) (by omega), w64_id (by omega) (by omega), beq_iff_eq]
        omega
      rw [e]
      exact hR w7 (b6.trans (hB7.mono b6.size))
    · exfalso
      have h : ((syncD D).commits == w64 (D.commits + 1)) = false := h
      rw [hcom, w64_id (by omega) (by omega)] at h
      simp at h

end Go.Proofs.YtepclihkniaieaaGreatDoor
