/- masonrylaw9.alive, WalNone: the walk. -/
import Derived.Test.YtepclihkniaieaaGreatDoorWc
set_option linter.unusedVariables false
namespace Go.Proofs.YtepclihkniaieaaGreatDoor
open Go Go.Vc Go.RowKit Go.Lib

theorem lastE_ok {n : Int} {ws : List Wr1} (h : ∀ x ∈ ws, 0 ≤ x.1 ∧ x.1 < n ∧ x.2.length = 256) (hl : (nextT (keysW ws)).length ≤ 110) : lastE n ws = 0 := by
  have e : ws.find? (fun x => decide (badW n x ≠ 0)) = none := by
    rw [List.find?_eq_none]
    intro x hx
    have := h x hx
    have : badW n x = 0 := by unfold badW; rw [if_neg (by omega), if_neg (by omega)]
    simp [this]
  unfold lastE
  rw [e]
  simp only
  rw [if_neg (by omega)]

theorem Read_home {w : World} {u g : Nat} {s : WlS} {fp : Nat → Prop} {d : Ds} (h : Wl w u g s) (hd : Dsk w g fp d) (hn : d.l.length ≤ 1000000) (hoff : d.off = false) (hdown : s.down = false) {i : Nat} (hi : 111 + i < d.l.length) {R : ByteArray → Int → World → Prop}
    (hR : R (tx (homeAt d i)) 0 w) : F.wal_Wal_Read (some (blk u)) (i : Int) w R := by
  refine Read_wal h hd hn ?_
  have hs : sizeD d = (d.l.length : Int) - 111 := rfl
  have e : readE d s.down (i : Int) = 0 := by unfold readE; rw [if_neg (by simp [hdown]), if_neg (by omega), if_neg (by simp [hoff])]
  rw [e, if_pos rfl]
  exact hR

theorem Open_quiet {w : World} {g : Nat} {fp : Nat → Prop} {d : Ds} {seq : Int} (hd : Dsk w g fp d) (hq : Quiet d seq)
    {R : Option Addr → Int → World → Prop} (hR : ∀ u w', Wl w' u g ⟨seq, false, 0⟩ → w.heap.size ≤ u → Below w.heap.size w w' → R (some (blk u)) 0 w') : F.wal_Open (some (blk g)) w R :=
  Open_ok hd hq.off (by have := hq.lo; omega) hq.head (by rw [hq.hlen]; decide) hR

set_option maxHeartbeats 1000000 in
theorem alive9_spec {w : World} {R : Bool → World → Prop} (hR : ∀ w', Below w.heap.size w w' → R true w') : F.masonrylaw9_alive w R := by
  apply E.masonrylaw9_alive
  unfold V.masonrylaw9_alive
  refine New_disk (n := 150) (by decide) (by decide) fun g L S w1 hD1 hfp1 hB1 => ?_
  have hd1 : Dsk w1 g (fpD g L S ⟨none, 0, 0⟩) (newD 150) := ⟨L, S, _, hD1, rfl⟩
  generalize fpD g L S ⟨none, 0, 0⟩ = fp at *
  have hq1 : Quiet (newD 150) 0 := Quiet.new (by decide) (by decide)
  have hlen : (newD 150).l.length = 150 := List.length_replicate
  generalize hd0 : newD 150 = d at *
  refine Open_quiet hd1 hq1 fun u w2 hu2 hub hB2 => ⟨fun h => by simp at h, fun _ => ⟨fun h => by simp at h, fun _ => ⟨fun h => by simp at h, fun _ => ?_⟩⟩⟩
  refine Fill_spec (s := [97]) (by decide) fun w3 hB3 => ?_
  refine Fill_spec (s := [98]) (by decide) fun w4 hB4 => ?_
  intro w5
  have h5 : w5.heap[w4.heap.size]? = some (.cells ⟨wrCells [(0, fillS [97]), (5, fillS [98])]⟩ T.y_api_Write (0, 0)) := heap_new w4 _
  have hF5 : Fr no w4 w5 := Fr.alloc no w4 _
  clear_value w5
  have s1 := hB1.size
  have s2 := hB2.size
  have s3 := hB3.size
  have s4 := hB4.size
  have s5 := hF5.size
  have hB25 : Below w2.heap.size w2 w5 := (hB3.trans (hB4.mono s3)).trans ((below_fr hF5).mono (by omega))
  have hd5 := (hd1.below hB2).below hB25
  have hu5 := hu2.below hB25
  have hE : lastE (sizeD d) [(0, fillS [97]), (5, fillS [98])] = 0 := by
    refine lastE_ok (fun x hx => ?_) (Nat.le_trans (nextT_len _) (by decide))
    have hs : sizeD d = 39 := by unfold sizeD; rw [hlen]; decide
    rw [hs]
    simp only [List.mem_cons, List.not_mem_nil, or_false] at hx
    rcases hx with rfl | rfl
    · exact ⟨by decide, by show (0 : Int) < 39; decide, fillS_len _⟩
    · exact ⟨by decide, by show (5 : Int) < 39; decide, fillS_len _⟩
  refine Commit_wal (sl := ⟨some (blk w4.heap.size), 2, 2⟩) hu5 hd5 hq1.off (Wrs.row h5 2 2 rfl) (fun k hk => by
    obtain ⟨a, ha, rfl⟩ := hk
    injection ha with ha
    subst ha
    exact heap_lt h5) (by decide) (by omega) (by omega) (by decide) (by decide) (by decide) (by decide) hq1.many (by rw [← hd0]; decide) (by rw [hq1.ws]; decide) (fun w' hne => absurd hE hne) (fun w' he => by simp at he) fun fp6 w6 _ _ hd6 hu6 hG6 => ?_
  obtain ⟨hq6, hl6, hm6, hh6⟩ := commit_facts hq1 (by decide) (by decide) hE
  generalize commitD d 0 [(0, fillS [97]), (5, fillS [98])] = d6 at *
  have h65 : homeAt d6 5 = fillS [98] := by
    rw [hh6 5 (by rw [hlen]; decide), if_pos (by simp [keysW])]
    simp [lastW]
  refine Open_quiet hd6 hq6 fun v w7 hv7 hvb hB7 => ⟨fun h => by simp at h, fun _ => ⟨fun h => by simp at h, fun _ => ⟨fun h => by simp at h, fun _ => ?_⟩⟩⟩
  have hd7 := hd6.below hB7
  have hu7 := hu6.below hB7
  refine Read_home (i := 5) hv7 hd7 (by omega) hq6.off rfl (by rw [hl6, hlen]; decide) ⟨fun _ => ?_, fun h => by simp at h⟩
  rw [h65]
  refine ⟨fun _ => ?_, fun h => by rw [tx_eq] at h; simp at h⟩
  refine Seq_wal hv7 ⟨fun _ => ?_, fun h => by simp at h⟩
  refine Size_wal hv7 hd7 (by omega) ⟨fun _ => ?_, fun h => by
    have hs : sizeD d6 = 39 := by unfold sizeD; rw [hl6, hlen]; decide
    rw [hs] at h; simp at h⟩
  refine Commits_wal hu7 ⟨fun _ => ?_, fun h => by simp at h⟩
  refine Up_wal hu7 ?_
  refine hR w7 ?_
  have hul := hu5.lt
  have hB05 := (hB1.trans (hB2.mono s1)).trans (hB25.mono (by omega))
  have hB06 := hB05.trans (hG6.fr.toBelow (B := w.heap.size) (fun k hk => by
    rcases hk with hk | hk
    · exact hfp1 k hk
    · omega) (by omega))
  exact hB06.trans (hB7.mono hB06.size)

section
variable {w : World}
theorem Read_nil {at_ : Int} {R : ByteArray → Int → World → Prop} (hR : R sNil 1 w) : F.wal_Wal_Read none at_ w R := by
  apply E.wal_Wal_Read
  unfold V.wal_Wal_Read
  exact ⟨fun _ => hR, fun h => by simp at h⟩
theorem Commit_nil {l : Sl} {R : Int → World → Prop} (hR : R 1 w) : F.wal_Wal_Commit none l w R := by
  apply E.wal_Wal_Commit
  unfold V.wal_Wal_Commit
  exact ⟨fun _ => hR, fun h => by simp at h⟩
theorem Size_nil {R : Int → World → Prop} (hR : R 0 w) : F.wal_Wal_Size none w R := by
  apply E.wal_Wal_Size
  unfold V.wal_Wal_Size
  exact ⟨fun _ => hR, fun h => by simp at h⟩
theorem Seq_nil {R : Int → World → Prop} (hR : R 0 w) : F.wal_Wal_Seq none w R := by
  apply E.wal_Wal_Seq
  unfold V.wal_Wal_Seq
  exact ⟨fun _ => hR, fun h => by simp at h⟩
theorem Commits_nil {R : Int → World → Prop} (hR : R 0 w) : F.wal_Wal_Commits none w R := by
  apply E.wal_Wal_Commits
  unfold V.wal_Wal_Commits
  exact ⟨fun _ => hR, fun h => by simp at h⟩
theorem Up_nil {R : Bool → World → Prop} (hR : R false w) : F.wal_Wal_Up none w R := by
  apply E.wal_Wal_Up
  unfold V.wal_Wal_Up
  exact ⟨fun h => by simp at h, fun _ => hR⟩

theorem WalNone_spec {at_ x0 : Int} {x : Bs} {R : Bool → World → Prop} (hR : ∀ w', Below w.heap.size w w' → R true w') : F.masonrylaw9_WalNone at_ x0 (tx x) w R := by
  apply E.masonrylaw9_WalNone
  unfold V.masonrylaw9_WalNone
  intro w1
  have h1 : w1.heap[w.heap.size]? = some (.cells ⟨wrCells [(x0, x)]⟩ T.y_api_Write (0, 0)) := heap_new w _
  have hB1 : Below w.heap.size w w1 := below_fr (Fr.alloc no w _)
  clear_value w1
  have s1 := hB1.size
  refine ⟨tx x, by rw [blk_cell h1]; rfl, fun _ => alive9_spec fun w2 hB2 => hR w2 (hB1.trans (hB2.mono s1)), fun _ => alive9_spec fun w2 hB2 => ⟨fun h => by simp at h, fun _ => Open_none ?_⟩⟩
  have h2 := (fr_below hB2).heap h1 id
  refine New_disk (n := 140) (by decide) (by decide) fun g L S w3 hD3 hfp3 hB3 => ⟨fun h => by simp at h, fun _ => ⟨fun h => by simp at h, fun _ => ?_⟩⟩
  have h3 := (fr_below hB3).heap h2 id
  refine Crash_disk hD3 rfl rfl (by show (List.replicate 140 zeroS).length ≤ _; rw [List.length_replicate]; decide) fun L' w4 hD4 hbk4 hF4 => ?_
  have hg3 := hfp3 g (.inl rfl)
  have hg : ¬ w.heap.size = g := fun e => by have := heap_lt h2; omega
  have h4 := hF4.heap h3 hg
  have hB2' := hB1.trans (hB2.mono s1)
  have s2 := hB2'.size
  have hB3' := hB2'.trans (hB3.mono s2)
  have hB4 := hB3'.trans (hF4.toBelow (B := w.heap.size) (fun k hk => by have : k = g := hk; omega) hB3'.size)
  refine Open_off ⟨_, _, _, hD4, rfl⟩ rfl (Read_nil ⟨fun _ => ⟨fun _ => ⟨fun _ => ⟨fun _ => ⟨fun _ => ⟨x0, by rw [blk_cell0 h4]; rfl, tx x, by rw [blk_cell h4]; rfl, ?_⟩, fun h => by simp at h⟩, fun h => by simp at h⟩, fun h => by simp at h⟩, fun h => by simp at h⟩, fun h => by simp at h⟩)
  intro w5
  have hB5 := hB4.trans ((below_fr (Fr.alloc no w4 (.cells #[.int .i64 x0, .string (tx x)] T.y_api_Write))).mono hB4.size)
  refine Commit_nil ⟨fun _ => Size_nil (Seq_nil (Commits_nil ⟨fun _ => Up_nil (hR _ hB5), fun h => ?_⟩)), fun h => by simp at h⟩
  have e : w64 (w64 ((0 : Int) + 0) + 0) = 0 := by decide
  rw [e] at h
  simp at h
end

end Go.Proofs.YtepclihkniaieaaGreatDoor
