/- masonrylaw21.TableNames: what it computes. -/
import Derived.Test.YtmokmbhhnbcelaaGreatDoorTr
set_option linter.unusedVariables false
namespace Go.Proofs.YtmokmbhhnbcelaaGreatDoor
open Go Go.Vc Go.RowKit Go.Lib

def two : List (List UInt8 × Int) := [([97], 5), ([99], 6)]
def twoB : List UInt8 := [2, 1, 97, 5, 0, 1, 99, 6, 0]

theorem lay_two : layNames two = (twoB, 0) := by decide +kernel
theorem read_two : readNames twoB = (two, 0) := by decide +kernel
theorem valid_yes : validN [97, 46, 98, 64, 49] = true := by decide +kernel
theorem valid_no : validN [65] = false := by decide +kernel

theorem found_two {k : Nat} (h : Found (nameP two [98]) 2 k) : k = 1 := by
  have h0 : nameP two [98] 0 = false := by decide +kernel
  have h1 : nameP two [98] 1 = true := by decide +kernel
  obtain ⟨h2, h3, h4⟩ := h
  rcases k with _ | _ | _ | k
  · rcases h4 with h4 | h4
    · cases h4
    · rw [h0] at h4; cases h4
  · rfl
  · rcases h3 with h3 | h3
    · cases h3
    · have : nameP two [98] 1 = false := h3
      rw [h1] at this; cases this
  · omega

theorem Names.cells {w : World} {g : Nat} {ns : List (List UInt8 × Int)} {t : TypeId} (h : w.heap[g]? = some (.cells ⟨nameCells ns⟩ t (0, 0))) (n : Nat) (hn : n = ns.length) : Names w ⟨some (blk g), n, n⟩ ns :=
  ⟨hn, fun j x hj => by
    obtain ⟨h1, h2⟩ := nameCells_at ns j x hj
    exact ⟨blk g, rfl, by rw [blk_cell h]; exact h1, by rw [add_add_t, blk_cell h]; exact h2⟩⟩

theorem alive_spec {w : World} {R : Bool → World → Prop} (hR : ∀ w', Below w.heap.size w w' → R true w') : F.masonrylaw21_alive w R := by
  apply E.masonrylaw21_alive
  unfold V.masonrylaw21_alive
  intro w1
  have h1 : w1.heap[w.heap.size]? = some (.cells ⟨nameCells two⟩ T.y_table_Name (0, 0)) := heap_new w _
  have hF1 : Fr no w w1 := Fr.alloc _ _ _
  have hs1 : w1.heap.size = w.heap.size + 1 := by simp [w1]
  clear_value w1
  have hB1 := below_fr hF1
  have hN1 := Names.cells h1 2 rfl
  refine Find_spec (name := [98]) hN1 (by decide) fun k w2 hk hB2 => ?_
  have hk := found_two hk
  subst hk
  refine Lay_spec (hN1.below hB2) (by decide) (by decide) fun w3 hB3 => ?_
  rw [lay_two]
  refine Read_spec (by decide) fun l w4 hO4 hl4 hB4 => ?_
  rw [read_two] at hO4 ⊢
  intro w5
  have hB13 : Below w1.heap.size w1 w3 := hB2.trans (hB3.mono hB2.size)
  have hB14 : Below w1.heap.size w1 w4 := hB13.trans (hB4.mono hB13.size)
  have hB15 : Below w1.heap.size w1 w5 := hB14.drew
  have hB : Below w.heap.size w w5 := hB1.trans (hB15.mono hB1.size)
  have hO5 : Own w5 T.y_table_Name 2 l (nameCells two) := hO4.keep (Fr.drew no _) (fun _ _ => id)
  clear_value w5
  have hN5 := Own.names hO5
  have hl5 : l.len = 2 := hN5.1
  obtain ⟨a, ha, hc1, hc2⟩ := hN5.2 1 ([99], 6) rfl
  obtain ⟨a', ha', hd1, hd2⟩ := (hN1.below hB15).2 1 ([99], 6) rfl
  refine ⟨fun _ => ⟨fun _ => ⟨fun _ => ⟨fun _ => ⟨fun _ => ?_, fun h => ?_⟩, fun h => ?_⟩, fun h => ?_⟩, fun h => ?_⟩, fun h => ?_⟩
  rotate_left
  · exfalso; rw [hl5] at h; revert h; decide
  · exfalso; revert h; decide
  · exfalso; revert h; decide
  · exfalso; revert h; decide
  · exfalso; revert h; decide
  refine ⟨a, ha, by decide, by rw [hl5]; decide, tx [99], hc1, 6, hc2, a', ha', by decide, by decide, tx [99], hd1, 6, hd2, fun _ => ?_, fun h => ?_⟩
  rotate_left
  · exfalso; rw [tx_eq] at h; revert h; decide
  refine Valid_spec (n := [97, 46, 98, 64, 49]) (by decide) fun w6 hB6 => ?_
  rw [valid_yes]
  have k : ∀ {x : World}, Below w5.heap.size w5 x → ∀ {p : Addr} {v : Value}, w5.cell? p = some v → x.cell? p = some v := fun hx p v hp => by rw [hx.cell (World.block_lt_of_cell? w5 _ hp)]; exact hp
  refine ⟨k hB6 hd1, k hB6 hd2, k hB6 hc1, k hB6 hc2, fun _ => ?_, fun h => by cases h⟩
  refine Valid_spec (n := [65]) (by decide) fun w7 hB7 => ?_
  rw [valid_no]
  have hB57 := hB6.trans (hB7.mono hB6.size)
  exact ⟨k hB57 hd1, k hB57 hd2, k hB57 hc1, k hB57 hc2, hR w7 (hB.trans (hB57.mono hB.size))⟩

end Go.Proofs.YtmokmbhhnbcelaaGreatDoor
