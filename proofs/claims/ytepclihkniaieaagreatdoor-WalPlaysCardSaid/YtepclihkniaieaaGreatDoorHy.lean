/- masonrylaw8.alive. -/
import Derived.Test.YtepclihkniaieaaGreatDoorHx
set_option linter.unusedVariables false
namespace Go.Proofs.YtepclihkniaieaaGreatDoor
open Go Go.Vc Go.RowKit Go.Lib

theorem head3 {w : World} {g : Nat} {n : Int} {f : Bool} {l : Sl} {t : TypeId} (h : w.heap[g]? = some (.cells ⟨[.int .i64 n, .bool f, .slice l.a l.len l.cap]⟩ t (0, 0))) :
    w.cell? (blk g) = some (.int .i64 n) ∧ w.cell? ((blk g).add 1) = some (.bool f) ∧ w.cell? ((blk g).add 2) = some (.slice l.a l.len l.cap) :=
  ⟨by rw [blk_cell0 h]; rfl, by rw [blk_cell h]; rfl, by rw [blk_cell h]; rfl⟩

theorem next_737 : nextT [7, 3, 7] = [3, 7] := by
  obtain ⟨h1, h2⟩ := nextT_up [7, 3, 7]
  refine up_ext h1 (by simp [Up]) fun x => ?_
  rw [h2]
  simp only [List.mem_cons, List.not_mem_nil, or_false]
  omega

theorem alive8_spec {w : World} {R : Bool → World → Prop} (hR : ∀ w', Below w.heap.size w w' → R true w') : F.masonrylaw8_alive w R := by
  apply E.masonrylaw8_alive
  unfold V.masonrylaw8_alive
  intro w1
  have h1 : w1.heap[w.heap.size]? = some (.cells ⟨intCells [7, 3, 7]⟩ T.y_int (0, 0)) := heap_new w _
  have hB1 : Below w.heap.size w w1 := below_fr (Fr.alloc no w _)
  clear_value w1
  refine Next_head (zs := [7, 3, 7]) (Ints.row h1 3 3 rfl) (by decide) (by decide) (by decide) fun l w2 hO2 hbk2 hB2 => ?_
  rw [next_737] at hO2
  have hB02 := hB1.trans (hB2.mono hB1.size)
  intro w3
  have h3 : w3.heap[w2.heap.size]? = some (.cells ⟨[.int .i64 0, .bool false, .slice none 0 0]⟩ T.y_head_Head (0, 0)) := heap_new w2 _
  have hF3 : Fr no w2 w3 := Fr.alloc no w2 _
  clear_value w3
  obtain ⟨k1, k2, k3, h4, hF4⟩ := set3 h3 (4 + 1) true l
  refine ⟨k1, ?_⟩
  intro _
  refine ⟨k2, ?_⟩
  intro _
  refine ⟨k3, ?_⟩
  intro w4
  have h4 : w4.heap[w2.heap.size]? = some (.cells ⟨[.int .i64 (4 + 1), .bool true, .slice l.a l.len l.cap]⟩ T.y_head_Head (0, 0)) := h4
  have hF4 : Fr (· = w2.heap.size) w3 w4 := hF4
  clear_value w4
  have hlt2 : ∀ k, l.bk k → k < w2.heap.size := fun k hk => hO2.lt hk
  have hO4 := (hO2.keep hF3 (fun _ _ => id)).keep hF4 (fun k hk h => by have := hlt2 k hk; have : k = w2.heap.size := h; omega)
  have hB3 := hB02.trans ((below_fr hF3).mono hB02.size)
  have hB4 := hB3.trans (hF4.toBelow (B := w.heap.size) (fun k hk => by have : k = w2.heap.size := hk; have := hB02.size; omega) hB3.size)
  obtain ⟨c0, c1, c2⟩ := head3 h4
  refine ⟨4 + 1, c0, true, c1, l, c2, ?_⟩
  have hv : validH ⟨4 + 1, true, [3, 7]⟩ = true := by decide
  have el : layHead ⟨4 + 1, true, [3, 7]⟩ = (sealS 256 (headBytes ⟨4 + 1, true, [3, 7]⟩), 0) := by simp only [layHead, hv, if_true]
  have er := read_lay hv
  refine Lay_head (Own.ints hO4) (fun k hk => hO4.lt hk) fun w6 hB6 => ?_
  have hB06 := hB4.trans (hB6.mono hB4.size)
  have hlen : (layHead ⟨4 + 1, true, [3, 7]⟩).1.length ≤ 1000000000 := by
    rw [el]
    simp only
    rw [sealS_len (by decide) (by rw [headBytes_len]; decide)]
    decide
  refine Read_head hlen fun l2 w7 hO7 hbk7 hB7 => ?_
  rw [er] at hO7 ⊢
  have e0 : (layHead ⟨4 + 1, true, [3, 7]⟩).2 = 0 := by rw [el]
  rw [e0]
  have hB07 := hB06.trans (hB7.mono hB06.size)
  have h7 := (fr_below hB7).heap ((fr_below hB6).heap h4 id) id
  have hO47 := (hO4.keep (fr_below hB6) (fun _ _ => id)).keep (fr_below hB7) (fun _ _ => id)
  intro w8
  have h8 : w8.heap[w7.heap.size]? = some (.cells ⟨[.int .i64 0, .bool false, .slice none 0 0]⟩ T.y_head_Head (0, 0)) := heap_new w7 _
  have hF8 : Fr no w7 w8 := Fr.alloc no w7 _
  clear_value w8
  obtain ⟨k1, k2, k3, h9, hF9⟩ := set3 h8 (4 + 1) true l2
  refine ⟨k1, ?_⟩
  intro _
  refine ⟨k2, ?_⟩
  intro _
  refine ⟨k3, ?_⟩
  intro w9
  have h9 : w9.heap[w7.heap.size]? = some (.cells ⟨[.int .i64 (4 + 1), .bool true, .slice l2.a l2.len l2.cap]⟩ T.y_head_Head (0, 0)) := h9
  have hF9 : Fr (· = w7.heap.size) w8 w9 := hF9
  clear_value w9
  have hB8 := hB07.trans ((below_fr hF8).mono hB07.size)
  have hB9 := hB8.trans (hF9.toBelow (B := w.heap.size) (fun k hk => by have : k = w7.heap.size := hk; have := hB07.size; omega) hB8.size)
  have hlt7 := heap_lt h7
  have h79 := hF9.heap (hF8.heap h7 id) (fun h => by have : w2.heap.size = w7.heap.size := h; omega)
  obtain ⟨d0, d1, d2⟩ := head3 h79
  obtain ⟨e0, e1, e2⟩ := head3 h9
  have hO49 := (hO47.keep hF8 (fun _ _ => id)).keep hF9 (fun k hk h => by have := hlt2 k hk; have : k = w7.heap.size := h; omega)
  have hl : l.len = 2 := (Own.ints hO49).1
  have hl2 : l2.len = 2 := (Own.ints hO7).1
  obtain ⟨a, ha, hc⟩ := (Own.ints hO49).2 0 3 rfl
  refine ⟨4 + 1, d0, fun _ => ⟨true, d1, fun _ => ⟨l, d2, fun _ => ⟨l, d2, a, ha, by decide, by rw [hl]; decide, 3, hc, fun _ => ⟨fun _ => ⟨fun _ => ⟨4 + 1, e0, fun _ => ⟨l2, e2, ?_⟩, fun h => absurd h (by decide)⟩, fun h => absurd h (by decide)⟩, fun h => absurd h (by decide)⟩, fun h => absurd h (by decide)⟩, fun h => ?_⟩, fun h => by cases h⟩, fun h => absurd h (by decide)⟩
  · have : (((l2.len : Nat) : Int) == 2) = true := by rw [hl2]; rfl
    rw [this]
    exact hR _ hB9
  · rw [hl] at h; exact absurd h (by decide)

theorem lay_ok {h : Hd} (hv : validH h = true) : layHead h = (sealS 256 (headBytes h), 0) ∧ (layHead h).1.length = 256 := by
  have el : layHead h = (sealS 256 (headBytes h), 0) := by simp only [layHead, hv, if_true]
  have h3 := ((validH_iff h).1 hv).2.2.1
  exact ⟨el, by rw [el]; exact sealS_len (by decide) (by rw [headBytes_len]; omega)⟩

end Go.Proofs.YtepclihkniaieaaGreatDoor
