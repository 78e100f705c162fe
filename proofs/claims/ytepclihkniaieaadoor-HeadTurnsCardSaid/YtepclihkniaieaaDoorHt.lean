/- masonrylaw8: alive, same2, HeadTurns: what they compute. -/
import Derived.Test.YtepclihkniaieaaDoorHx
set_option linter.unusedVariables false
namespace Go.Proofs.YtepclihkniaieaaDoor
open Go Go.Vc Go.RowKit Go.Lib

theorem head3 {w : World} {g : Nat} {n : Int} {f : Bool} {l : Sl} {t : TypeId} (h : w.heap[g]? = some (.cells ⟨[.int .i64 n, .bool f, .slice l.a l.len l.cap]⟩ t (0, 0))) :
    w.cell? (blk g) = some (.int .i64 n) ∧ w.cell? ((blk g).add 1) = some (.bool f) ∧ w.cell? ((blk g).add 2) = some (.slice l.a l.len l.cap) :=
  ⟨by rw [blk_cell0 h]; rfl, by rw [blk_cell h]; rfl, by rw [blk_cell h]; rfl⟩

theorem next_737 : nextT [7, 3, 7] = [3, 7] := by
  obtain ⟨h1, h2⟩ := nextT_up [7, 3, 7]
  refine up_ext h1 (by simp [Up]) fun x => ?_
  rw [h2]
  simp only [List.mem_cons, List.not_mem_nil, or_false]
  omega

theorem alive8_spec {w : World} {R : Bool → World → Prop} (hR : ∀ w', Below w.heap.size w w' → R true w') : F.masonrylaw8_alive w R := by
  apply E.masonrylaw8_alive
  unfold V.masonrylaw8_alive
  intro w1
  have h1 : w1.heap[w.heap.size]? = some (.cells ⟨intCells [7, 3, 7]⟩ T.y_int (0, 0)) := heap_new w _
  have hB1 : Below w.heap.size w w1 := below_fr (Fr.alloc no w _)
  clear_value w1
  refine Next_head (zs := [7, 3, 7]) (Ints.row h1 3 3 rfl) (by decide) (by decide) (by decide) fun l w2 hO2 hbk2 hB2 => ?_
  rw [next_737] at hO2
  have hB02 := hB1.trans (hB2.mono hB1.size)
  intro w3
  have h3 : w3.heap[w2.heap.size]? = some (.cells ⟨[.int .i64 0, .bool false, .slice none 0 0]⟩ T.y_head_Head (0, 0)) := heap_new w2 _
  have hF3 : Fr no w2 w3 := Fr.alloc no w2 _
  clear_value w3
  obtain ⟨k1, k2, k3, h4, hF4⟩ := set3 h3 (4 + 1) true l
  refine ⟨k1, ?_⟩
  intro _
  refine ⟨k2, ?_⟩
  intro _
  refine ⟨k3, ?_⟩
  intro w4
  have h4 : w4.heap[w2.heap.size]? = some (.cells ⟨[.int .i64 (4 + 1), .bool true, .slice l.a l.len l.cap]⟩ T.y_head_Head (0, 0)) := h4
  have hF4 : Fr (· = w2.heap.size) w3 w4 := hF4
  clear_value w4
  have hlt2 : ∀ k, l.bk k → k < w2.heap.size := fun k hk => hO2.lt hk
  have hO4 := (hO2.keep hF3 (fun _ _ => id)).keep hF4 (fun k hk h => by have := hlt2 k hk; have : k = w2.heap.size := h; omega)
  have hB3 := hB02.trans ((below_fr hF3).mono hB02.size)
  have hB4 := hB3.trans (hF4.toBelow (B := w.heap.size) (fun k hk => by have : k = w2.heap.size := hk; have := hB02.size; omega) hB3.size)
  obtain ⟨c0, c1, c2⟩ := head3 h4
  refine ⟨4 + 1, c0, true, c1, l, c2, ?_⟩
  have hv : validH ⟨4 + 1, true, [3, 7]⟩ = true := by decide
  have el : layHead ⟨4 + 1, true, [3, 7]⟩ = (sealS 256 (headBytes ⟨4 + 1, true, [3, 7]⟩), 0) := by simp only [layHead, hv, if_true]
  have er := read_lay hv
  refine Lay_head (Own.ints hO4) (fun k hk => hO4.lt hk) fun w6 hB6 => ?_
  have hB06 := hB4.trans (hB6.mono hB4.size)
  have hlen : (layHead ⟨4 + 1, true, [3, 7]⟩).1.length ≤ 1000000000 := by
    rw [el]
    simp only
    rw [sealS_len (by decide) (by rw [headBytes_len]; decide)]
    decide
  refine Read_head hlen fun l2 w7 hO7 hbk7 hB7 => ?_
  rw [er] at hO7 ⊢
  have e0 : (layHead ⟨4 + 1, true, [3, 7]⟩).2 = 0 := by rw [el]
  rw [e0]
  have hB07 := hB06.trans (hB7.mono hB06.size)
  have h7 := (fr_below hB7).heap ((fr_below hB6).heap h4 id) id
  have hO47 := (hO4.keep (fr_below hB6) (fun _ _ => id)).keep (fr_below hB7) (fun _ _ => id)
  intro w8
  have h8 : w8.heap[w7.heap.size]? = some (.cells ⟨[.int .i64 0, .bool false, .slice none 0 0]⟩ T.y_head_Head (0, 0)) := heap_new w7 _
  have hF8 : Fr no w7 w8 := Fr.alloc no w7 _
  clear_value w8
  obtain ⟨k1, k2, k3, h9, hF9⟩ := set3 h8 (4 + 1) true l2
  refine ⟨k1, ?_⟩
  intro _
  refine ⟨k2, ?_⟩
  intro _
  refine ⟨k3, ?_⟩
  intro w9
  have h9 : w9.heap[w7.heap.size]? = some (.cells ⟨[.int .i64 (4 + 1), .bool true, .slice l2.a l2.len l2.cap]⟩ T.y_head_Head (0, 0)) := h9
  have hF9 : Fr (· = w7.heap.size) w8 w9 := hF9
  clear_value w9
  have hB8 := hB07.trans ((below_fr hF8).mono hB07.size)
  have hB9 := hB8.trans (hF9.toBelow (B := w.heap.size) (fun k hk => by have : k = w7.heap.size := hk; have := hB07.size; omega) hB8.size)
  have hlt7 := heap_lt h7
  have h79 := hF9.heap (hF8.heap h7 id) (fun h => by have : w2.heap.size = w7.heap.size := h; omega)
  obtain ⟨d0, d1, d2⟩ := head3 h79
  obtain ⟨e0, e1, e2⟩ := head3 h9
  have hO49 := (hO47.keep hF8 (fun _ _ => id)).keep hF9 (fun k hk h => by have := hlt2 k hk; have : k = w7.heap.size := h; omega)
  have hl : l.len = 2 := (Own.ints hO49).1
  have hl2 : l2.len = 2 := (Own.ints hO7).1
  obtain ⟨a, ha, hc⟩ := (Own.ints hO49).2 0 3 rfl
  refine ⟨4 + 1, d0, fun _ => ⟨true, d1, fun _ => ⟨l, d2, fun _ => ⟨l, d2, a, ha, by decide, by rw [hl]; decide, 3, hc, fun _ => ⟨fun _ => ⟨fun _ => ⟨4 + 1, e0, fun _ => ⟨l2, e2, ?_⟩, fun h => absurd h (by decide)⟩, fun h => absurd h (by decide)⟩, fun h => absurd h (by decide)⟩, fun h => absurd h (by decide)⟩, fun h => ?_⟩, fun h => by cases h⟩, fun h => absurd h (by decide)⟩
  · have : (((l2.len : Nat) : Int) == 2) = true := by rw [hl2]; rfl
    rw [this]
    exact hR _ hB9
  · rw [hl] at h; exact absurd h (by decide)

theorem same2_spec {w : World} {n : Int} {f : Bool} {al bl : Sl} {ts : List Int} (hA : Ints w al ts) (hB : Ints w bl ts) (hb : ts.length ≤ 1000000000) {R : Bool → World → Prop} (hR : ∀ w', Below w.heap.size w w' → R true w') : F.masonrylaw8_same2 n f al n f bl w R := by
  apply E.masonrylaw8_same2
  unfold V.masonrylaw8_same2
  intro w1 w2
  have c1 : w2.heap[w.heap.size]? = some (.cells ⟨[.int .i64 n, .bool f, .slice al.a al.len al.cap]⟩ T.y_head_Head (0, 0)) := (Fr.alloc no w1 _).heap (heap_new w _) id
  have c2 : w2.heap[w1.heap.size]? = some (.cells ⟨[.int .i64 n, .bool f, .slice bl.a bl.len bl.cap]⟩ T.y_head_Head (0, 0)) := heap_new w1 _
  have hs1 : w1.heap.size = w.heap.size + 1 := by simp [w1]
  have hB2 : Below w.heap.size w w2 := (below_fr (Fr.alloc no w _)).trans ((below_fr (Fr.alloc no w1 _)).mono (by omega))
  clear_value w2
  obtain ⟨d0, d1, d2⟩ := head3 c1
  obtain ⟨e0, e1, e2⟩ := head3 c2
  have l1 := hA.1
  have l2 := hB.1
  refine ⟨n, d0, n, e0, fun h => by simp at h, fun _ => ⟨f, d1, f, e1, fun h => by simp at h, fun _ => ⟨al, d2, bl, e2, fun h => by rw [l1, l2] at h; simp at h, fun _ => ?_⟩⟩⟩
  refine ⟨fun i w' => ∃ m : Nat, i = m ∧ m ≤ ts.length ∧ Below w2.heap.size w2 w', fun i _ => (ts.length - i).toNat, ⟨0, rfl, Nat.zero_le _, Below.refl _ _⟩, ?_⟩
  rintro i w3 ⟨m, rfl, hm, hB3⟩
  have f1 := (fr_below hB3).heap c1 id
  obtain ⟨_, _, x2⟩ := head3 f1
  refine ⟨al, x2, fun hlt => ?_, fun hge => hR w3 (hB2.trans (hB3.mono hB2.size))⟩
  have hlt : m < ts.length := by have := of_decide_eq_true hlt; omega
  have e1 : w64 ((m : Int) + 1) = ((m + 1 : Nat) : Int) := by rw [w64_id (by omega) (by omega)]; omega
  intro w4
  have hB4 : Below w2.heap.size w2 w4 := hB3.drew
  clear_value w4
  obtain ⟨_, _, y2⟩ := head3 ((fr_below hB4).heap c1 id)
  obtain ⟨_, _, z2⟩ := head3 ((fr_below hB4).heap c2 id)
  have hB04 := hB2.trans (hB4.mono hB2.size)
  obtain ⟨a, ha, hc⟩ := (hA.below hB04).2 m ts[m] (by simp [hlt])
  obtain ⟨b, hb', hd⟩ := (hB.below hB04).2 m ts[m] (by simp [hlt])
  refine ⟨al, y2, a, ha, by omega, by omega, ts[m], by simpa using hc, bl, z2, b, hb', by omega, by omega, ts[m], by simpa using hd, fun h => by simp at h, fun _ => ⟨⟨m + 1, e1, hlt, hB4⟩, ?_⟩⟩
  show ((ts.length : Int) - w64 ((m : Int) + 1)).toNat < ((ts.length : Int) - (m : Int)).toNat
  rw [e1]; omega

/-- lists of numbers -/
def Lists (w : World) (l : Sl) (zss : List (List Int)) : Prop :=
  l.len = zss.length ∧ ∀ j zs, zss[j]? = some zs → ∃ a, l.a = some a ∧ ∃ s : Sl, w.cell? (a.add (j * 1)) = some (.slice s.a s.len s.cap) ∧ Ints w s zs

theorem Lists.below {w w' : World} {l : Sl} {zss : List (List Int)} (h : Lists w l zss) (hB : Below w.heap.size w w') : Lists w' l zss :=
  ⟨h.1, fun j zs hj => by
    obtain ⟨a, ha, s, hc, hi⟩ := h.2 j zs hj
    exact ⟨a, ha, s, by rw [hB.cell (World.block_lt_of_cell? w _ hc)]; exact hc, hi.below hB⟩⟩

theorem lay_ok {h : Hd} (hv : validH h = true) : layHead h = (sealS 256 (headBytes h), 0) ∧ (layHead h).1.length = 256 := by
  have el : layHead h = (sealS 256 (headBytes h), 0) := by simp only [layHead, hv, if_true]
  have h3 := ((validH_iff h).1 hv).2.2.1
  exact ⟨el, by rw [el]; exact sealS_len (by decide) (by rw [headBytes_len]; omega)⟩

set_option maxHeartbeats 1000000 in
theorem headTurns_spec {w : World} {l : Sl} {zss : List (List Int)} (hL : Lists w l zss) {R : Bool → World → Prop} (hR : ∀ w', Below w.heap.size w w' → R true w') : F.masonrylaw8_HeadTurns l w R := by
  apply E.masonrylaw8_HeadTurns
  unfold V.masonrylaw8_HeadTurns
  have al : ∀ {w'}, Below w.heap.size w w' → F.masonrylaw8_alive w' (fun b w'' => R b w'') := fun hB => alive8_spec fun w'' h => hR w'' (hB.trans (h.mono hB.size))
  have hlen := hL.1
  refine ⟨fun _ => al (Below.refl _ _), fun h40 => ?_⟩
  have h40 : zss.length ≤ 40 := by have := of_decide_eq_false h40; omega
  refine alive8_spec fun w1 hB1 => ⟨fun h => by simp at h, fun _ => ?_⟩
  intro w3
  have h3 : w3.heap[w1.heap.size]? = some (.cells ⟨[.int .i64 0, .bool false, .slice none 0 0]⟩ T.y_head_Head (0, 0)) := heap_new w1 _
  have hF3 : Fr no w1 w3 := Fr.alloc no w1 _
  clear_value w3
  obtain ⟨k1, k2, k3, h6, hF6⟩ := set3 h3 0 false ⟨none, 0, 0⟩
  refine ⟨k1, ?_⟩
  intro _
  refine ⟨k2, ?_⟩
  intro _
  refine ⟨k3, ?_⟩
  intro w6
  have h6 : w6.heap[w1.heap.size]? = some (.cells ⟨[.int .i64 0, .bool false, .slice none 0 0]⟩ T.y_head_Head (0, 0)) := h6
  have hF6 : Fr (· = w1.heap.size) w3 w6 := hF6
  clear_value w6
  have s1 := hB1.size
  have hB3 := hB1.trans ((below_fr hF3).mono s1)
  have hB6 := hB3.trans (hF6.toBelow (B := w.heap.size) (fun k hk => by have : k = w1.heap.size := hk; omega) hB3.size)
  refine ⟨fun i w' => ∃ m : Nat, i = m ∧ m ≤ zss.length ∧ w'.heap[w1.heap.size]? = some (.cells ⟨[.int .i64 (m : Int), .bool false, .slice none 0 0]⟩ T.y_head_Head (0, 0)) ∧ Below w.heap.size w w', fun i _ => (zss.length - i).toNat, ⟨0, rfl, Nat.zero_le _, h6, hB6⟩, ?_⟩
  rintro i w7 ⟨m, rfl, hm, h7, hB7⟩
  refine ⟨fun hlt => ?_, fun _ => hR w7 hB7⟩
  have hlt : m < zss.length := by have := of_decide_eq_true hlt; omega
  have e1 : w64 ((m : Int) + 1) = ((m + 1 : Nat) : Int) := by rw [w64_id (by omega) (by omega)]; omega
  have e1' : ((m : Int) + 1) = ((m + 1 : Nat) : Int) := by omega
  have hms : zss[m]? = some zss[m] := by simp [hlt]
  generalize hzs : zss[m] = zs at hms
  have at_ : ∀ {w' : World}, Below w.heap.size w w' → ∃ a, l.a = some a ∧ ∃ s : Sl, w'.cell? (a.add ((m : Int).toNat * 1)) = some (.slice s.a s.len s.cap) ∧ Ints w' s zs := fun hB => (hL.below hB).2 m zs hms
  obtain ⟨a7, ha7, sl7, hc7, hi7⟩ := at_ hB7
  have hl7 := hi7.1
  refine ⟨a7, ha7, by omega, by omega, sl7, hc7, fun _ => hR w7 hB7, fun h110 => ?_⟩
  have h110 : zs.length ≤ 110 := by have := of_decide_eq_false h110; omega
  refine ⟨fun k w' => ∃ c : Nat, k = c ∧ c ≤ zs.length ∧ w' = w7 ∧ (∀ i, (hi : i < zs.length) → i < c → 0 ≤ zs[i] ∧ zs[i] < 2000), fun k _ => (zs.length - k).toNat, ⟨0, rfl, Nat.zero_le _, rfl, fun _ _ h => absurd h (Nat.not_lt_zero _)⟩, ?_⟩
  rintro k w8 ⟨c, rfl, hc, rfl, hrg⟩
  refine ⟨a7, ha7, by omega, by omega, sl7, hc7, fun hk => ?_, fun hk => ?_⟩
  · have hk : c < zs.length := by have := of_decide_eq_true hk; omega
    have e2 : w64 ((c : Int) + 1) = ((c + 1 : Nat) : Int) := by rw [w64_id (by omega) (by omega)]; omega
    obtain ⟨a, ha, hd⟩ := hi7.2 c zs[c] (by simp [hk])
    have hd : w8.cell? (a.add ((c : Int).toNat * 1)) = some (.int .i64 zs[c]) := by simpa using hd
    refine ⟨a7, ha7, by omega, by omega, sl7, hc7, a, ha, by omega, by omega, zs[c], hd, fun _ => hR w8 hB7, fun hn0 => ⟨a7, ha7, by omega, by omega, sl7, hc7, a, ha, by omega, by omega, zs[c], hd, fun _ => hR w8 hB7, fun hn2 => ⟨⟨c + 1, e2, hk, rfl, fun i hi hic => ?_⟩, ?_⟩⟩⟩
    · rcases Nat.lt_succ_iff_lt_or_eq.1 hic with h' | h'
      · exact hrg i hi h'
      · subst h'
        have := of_decide_eq_false hn0
        have := of_decide_eq_false hn2
        omega
    · show ((zs.length : Int) - w64 ((c : Int) + 1)).toNat < ((zs.length : Int) - (c : Int)).toNat
      rw [e2]; omega
  have hcc : c = zs.length := by have := of_decide_eq_false hk; omega
  subst hcc
  have hrange : ∀ t ∈ zs, 0 ≤ t ∧ t < 2000 := fun t ht => by
    obtain ⟨i, hi, rfl⟩ := List.mem_iff_getElem.1 ht
    exact hrg i hi hi
  intro w9
  have h9 : w9.heap[w1.heap.size]? = some (.cells ⟨[.int .i64 (m : Int), .bool false, .slice none 0 0]⟩ T.y_head_Head (0, 0)) := h7
  have hB9 : Below w.heap.size w w9 := hB7.drew
  clear_value w9
  obtain ⟨c0, c1, c2⟩ := head3 (l := ⟨none, 0, 0⟩) h9
  obtain ⟨a9, ha9, sl9, hc9, hi9⟩ := at_ hB9
  refine ⟨(m : Int), c0, false, c1, ⟨none, 0, 0⟩, c2, a9, ha9, by omega, by omega, sl9, hc9, fun w10 hB10 => ?_⟩
  have s10 := hB10.size
  refine Next_head (hi9.below hB10) (by omega) (by omega) (by omega) fun l7 w11 hO11 hbk11 hB11 => ?_
  have s11 := hB11.size
  refine ⟨Keep.of (fr_below hB11) (fun g hg _ => ⟨id, by simp only [inIv, or_false] at hg; omega⟩), fun w12 g hB12 hg _ hgo w13 hB13 => ?_⟩
  have s12 := hB12.size
  have s13 := hB13.size
  simp only [inIv, or_false] at hg
  have hgo13 := (fr_below hB13).heap hgo id
  obtain ⟨k1, k2, k3, h16, hF16⟩ := set3 hgo13 ((m : Int) + 1) true l7
  have hlt1 : w1.heap.size < w9.heap.size := heap_lt h9
  have hO13 := (hO11.keep (fr_below hB12) (fun _ _ => id)).keep (fr_below hB13) (fun _ _ => id)
  have hl7 : ∀ k, l7.bk k → w10.heap.size ≤ k ∧ k < w11.heap.size := fun k hk => ⟨hbk11 k hk, hO11.lt hk⟩
  have hgl : g < w13.heap.size := heap_lt hgo13
  refine ⟨k1, ?_⟩
  intro _
  refine ⟨k2, ?_⟩
  intro _
  refine ⟨k3, ?_⟩
  intro w16
  have h16 : w16.heap[g]? = some (.cells ⟨[.int .i64 ((m : Int) + 1), .bool true, .slice l7.a l7.len l7.cap]⟩ T.y_head_Head (0, 0)) := h16
  have hF16 : Fr (· = g) w13 w16 := hF16
  clear_value w16
  have hB13' : Below w.heap.size w w13 := by
    have a1 := hB9.trans (hB10.mono hB9.size)
    have a2 := a1.trans (hB11.mono a1.size)
    have a3 := a2.trans (hB12.mono a2.size)
    exact a3.trans (hB13.mono a3.size)
  have hgw : w.heap.size ≤ g := by have := hB9.size; omega
  have hB16 := hB13'.trans (hF16.toBelow (B := w.heap.size) (fun k hk => by have : k = g := hk; omega) hB13'.size)
  have h1_13 := (fr_below hB13).heap ((fr_below hB12).heap ((fr_below hB11).heap ((fr_below hB10).heap h9 id) id) id) id
  have h1_16 := hF16.heap h1_13 (fun h => by have : w1.heap.size = g := h; omega)
  have hO16 := hO13.keep hF16 (fun k hk h => by have := hl7 k hk; have : k = g := h; omega)
  refine ⟨Keep.of hF16 (fun g' hg' hu => ⟨fun h => hu (by have : g' = g := h; simp [this]), by simp only [inIv, or_false] at hg'; omega⟩), fun w17 hB17 => ?_⟩
  have hB017 := hB16.trans (hB17.mono hB16.size)
  have h17 := (fr_below hB17).heap h16 id
  have h1_17 := (fr_below hB17).heap h1_16 id
  have hO17 := hO16.keep (fr_below hB17) (fun _ _ => id)
  obtain ⟨x0, x1, x2⟩ := head3 h17
  refine ⟨(m : Int) + 1, x0, true, x1, l7, x2, ?_⟩
  refine Lay_head (Own.ints hO17) (fun k hk => hO17.lt hk) fun w18 hB18 => ?_
  have hB018 := hB017.trans (hB18.mono hB017.size)
  have h18 := (fr_below hB18).heap h17 id
  have h1_18 := (fr_below hB18).heap h1_17 id
  have hO18 := hO17.keep (fr_below hB18) (fun _ _ => id)
  obtain ⟨y0, y1, y2⟩ := head3 h18
  rw [e1]
  refine ⟨(m : Int) + 1, y0, fun h => by rw [e1'] at h; simp at h, fun _ => ?_⟩
  obtain ⟨a18, ha18, sl18, hc18, hi18⟩ := at_ hB018
  have hl18 := hi18.1
  have hN := nextT_up zs
  have hnl := nextT_len zs
  have hvalid : zs ≠ [] → validH ⟨(m : Int) + 1, true, nextT zs⟩ = true := fun hne => by
    refine (validH_iff _).2 ⟨by simp only; omega, by simp only; omega, by simp only; omega, ?_, upTo_of_up hN.1 (fun t ht => hrange t ((hN.2 t).1 ht))⟩
    have : 0 < (nextT zs).length := by
      obtain ⟨z, hz⟩ := List.exists_mem_of_ne_nil zs hne
      exact List.length_pos_of_mem ((hN.2 z).2 hz)
    simp [this]
  have hinv : zs = [] → layHead ⟨(m : Int) + 1, true, nextT zs⟩ = ([], 1) := fun h => by
    have : nextT zs = [] := List.eq_nil_of_length_eq_zero (by rw [h] at hnl ⊢; simpa using hnl)
    rw [this]
    simp [layHead, validH]
  refine ⟨a18, ha18, by omega, by omega, sl18, hc18, fun h => ?_, fun _ => ?_⟩
  · exfalso
    by_cases hz : zs = []
    · rw [hinv hz, hl18, hz] at h; simp at h
    · rw [(lay_ok (hvalid hz)).1, hl18] at h
      have : 0 < zs.length := List.length_pos_iff.2 hz
      simp [this] at h
  refine ⟨fun w' => w'.heap[g]? = some (.cells ⟨[.int .i64 ((m : Int) + 1), .bool true, .slice l7.a l7.len l7.cap]⟩ T.y_head_Head (0, 0)) ∧ w'.heap[w1.heap.size]? = some (.cells ⟨[.int .i64 (m : Int), .bool false, .slice none 0 0]⟩ T.y_head_Head (0, 0)) ∧ Below w.heap.size w w', ⟨fun hok => ?_, fun _ => ⟨h18, h1_18, hB018⟩⟩, ?_⟩
  · have hz : zs ≠ [] := fun hz => by rw [hinv hz] at hok; simp at hok
    obtain ⟨el, ell⟩ := lay_ok (hvalid hz)
    have er := read_lay (hvalid hz)
    refine Read_head (by omega) fun l10 w19 hO19 hbk19 hB19 => ?_
    rw [er] at hO19 ⊢
    have hB019 := hB018.trans (hB19.mono hB018.size)
    have h19 := (fr_below hB19).heap h18 id
    have h1_19 := (fr_below hB19).heap h1_18 id
    have hO719 := hO18.keep (fr_below hB19) (fun _ _ => id)
    intro w20
    have h20 : w20.heap[w19.heap.size]? = some (.cells ⟨[.int .i64 0, .bool false, .slice none 0 0]⟩ T.y_head_Head (0, 0)) := heap_new w19 _
    have hF20 : Fr no w19 w20 := Fr.alloc no w19 _
    clear_value w20
    obtain ⟨k1, k2, k3, h23, hF23⟩ := set3 h20 ((m : Int) + 1) true l10
    refine ⟨k1, ?_⟩
    intro _
    refine ⟨k2, ?_⟩
    intro _
    refine ⟨k3, ?_⟩
    intro w23
    have h23 : w23.heap[w19.heap.size]? = some (.cells ⟨[.int .i64 ((m : Int) + 1), .bool true, .slice l10.a l10.len l10.cap]⟩ T.y_head_Head (0, 0)) := h23
    have hF23 : Fr (· = w19.heap.size) w20 w23 := hF23
    clear_value w23
    have ne : ∀ {k}, k < w19.heap.size → ¬ (k = w19.heap.size) := fun h h' => by omega
    have hg23 := hF23.heap (hF20.heap h19 id) (ne (heap_lt h19))
    have h1_23 := hF23.heap (hF20.heap h1_19 id) (ne (heap_lt h1_19))
    have hO723 := (hO719.keep hF20 (fun _ _ => id)).keep hF23 (fun k hk => ne (hO719.lt hk))
    have hO1023 := (hO19.keep hF20 (fun _ _ => id)).keep hF23 (fun k hk => ne (hO19.lt hk))
    have hB20 := hB019.trans ((below_fr hF20).mono hB019.size)
    have hB23 := hB20.trans (hF23.toBelow (B := w.heap.size) (fun k hk => by have : k = w19.heap.size := hk; have := hB019.size; omega) hB20.size)
    obtain ⟨p0, p1, p2⟩ := head3 hg23
    obtain ⟨q0, q1, q2⟩ := head3 h23
    refine ⟨fun h => by simp at h, fun _ => ⟨(m : Int) + 1, p0, true, p1, l7, p2, (m : Int) + 1, q0, true, q1, l10, q2, ?_⟩⟩
    refine same2_spec (Own.ints hO723) (Own.ints hO1023) (by omega) fun w24 hB24 => ⟨fun h => by simp at h, fun _ => ⟨fun h => ?_, fun _ => ⟨?_, ?_, ?_⟩⟩⟩
    · rw [tx_size, ell] at h; simp at h
    · exact (fr_below hB24).heap hg23 id
    · exact (fr_below hB24).heap h1_23 id
    · exact hB23.trans (hB24.mono hB23.size)
  rintro w25 ⟨h25, h1_25, hB25⟩
  obtain ⟨p0, p1, p2⟩ := head3 h25
  refine ⟨(m : Int) + 1, p0, true, p1, l7, p2, Done_head fun w26 hB26 => ?_⟩
  have hB026 := hB25.trans (hB26.mono hB25.size)
  have h1_26 := (fr_below hB26).heap h1_25 id
  obtain ⟨k1, k2, k3, h29, hF29⟩ := set3 h1_26 ((m : Int) + 1) false ⟨none, 0, 0⟩
  refine ⟨k1, ?_⟩
  intro _
  refine ⟨k2, ?_⟩
  intro _
  refine ⟨k3, ?_⟩
  intro w29
  have h29 : w29.heap[w1.heap.size]? = some (.cells ⟨[.int .i64 ((m : Int) + 1), .bool false, .slice none 0 0]⟩ T.y_head_Head (0, 0)) := h29
  have hF29 : Fr (· = w1.heap.size) w26 w29 := hF29
  clear_value w29
  have hB29 := hB026.trans (hF29.toBelow (B := w.heap.size) (fun k hk => by have : k = w1.heap.size := hk; omega) hB026.size)
  obtain ⟨q0, q1, q2⟩ := head3 (l := ⟨none, 0, 0⟩) h29
  refine ⟨(m : Int) + 1, q0, false, q1, ⟨none, 0, 0⟩, q2, ?_⟩
  have hv : validH ⟨(m : Int) + 1, false, []⟩ = true := (validH_iff _).2 ⟨by simp only; omega, by simp only; omega, by simp, by simp, fun i hi => by simp at hi⟩
  obtain ⟨el, ell⟩ := lay_ok hv
  have er := read_lay hv
  refine Lay_head (ts := []) ⟨rfl, fun j v hj => by simp at hj⟩ (fun k hk => bk_nil hk) fun w30 hB30 => ?_
  refine Read_head (by omega) fun l16 w31 hO31 hbk31 hB31 => ?_
  rw [er] at hO31 ⊢
  have e0 : (layHead ⟨(m : Int) + 1, false, []⟩).2 = 0 := by rw [el]
  rw [e0]
  have hB030 := hB29.trans (hB30.mono hB29.size)
  have hB031 := hB030.trans (hB31.mono hB030.size)
  have h31 := (fr_below hB31).heap ((fr_below hB30).heap h29 id) id
  intro w32
  have h32 : w32.heap[w31.heap.size]? = some (.cells ⟨[.int .i64 0, .bool false, .slice none 0 0]⟩ T.y_head_Head (0, 0)) := heap_new w31 _
  have hF32 : Fr no w31 w32 := Fr.alloc no w31 _
  clear_value w32
  obtain ⟨k1, k2, k3, h35, hF35⟩ := set3 h32 ((m : Int) + 1) false l16
  refine ⟨k1, ?_⟩
  intro _
  refine ⟨k2, ?_⟩
  intro _
  refine ⟨k3, ?_⟩
  intro w35
  have h35 : w35.heap[w31.heap.size]? = some (.cells ⟨[.int .i64 ((m : Int) + 1), .bool false, .slice l16.a l16.len l16.cap]⟩ T.y_head_Head (0, 0)) := h35
  have hF35 : Fr (· = w31.heap.size) w32 w35 := hF35
  clear_value w35
  have h1_35 := hF35.heap (hF32.heap h31 id) (fun h => by have : w1.heap.size = w31.heap.size := h; have := heap_lt h31; omega)
  have hB32 := hB031.trans ((below_fr hF32).mono hB031.size)
  have hB35 := hB32.trans (hF35.toBelow (B := w.heap.size) (fun k hk => by have : k = w31.heap.size := hk; have := hB031.size; omega) hB32.size)
  obtain ⟨r0, r1, r2⟩ := head3 h35
  have hl16 : l16.len = 0 := (Own.ints hO31).1
  refine ⟨fun h => by simp at h, fun _ => ⟨fun h => by simp at h, fun _ => ⟨false, r1, fun h => (by cases h), fun _ => ⟨(m : Int) + 1, r0, fun h => by rw [e1'] at h; simp at h, fun _ => ⟨l16, r2, fun h => by rw [hl16] at h; simp at h, fun _ => ⟨⟨m + 1, rfl, hlt, ?_, hB35⟩, ?_⟩⟩⟩⟩⟩⟩
  · rw [← e1']; exact h1_35
  · show ((zss.length : Int) - ((m + 1 : Nat) : Int)).toNat < ((zss.length : Int) - (m : Int)).toNat
    omega

end Go.Proofs.YtepclihkniaieaaDoor
