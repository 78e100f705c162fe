/- numbers in order, each once: sorting and compacting is the same as putting one by one. -/
import Derived.Test.YtmokmbhhnbcelaaGreatDoorHn
import Derived.Lib.SlicesCompact
import Derived.Test.YtmokmbhhnbcelaaGreatDoorHg
import Derived.Sort.OwnSortedInts
import Derived.Lib.RowBridge
set_option linter.unusedVariables false
namespace Go.Proofs.YtmokmbhhnbcelaaGreatDoor
open Go Go.Vc Go.RowKit Go.Lib
abbrev Up (l : List Int) : Prop := l.Pairwise fun a b => a < b
theorem up_ext : ∀ {a b : List Int}, Up a → Up b → (∀ x, x ∈ a ↔ x ∈ b) → a = b
 | [], [], _, _, _ => rfl
 | [], y :: b, _, _, h => by have := (h y).2 (by simp); simp at this
 | x :: a, [], _, _, h => by have := (h x).1 (by simp); simp at this
 | x :: a, y :: b, ha, hb, h => by
   obtain ⟨a1, a2⟩ := List.pairwise_cons.1 ha
   obtain ⟨b1, b2⟩ := List.pairwise_cons.1 hb
   have hxy : x = y := by
     have h1 := (h x).1 (by simp)
     have h2 := (h y).2 (by simp)
     rcases List.mem_cons.1 h1 with h1 | h1
     · exact h1
     · rcases List.mem_cons.1 h2 with h2 | h2
       · exact h2.symm
       · have := a1 y h2; have := b1 x h1; omega
   subst hxy
   have : a = b := up_ext a2 b2 fun z => ⟨fun hz => by
     rcases List.mem_cons.1 ((h z).1 (by simp [hz])) with h1 | h1
     · subst h1; have := a1 z hz; omega
     · exact h1, fun hz => by
     rcases List.mem_cons.1 ((h z).2 (by simp [hz])) with h1 | h1
     · subst h1; have := b1 z hz; omega
     · exact h1⟩
   rw [this]
theorem compactUpTo_up (zs : List Int) (h : zs.Pairwise fun a b => a ≤ b) : ∀ m, m ≤ zs.length →
   Up (compactUpTo zs.toArray m) ∧ (∀ x, x ∈ compactUpTo zs.toArray m ↔ x ∈ zs.take m)
 | 0, _ => by simp [compactUpTo]
 | m + 1, hm => by
   obtain ⟨h1, h2⟩ := compactUpTo_up zs h m (by omega)
   have hlt : m < zs.length := by omega
   have e : zs.toArray[m]! = zs[m] := by simp [hlt]
   have ord : ∀ i j, (hi : i < zs.length) → (hj : j < zs.length) → i < j → zs[i] ≤ zs[j] := fun i j hi hj hij => List.pairwise_iff_getElem.1 h i j hi hj hij
   rw [compactUpTo_succ, List.take_succ_eq_append_getElem hlt, e]
   by_cases hk : keeps zs.toArray m = true
   · rw [if_pos hk]
     refine ⟨List.pairwise_append.2 ⟨h1, List.pairwise_singleton _ _, fun a ha b hb => ?_⟩, fun x => by rw [List.mem_append, List.mem_append, h2]⟩
     rw [List.mem_singleton] at hb
     subst hb
     obtain ⟨i, hi, rfl⟩ := List.mem_iff_getElem.1 ((h2 a).1 ha)
     simp only [List.length_take] at hi
     rw [List.getElem_take]
     have hne : zs[m - 1]'(by omega) ≠ zs[m] := by
       have e2 : zs.toArray[m - 1]! = zs[m - 1]'(by omega) := by simp [show m - 1 < zs.length by omega]
       intro hc
       rw [keeps_neg (by omega) (by rw [e, e2, hc])] at hk
       cases hk
     have h3 := ord (m - 1) m (by omega) hlt (by omega)
     rcases Nat.lt_or_ge i (m - 1) with h4 | h4
     · have := ord i (m - 1) (by omega) (by omega) h4; omega
     · have : i = m - 1 := by omega
       subst this; omega
   · have hk' : keeps zs.toArray m = false := by simpa using hk
     rw [if_neg hk, List.append_nil]
     refine ⟨h1, fun x => ?_⟩
     rw [h2, List.mem_append, List.mem_singleton]
     refine ⟨.inl, ?_⟩
     rintro (hx | rfl)
     · exact hx
     · have hm0 : 0 < m := by
         rcases Nat.eq_zero_or_pos m with h0 | h0
         · subst h0; exact absurd (keeps_lt_one zs.toArray 0 (by decide)) hk
         · exact h0
       have e2 : zs.toArray[m - 1]! = zs[m - 1]'(by omega) := by simp [show m - 1 < zs.length by omega]
       have heq : zs[m] = zs[m - 1]'(by omega) := by
         by_cases hc : zs[m] = zs[m - 1]'(by omega)
         · exact hc
         · exact absurd (keeps_pos (d := zs.toArray) (m := m) (by rw [e, e2]; exact hc)) hk
       rw [heq, List.mem_iff_getElem]
       exact ⟨m - 1, by simp; omega, by rw [List.getElem_take]⟩
theorem compact_up {zs : List Int} (h : zs.Pairwise fun a b => a ≤ b) : Up (compact zs) ∧ ∀ x, x ∈ compact zs ↔ x ∈ zs := by
 obtain ⟨h1, h2⟩ := compactUpTo_up zs h zs.length (Nat.le_refl _)
 refine ⟨h1, fun x => ?_⟩
 have := h2 x
 rwa [List.take_length] at this
/-- the targets of the next head -/
def nextT (zs : List Int) : List Int := compact (zs.mergeSort fun x y => decide (x ≤ y))
theorem nextT_up (zs : List Int) : Up (nextT zs) ∧ ∀ x, x ∈ nextT zs ↔ x ∈ zs := by
 have hs : (zs.mergeSort fun x y => decide (x ≤ y)).Pairwise fun a b => a ≤ b := by
   have := List.pairwise_mergeSort (le := fun x y : Int => decide (x ≤ y)) (fun a b c h1 h2 => by simp only [decide_eq_true_eq] at *; omega) (fun a b => by simp only [Bool.or_eq_true, decide_eq_true_eq]; omega) zs
   exact this.imp fun h => by simpa using h
 obtain ⟨h1, h2⟩ := compact_up hs
 exact ⟨h1, fun x => by rw [nextT, h2, (List.mergeSort_perm zs _).mem_iff]⟩
theorem nextT_len (zs : List Int) : (nextT zs).length ≤ zs.length := by
 have h : ∀ m, (compactUpTo (zs.mergeSort fun x y => decide (x ≤ y)).toArray m).length ≤ m := by
   intro m
   unfold compactUpTo
   rw [List.length_map]
   have := List.length_filter_le (keeps (zs.mergeSort fun x y => decide (x ≤ y)).toArray) (List.range m)
   simpa using this
 have := h (zs.mergeSort fun x y => decide (x ≤ y)).length
 rw [List.length_mergeSort] at this
 simpa [nextT, compact] using this
end Go.Proofs.YtmokmbhhnbcelaaGreatDoor

/- slices.Clone, slices.Sort, slices.Compact at numbers; head.Next. -/
set_option linter.unusedVariables false
namespace Go.Proofs.YtmokmbhhnbcelaaGreatDoor
open Go Go.Vc Go.RowKit Go.Lib
theorem Clone_ints {w : World} {sl : Sl} {zs : List Int} (hT : Ints w sl zs) (hb : zs.length ≤ 1000000000) {R : Sl → World → Prop}
   (hR : ∀ l w', Own w' T.y_int 1 l (intCells zs) → (∀ k, l.bk k → w.heap.size ≤ k) → Below w.heap.size w w' → R l w') : F.slices_Clone_sl_int_int sl w R := by
 obtain ⟨i, hi, hz, hs1, hby⟩ := info_int
 apply E.slices_Clone_sl_int_int
 unfold V.slices_Clone_sl_int_int
 have hlen := hT.1
 refine ⟨fun h => ?_, fun h => ?_⟩
 · have hnil : zs = [] := by
     cases zs with
     | nil => rfl
     | cons z r => obtain ⟨a, ha, _⟩ := hT.2 0 z rfl
                   rw [ha] at h; cases h
   subst hnil
   exact hR _ w (Own.nil _ _ _) (fun k hk => bk_nil hk) (Below.refl _ _)
 · obtain ⟨a, ha⟩ : ∃ a, sl.a = some a := by
     cases ha : sl.a with
     | none => rw [ha] at h; cases h
     | some a => exact ⟨a, rfl⟩
   intro w1
   have hO1 : Own w1 T.y_int 1 ⟨some (blk w.heap.size), 0, 0⟩ [] := World.ownsRow_made (base := 0) (size := 1) (e := T.y_int) w #[] 0 (Nat.zero_le _) (Nat.zero_le _) rfl
   have hB1 : Below w.heap.size w w1 := below_fr (Fr.alloc no w _)
   have hz1 : w1.heap.size = w.heap.size + 1 := by simp [w1]
   clear_value w1
   have hT1 := hT.below hB1
   rw [ha]
   refine runT_append (l := ⟨some (blk w.heap.size), 0, 0⟩) und_ints hi hz hs1 hby rfl (by decide) hO1 (m := sl.len) (news := intCells zs) (by simp [intCells, hlen]) (hT1.cell ha) (intCells_one zs) (by simp only [maxLen]; omega) (by simp only; omega) fun l2 w2 ho hl hf hm => ?_
   have hlo : ∀ k, (⟨some (blk w.heap.size), 0, 0⟩ : Sl).bk k → w.heap.size ≤ k := fun k hk => by
     obtain ⟨x, hx, rfl⟩ := hk
     injection hx with hx
     subst hx
     exact Nat.le_refl _
   refine hR l2 w2 (by simpa using ho) (fun k hk => ?_) (hB1.trans (hf.toBelow hlo (by omega)))
   rcases moved_bk hm hk with h | h
   · exact hlo k h
   · omega
theorem Sort_ints {w : World} {l : Sl} {zs : List Int} (hO : Own w T.y_int 1 l (intCells zs)) (hb : zs.length ≤ 1000000000) {R : World → Prop}
   (hR : ∀ w', Own w' T.y_int 1 l (intCells (zs.mergeSort fun x y => decide (x ≤ y))) → Fr l.bk w w' → R w') : F.slices_Sort_sl_int_int l w R := by
 rcases hO.2 with ⟨hv, h0⟩ | ⟨g, cap, cur, hv, hbg, hg, hnc, hcm, hcs, htk⟩
 · simp only [Value.slice.injEq] at hv
   have hl : l = ⟨none, 0, 0⟩ := by cases l; simp_all
   subst hl
   have hzs : zs = [] := by have := hO.1; cases zs with
     | nil => rfl
     | cons a r => simp [intCells] at this
   subst hzs
   have c : Calls Tryz.prog 255 #[.slice none 0 0] w fun e w' => e = .returned (.tuple #[]) ∧ w' = w := Proofs.Any.slices_Sort_int_none Tryz.lays189 none 0 w
   refine Calls.mono c fun e w' h => ⟨h.1, ?_⟩
   have h2 := h.2
   subst h2
   exact hR w' (by simpa using hO) (Fr.refl _ _)
 · simp only [Value.slice.injEq] at hv
   obtain ⟨ha, _, hc⟩ := hv
   have hlen : l.len = zs.length := (Own.ints hO).1
   have htk' : cur.toList.take zs.length = zs.map (Value.int .i64) := by rw [← hlen, ← Nat.mul_one l.len]; exact htk
   have c : Calls Tryz.prog 255 #[.slice (some ⟨g, 0, none⟩) zs.length cap] w fun e w' => e = .returned (.tuple #[]) ∧ ∃ n os, w' = Go.Sort.grow (Go.Sort.putRow (Value.int .i64) (Go.Sort.ahead w n) g 0 (zs.mergeSort fun x y => decide (x ≤ y)).toArray) os :=
     Proofs.Any.slices_Sort_int Tryz.lays189 g 0 cap zs w (holds_of_blockI hg htk') (heap_lt hg) (by omega)
   have hl : (⟨some ⟨g, 0, none⟩, zs.length, cap⟩ : Sl) = l := by cases l; simp_all
   show F.slices_Sort_sl_int_int l w R
   rw [← hl]
   refine Calls.mono c fun e w' h => ⟨h.1, ?_⟩
   obtain ⟨n, os, rfl⟩ := h.2
   refine hR _ ?_ ?_
   · rw [← hl]
     exact ownsRow_sortedI (ss := zs) (by simp) (Nat.zero_le _) hg (show zs.length ≤ cap by omega) hcm hcs
   · refine Fr.grown (grownBy_sortedI _) fun k hk => ?_
     injection hk with hk
     subst hk
     exact ⟨⟨g, 0, none⟩, by rw [← hl], rfl⟩
theorem compact_len (zs : List Int) : (compact zs).length ≤ zs.length := by
 unfold compact compactUpTo
 rw [List.length_map]
 have := List.length_filter_le (keeps zs.toArray) (List.range zs.length)
 simpa using this
theorem Compact_ints {w : World} {l : Sl} {zs : List Int} (hO : Own w T.y_int 1 l (intCells zs)) (hb : zs.length ≤ 1000000000) {R : Sl → World → Prop}
   (hR : ∀ l' w', l'.a = l.a → Own w' T.y_int 1 l' (intCells (compact zs)) → Fr l.bk w w' → R l' w') : F.slices_Compact_sl_int_int l w R := by
 have hlen : l.len = zs.length := (Own.ints hO).1
 rcases hO.2 with ⟨hv, h0⟩ | ⟨g, cap, cur, hv, hbg, hg, hnc, hcm, hcs, htk⟩
 · simp only [Value.slice.injEq] at hv
   have hl : l = ⟨none, 0, 0⟩ := by cases l; simp_all
   subst hl
   have hzs : zs = [] := List.eq_nil_of_length_eq_zero hlen.symm
   subst hzs
   have c : Calls Tryz.prog 258 #[.slice none 0 0] w fun e w' => e = .returned (.slice none 0 0) ∧ w' = w := Proofs.Any.slices_Compact_int_empty Tryz.laysNm220 none 0 w
   refine Calls.mono c fun e w' h => ⟨⟨none, 0, 0⟩, h.1, ?_⟩
   have h2 := h.2
   subst h2
   exact hR _ w' rfl hO (Fr.refl _ _)
 · simp only [Value.slice.injEq] at hv
   obtain ⟨ha, _, hc⟩ := hv
   have htk' : cur.toList.take zs.length = zs.map (Value.int .i64) := by rw [← hlen, ← Nat.mul_one l.len]; exact htk
   have c : Calls Tryz.prog 258 #[.slice (some ⟨g, 0, none⟩) zs.length cap] w fun e w' => e = .returned (.slice (some ⟨g, 0, none⟩) (compact zs).length cap) ∧ ∃ q, w' = Go.Sort.putRow (Value.int .i64) (Go.Sort.ahead w q) g 0 (compact zs ++ List.replicate (zs.length - (compact zs).length) 0).toArray :=
     Proofs.Any.slices_Compact_int Tryz.laysNm220 g 0 cap zs w (holds_of_blockI hg htk') (by omega) (by omega)
   have hl : (⟨some ⟨g, 0, none⟩, zs.length, cap⟩ : Sl) = l := by cases l; simp_all
   rw [← hl]
   refine Calls.mono c fun e w' h => ⟨⟨some ⟨g, 0, none⟩, (compact zs).length, cap⟩, h.1, ?_⟩
   obtain ⟨n, rfl⟩ := h.2
   have hcl := compact_len zs
   have hg2 := heap_sortedI (n := n) (os := #[]) (compact zs ++ List.replicate (zs.length - (compact zs).length) 0).toArray hg
   have hgr := grownBy_sortedI (w := w) (g := g) (n := n) (os := #[]) (compact zs ++ List.replicate (zs.length - (compact zs).length) 0).toArray
   rw [Go.Sort.grow_empty] at hg2 hgr
   have hts := take_putCellsI cur (compact zs ++ List.replicate (zs.length - (compact zs).length) 0) (by rw [List.length_append, List.length_replicate]; omega)
   refine hR _ _ ?_ ?_ ?_
   · rw [← hl]
   · refine ⟨by simp [intCells], .inr ⟨g, cap, _, rfl, Nat.zero_le _, hg2, by simp only; omega, hcm, by simp [Go.Sort.putCells, hcs], ?_⟩⟩
     have h2 : (List.take ((compact zs ++ List.replicate (zs.length - (compact zs).length) 0).length) (Go.Sort.putCells (Value.int .i64) 0 (compact zs ++ List.replicate (zs.length - (compact zs).length) 0).toArray cur).toList).take (compact zs).length = ((compact zs ++ List.replicate (zs.length - (compact zs).length) 0).map (Value.int .i64)).take (compact zs).length := by rw [hts]
     rw [List.take_take, Nat.min_eq_left (by rw [List.length_append]; omega), List.map_append, List.take_append_of_le_length (by simp)] at h2
     have h3 : ((compact zs).map (Value.int .i64)).take (compact zs).length = (compact zs).map (Value.int .i64) := List.take_of_length_le (by simp)
     rw [h3] at h2
     simp only [Nat.mul_one]
     exact h2
   · refine Fr.grown hgr fun k hk => ?_
     injection hk with hk
     subst hk
     exact ⟨⟨g, 0, none⟩, by rw [← hl], rfl⟩
theorem Next_head {w : World} {seq : Int} {full : Bool} {tl targets : Sl} {zs : List Int} (hT : Ints w targets zs) (hb : zs.length ≤ 1000000000) (h0 : -4611686018427387904 ≤ seq) (h1 : seq < 4611686018427387904) {R : Int → Bool → Sl → World → Prop}
   (hR : ∀ l w', Own w' T.y_int 1 l (intCells (nextT zs)) → (∀ k, l.bk k → w.heap.size ≤ k) → Below w.heap.size w w' → R (seq + 1) true l w') : F.head_Next seq full tl targets w R := by
 apply E.head_Next
 unfold V.head_Next
 intro w1 w2
 have c1 : w2.heap[w.heap.size]? = some (.cells ⟨[.int .i64 seq, .bool full, .slice tl.a tl.len tl.cap]⟩ T.y_head_Head (0, 0)) := (Fr.alloc no w1 _).heap (heap_new w _) id
 have c2 : w2.heap[w1.heap.size]? = some (.cells ⟨[.int .i64 0, .bool false, .slice none 0 0]⟩ T.y_head_Head (0, 0)) := heap_new w1 _
 have hs1 : w1.heap.size = w.heap.size + 1 := by simp [w1]
 have hB2 : Below w.heap.size w w2 := (below_fr (Fr.alloc no w _)).trans ((below_fr (Fr.alloc no w1 _)).mono (by omega))
 have hs2 : w2.heap.size = w.heap.size + 2 := by simp [w2, hs1]
 clear_value w2
 refine Clone_ints (hT.below hB2) hb fun l w3 hO3 hbk3 hB3 => ?_
 refine Sort_ints hO3 hb fun w4 hO4 hF4 => ?_
 intro w5
 have hO5 : Own w5 T.y_int 1 l (intCells (zs.mergeSort fun x y => decide (x ≤ y))) := hO4.keep (Fr.drew no w4) (fun _ _ => id)
 have hF5 : Fr l.bk w3 w5 := hF4.trans (Fr.drew l.bk w4) (fun _ _ h => h)
 clear_value w5
 have k1 := hF5.heap ((fr_below hB3).heap c1 id) (fun hk => by have := hbk3 _ hk; omega)
 have k2 := hF5.heap ((fr_below hB3).heap c2 id) (fun hk => by have := hbk3 _ hk; omega)
 refine ⟨seq, by rw [blk_cell0 k1]; rfl, ?_⟩
 refine Compact_ints hO5 (by rw [List.length_mergeSort]; exact hb) fun l6 w6 ha6 hO6 hF6 => ?_
 have m1 := hF6.heap k1 (fun hk => by have := hbk3 _ hk; omega)
 have m2 := hF6.heap k2 (fun hk => by have := hbk3 _ hk; omega)
 have hbk6 : ∀ k, l6.bk k → w2.heap.size ≤ k := fun k hk => hbk3 k (by obtain ⟨a, h, h'⟩ := hk; exact ⟨a, by rw [← ha6]; exact h, h'⟩)
 have e1 : w64 (seq + 1) = seq + 1 := w64_id (by omega) (by omega)
 rw [e1]
 refine ⟨by rw [blk_cell0 m1]; rfl, ?_⟩
 refine ret3 m2 (seq + 1) true l6 (Q := fun n f l w' => R n f l w') fun w7 hF7 => ?_
 refine hR l6 w7 (hO6.keep hF7 (fun k hk h => by have := hbk6 k hk; have : k = w1.heap.size := h; omega)) (fun k hk => by have := hbk6 k hk; omega) ?_
 have a1 := hB2.trans (hB3.mono hB2.size)
 have a2 := a1.trans (hF5.toBelow (B := w.heap.size) (fun k hk => by have := hbk3 k hk; omega) a1.size)
 have a3 := a2.trans (hF6.toBelow (B := w.heap.size) (fun k hk => by have := hbk3 k hk; omega) a2.size)
 exact a3.trans (hF7.toBelow (B := w.heap.size) (fun k hk => by have : k = w1.heap.size := hk; omega) a3.size)
end Go.Proofs.YtmokmbhhnbcelaaGreatDoor
