/- slices.Clone, slices.Sort, slices.Compact at numbers; head.Next. -/
import Derived.Test.YtggachhkcmfijaaGreatDoorHs
import Derived.Sort.OwnSortedInts
import Derived.Lib.RowBridge
set_option linter.unusedVariables false
namespace Go.Proofs.YtggachhkcmfijaaGreatDoor
open Go Go.Vc Go.RowKit Go.Lib
theorem Clone_ints {w : World} {sl : Sl} {zs : List Int} (hT : Ints w sl zs) (hb : zs.length ≤ 1000000000) {R : Sl → World → Prop}
   (hR : ∀ l w', Own w' T.y_int 1 l (intCells zs) → (∀ k, l.bk k → w.heap.size ≤ k) → Below w.heap.size w w' → R l w') : F.slices_Clone_sl_int_int sl w R := by
 obtain ⟨i, hi, hz, hs1, hby⟩ := info_int
 apply E.slices_Clone_sl_int_int
 unfold V.slices_Clone_sl_int_int
 try simp -zeta only [ldC, soC, brC, bkA, slC, stC, alC, drC]
 have hlen := hT.1
 refine ⟨fun h => ?_, fun h => ?_⟩
 · have hnil : zs = [] := by
     cases zs with
     | nil => rfl
     | cons z r => obtain ⟨a, ha, _⟩ := hT.2 0 z rfl
                   rw [ha] at h; cases h
   subst hnil
   exact hR _ w (Own.nil _ _ _) (fun k hk => bk_nil hk) (Below.refl _ _)
 · obtain ⟨a, ha⟩ : ∃ a, sl.a = some a := by
     cases ha : sl.a with
     | none => rw [ha] at h; cases h
     | some a => exact ⟨a, rfl⟩
   intro w1
   have hO1 : Own w1 T.y_int 1 ⟨some (blk w.heap.size), 0, 0⟩ [] := World.ownsRow_made (base := 0) (size := 1) (e := T.y_int) w #[] 0 (Nat.zero_le _) (Nat.zero_le _) rfl
   have hB1 : Below w.heap.size w w1 := below_fr (Fr.alloc no w _)
   have hz1 : w1.heap.size = w.heap.size + 1 := by simp [w1]
   clear_value w1
   have hT1 := hT.below hB1
   rw [ha]
   refine runT_append (l := ⟨some (blk w.heap.size), 0, 0⟩) und_ints hi hz hs1 hby rfl (by decide) hO1 (m := sl.len) (news := intCells zs) (by simp [intCells, hlen]) (hT1.cell ha) (intCells_one zs) (by simp only [maxLen]; omega) (by simp only; omega) fun l2 w2 ho hl hf hm => ?_
   have hlo : ∀ k, (⟨some (blk w.heap.size), 0, 0⟩ : Sl).bk k → w.heap.size ≤ k := fun k hk => by
     obtain ⟨x, hx, rfl⟩ := hk
     injection hx with hx
     subst hx
     exact Nat.le_refl _
   refine hR l2 w2 (by simpa using ho) (fun k hk => ?_) (hB1.trans (hf.toBelow hlo (by omega)))
   rcases moved_bk hm hk with h | h
   · exact hlo k h
   · omega
theorem Sort_ints {w : World} {l : Sl} {zs : List Int} (hO : Own w T.y_int 1 l (intCells zs)) (hb : zs.length ≤ 1000000000) {R : World → Prop}
   (hR : ∀ w', Own w' T.y_int 1 l (intCells (zs.mergeSort fun x y => decide (x ≤ y))) → Fr l.bk w w' → R w') : F.slices_Sort_sl_int_int l w R := by
 rcases hO.2 with ⟨hv, h0⟩ | ⟨g, cap, cur, hv, hbg, hg, hnc, hcm, hcs, htk⟩
 · simp only [Value.slice.injEq] at hv
   have hl : l = ⟨none, 0, 0⟩ := by cases l; simp_all
   subst hl
   have hzs : zs = [] := by have := hO.1; cases zs with
     | nil => rfl
     | cons a r => simp [intCells] at this
   subst hzs
   have c : Calls Tryz.prog 50 #[.slice none 0 0] w fun e w' => e = .returned (.tuple #[]) ∧ w' = w := Proofs.Any.slices_Sort_int_none Tryz.lays189 none 0 w
   refine Calls.mono c fun e w' h => ⟨h.1, ?_⟩
   have h2 := h.2
   subst h2
   exact hR w' (by simpa using hO) (Fr.refl _ _)
 · simp only [Value.slice.injEq] at hv
   obtain ⟨ha, _, hc⟩ := hv
   have hlen : l.len = zs.length := (Own.ints hO).1
   have htk' : cur.toList.take zs.length = zs.map (Value.int .i64) := by rw [← hlen, ← Nat.mul_one l.len]; exact htk
   have c : Calls Tryz.prog 50 #[.slice (some ⟨g, 0, none⟩) zs.length cap] w fun e w' => e = .returned (.tuple #[]) ∧ ∃ n os, w' = Go.Sort.grow (Go.Sort.putRow (Value.int .i64) (Go.Sort.ahead w n) g 0 (zs.mergeSort fun x y => decide (x ≤ y)).toArray) os :=
     Proofs.Any.slices_Sort_int Tryz.lays189 g 0 cap zs w (holds_of_blockI hg htk') (heap_lt hg) (by omega)
   have hl : (⟨some ⟨g, 0, none⟩, zs.length, cap⟩ : Sl) = l := by cases l; simp_all
   show F.slices_Sort_sl_int_int l w R
   rw [← hl]
   refine Calls.mono c fun e w' h => ⟨h.1, ?_⟩
   obtain ⟨n, os, rfl⟩ := h.2
   refine hR _ ?_ ?_
   · rw [← hl]
     exact ownsRow_sortedI (ss := zs) (by simp) (Nat.zero_le _) hg (show zs.length ≤ cap by omega) hcm hcs
   · refine Fr.grown (grownBy_sortedI _) fun k hk => ?_
     injection hk with hk
     subst hk
     exact ⟨⟨g, 0, none⟩, by rw [← hl], rfl⟩
theorem compact_len (zs : List Int) : (compact zs).length ≤ zs.length := by
 unfold compact compactUpTo
 rw [List.length_map]
 have := List.length_filter_le (keeps zs.toArray) (List.range zs.length)
 simpa using this
theorem Compact_ints {w : World} {l : Sl} {zs : List Int} (hO : Own w T.y_int 1 l (intCells zs)) (hb : zs.length ≤ 1000000000) {R : Sl → World → Prop}
   (hR : ∀ l' w', l'.a = l.a → Own w' T.y_int 1 l' (intCells (compact zs)) → Fr l.bk w w' → R l' w') : F.slices_Compact_sl_int_int l w R := by
 have hlen : l.len = zs.length := (Own.ints hO).1
 rcases hO.2 with ⟨hv, h0⟩ | ⟨g, cap, cur, hv, hbg, hg, hnc, hcm, hcs, htk⟩
 · simp only [Value.slice.injEq] at hv
   have hl : l = ⟨none, 0, 0⟩ := by cases l; simp_all
   subst hl
   have hzs : zs = [] := List.eq_nil_of_length_eq_zero hlen.symm
   subst hzs
   have c : Calls Tryz.prog 229 #[.slice none 0 0] w fun e w' => e = .returned (.slice none 0 0) ∧ w' = w := Proofs.Any.slices_Compact_int_empty Tryz.laysNm220 none 0 w
   refine Calls.mono c fun e w' h => ⟨⟨none, 0, 0⟩, h.1, ?_⟩
   have h2 := h.2
   subst h2
   exact hR _ w' rfl hO (Fr.refl _ _)
 · simp only [Value.slice.injEq] at hv
   obtain ⟨ha, _, hc⟩ := hv
   have htk' : cur.toList.take zs.length = zs.map (Value.int .i64) := by rw [← hlen, ← Nat.mul_one l.len]; exact htk
   have c : Calls Tryz.prog 229 #[.slice (some ⟨g, 0, none⟩) zs.length cap] w fun e w' => e = .returned (.slice (some ⟨g, 0, none⟩) (compact zs).length cap) ∧ ∃ q, w' = Go.Sort.putRow (Value.int .i64) (Go.Sort.ahead w q) g 0 (compact zs ++ List.replicate (zs.length - (compact zs).length) 0).toArray :=
     Proofs.Any.slices_Compact_int Tryz.laysNm220 g 0 cap zs w (holds_of_blockI hg htk') (by omega) (by omega)
   have hl : (⟨some ⟨g, 0, none⟩, zs.length, cap⟩ : Sl) = l := by cases l; simp_all
   rw [← hl]
   refine Calls.mono c fun e w' h => ⟨⟨some ⟨g, 0, none⟩, (compact zs).length, cap⟩, h.1, ?_⟩
   obtain ⟨n, rfl⟩ := h.2
   have hcl := compact_len zs
   have hg2 := heap_sortedI (n := n) (os := #[]) (compact zs ++ List.replicate (zs.length - (compact zs).length) 0).toArray hg
   have hgr := grownBy_sortedI (w := w) (g := g) (n := n) (os := #[]) (compact zs ++ List.replicate (zs.length - (compact zs).length) 0).toArray
   rw [Go.Sort.grow_empty] at hg2 hgr
   have hts := take_putCellsI cur (compact zs ++ List.replicate (zs.length - (compact zs).length) 0) (by rw [List.length_append, List.length_replicate]; omega)
   refine hR _ _ ?_ ?_ ?_
   · rw [← hl]
   · refine ⟨by simp [intCells], .inr ⟨g, cap, _, rfl, Nat.zero_le _, hg2, by simp only; omega, hcm, by simp [Go.Sort.putCells, hcs], ?_⟩⟩
     have h2 : (List.take ((compact zs ++ List.replicate (zs.length - (compact zs).length) 0).length) (Go.Sort.putCells (Value.int .i64) 0 (compact zs ++ List.replicate (zs.length - (compact zs).length) 0).toArray cur).toList).take (compact zs).length = ((compact zs ++ List.replicate (zs.length - (compact zs).length) 0).map (Value.int .i64)).take (compact zs).length := by rw [hts]
     rw [List.take_take, Nat.min_eq_left (by rw [List.length_append]; omega), List.map_append, List.take_append_of_le_length (by simp)] at h2
     have h3 : ((compact zs).map (Value.int .i64)).take (compact zs).length = (compact zs).map (Value.int .i64) := List.take_of_length_le (by simp)
     rw [h3] at h2
     simp only [Nat.mul_one]
     exact h2
   · refine Fr.grown hgr fun k hk => ?_
     injection hk with hk
     subst hk
     exact ⟨⟨g, 0, none⟩, by rw [← hl], rfl⟩
theorem Next_head {w : World} {seq : Int} {full : Bool} {tl targets : Sl} {zs : List Int} (hT : Ints w targets zs) (hb : zs.length ≤ 1000000000) (h0 : -4611686018427387904 ≤ seq) (h1 : seq < 4611686018427387904) {R : Int → Bool → Sl → World → Prop}
   (hR : ∀ l w', Own w' T.y_int 1 l (intCells (nextT zs)) → (∀ k, l.bk k → w.heap.size ≤ k) → Below w.heap.size w w' → R (seq + 1) true l w') : F.head_Next seq full tl targets w R := by
 apply E.head_Next
 unfold V.head_Next
 try simp -zeta only [ldC, soC, brC, bkA, slC, stC, alC, drC]
 intro w1 w2
 have c1 : w2.heap[w.heap.size]? = some (.cells ⟨[.int .i64 seq, .bool full, .slice tl.a tl.len tl.cap]⟩ T.y_head_Head (0, 0)) := (Fr.alloc no w1 _).heap (heap_new w _) id
 have c2 : w2.heap[w1.heap.size]? = some (.cells ⟨[.int .i64 0, .bool false, .slice none 0 0]⟩ T.y_head_Head (0, 0)) := heap_new w1 _
 have hs1 : w1.heap.size = w.heap.size + 1 := by simp [w1]
 have hB2 : Below w.heap.size w w2 := (below_fr (Fr.alloc no w _)).trans ((below_fr (Fr.alloc no w1 _)).mono (by omega))
 have hs2 : w2.heap.size = w.heap.size + 2 := by simp [w2, hs1]
 clear_value w2
 refine Clone_ints (hT.below hB2) hb fun l w3 hO3 hbk3 hB3 => ?_
 refine Sort_ints hO3 hb fun w4 hO4 hF4 => ?_
 intro w5
 have hO5 : Own w5 T.y_int 1 l (intCells (zs.mergeSort fun x y => decide (x ≤ y))) := hO4.keep (Fr.drew no w4) (fun _ _ => id)
 have hF5 : Fr l.bk w3 w5 := hF4.trans (Fr.drew l.bk w4) (fun _ _ h => h)
 clear_value w5
 have k1 := hF5.heap ((fr_below hB3).heap c1 id) (fun hk => by have := hbk3 _ hk; omega)
 have k2 := hF5.heap ((fr_below hB3).heap c2 id) (fun hk => by have := hbk3 _ hk; omega)
 refine ⟨seq, by rw [blk_cell0 k1]; rfl, ?_⟩
 refine Compact_ints hO5 (by rw [List.length_mergeSort]; exact hb) fun l6 w6 ha6 hO6 hF6 => ?_
 have m1 := hF6.heap k1 (fun hk => by have := hbk3 _ hk; omega)
 have m2 := hF6.heap k2 (fun hk => by have := hbk3 _ hk; omega)
 have hbk6 : ∀ k, l6.bk k → w2.heap.size ≤ k := fun k hk => hbk3 k (by obtain ⟨a, h, h'⟩ := hk; exact ⟨a, by rw [← ha6]; exact h, h'⟩)
 have e1 : w64 (seq + 1) = seq + 1 := w64_id (by omega) (by omega)
 rw [e1]
 refine ⟨by rw [blk_cell0 m1]; rfl, ?_⟩
 refine ret3 m2 (seq + 1) true l6 (Q := fun n f l w' => R n f l w') fun w7 hF7 => ?_
 refine hR l6 w7 (hO6.keep hF7 (fun k hk h => by have := hbk6 k hk; have : k = w1.heap.size := h; omega)) (fun k hk => by have := hbk6 k hk; omega) ?_
 have a1 := hB2.trans (hB3.mono hB2.size)
 have a2 := a1.trans (hF5.toBelow (B := w.heap.size) (fun k hk => by have := hbk3 k hk; omega) a1.size)
 have a3 := a2.trans (hF6.toBelow (B := w.heap.size) (fun k hk => by have := hbk3 k hk; omega) a2.size)
 exact a3.trans (hF7.toBelow (B := w.heap.size) (fun k hk => by have : k = w1.heap.size := hk; omega) a3.size)
end Go.Proofs.YtggachhkcmfijaaGreatDoor

/- masonrylaw8.alive. -/
set_option linter.unusedVariables false
namespace Go.Proofs.YtggachhkcmfijaaGreatDoor
open Go Go.Vc Go.RowKit Go.Lib
end Go.Proofs.YtggachhkcmfijaaGreatDoor

/- slices with rows of their own: what lies apart; an element set. -/
set_option linter.unusedVariables false
namespace Go.Proofs.YtggachhkcmfijaaGreatDoor
open Go Go.Vc Go.RowKit Go.Lib
/-- append to a slice with a row of its own: in place, or into a new row, the old one left as it was -/
theorem runT_append2 {P : Program} {w : World} {t ty e : TypeId} {i : TypeInfo} {z : Value} {size bytes : Nat} (ht : P.underlying t = some (.slice e)) (hi : P.info? e = some i) (hz : i.zero = some z)
   (hsize : i.size = size) (hby : i.bytes = bytes) (hzs : z.cells.size = size) (hsz : 0 < size) {l : Sl} {xs : List Value} (hown : Own w e size l xs)
   {a : Addr} {m c : Nat} {news : List Value} (hl : news.length = m * size) (hnews : ∀ j u, news[j]? = some u → w.cell? (a.add j) = some u) (h1 : ∀ u ∈ news, u.oneCell' = true)
   (h63 : l.len + m ≤ maxLen) (hbytes : (l.len + m) * bytes ≤ 140737488355328) {R : Sl → World → Prop}
   (hR : ∀ l' w', Own w' e size l' (xs ++ news) → l'.len = l.len + m → ((l'.a = l.a ∧ Fr l.bk w w') ∨ ((∃ g, l'.a = some (blk g) ∧ w.heap.size ≤ g) ∧ Fr no w w')) → R l' w') :
   RunT P (Builtin.append_ #[t, t] ty #[.slice l.a l.len l.cap, .slice (some a) m c]) [.one .slice] w R := by
 obtain ⟨v', w', hr, ho, hg, hn⟩ := run_append_own (P := P) w 0 t ty e i z size bytes ht hi hz hsize hby hzs hsz _ l.len xs hown a m c news hl hnews h1 h63 hbytes (Nat.zero_le _)
 subst hsize
 subst hby
 have hsmall : l.len + m ≤ 9223372036854775807 := by simp only [maxLen] at h63; omega
 have hfr := fr_of_grown (l := l) hg
 have key : ∃ l' : Sl, v' = .slice l'.a l'.len l'.cap ∧ l'.len = l.len + m ∧ ((l'.a = l.a ∧ Fr l.bk w w') ∨ ((∃ g, l'.a = some (blk g) ∧ w.heap.size ≤ g) ∧ Fr no w w')) := by
   rcases hown.2 with ⟨h2, h0⟩ | ⟨g, cap, cur, h2, hbg, hgg, hnc, hcm, hcs, htake⟩
   · simp only [Value.slice.injEq] at h2
     obtain ⟨ha, hl0, hc0⟩ := h2
     by_cases hm : m = 0
     · exact ⟨⟨none, 0, 0⟩, hn.2 ⟨by rw [ha, hl0, hc0], hm⟩, by simp [hl0, hm], .inl ⟨ha.symm, hfr⟩⟩
     · have h3 := run_append_nil (P := P) w t ty e i z ht hi hz a m c news hl hnews (by omega) (by omega) (by rw [hl0] at hbytes; simp only [Nat.zero_add] at hbytes; omega)
       rw [ha, hl0, hc0] at hr
       rw [h3] at hr
       injection hr with hr hw
       refine ⟨⟨some (blk w.heap.size), m, _⟩, hr.symm, by simp [hl0], .inr ⟨⟨_, rfl, Nat.le_refl _⟩, ?_⟩⟩
       rw [← hw]
       exact (Fr.drew no w).trans (Fr.alloc no _ _) (fun _ _ h => h)
   · simp only [Value.slice.injEq] at h2
     obtain ⟨ha, _, hc0⟩ := h2
     by_cases hroom : l.len + m ≤ l.cap
     · have hfit : l.len * i.size + news.length ≤ cur.size := by rw [hl, hcs, ← Nat.add_mul, ← hc0]; exact Nat.mul_le_mul_right _ hroom
       have h3 := run_append_room (P := P) w t ty e i ht hi g l.len l.cap cur hgg a m c news hl hnews h1 hroom hfit
       rw [ha] at hr
       rw [h3] at hr
       injection hr with hr _
       exact ⟨⟨some (blk g), l.len + m, l.cap⟩, hr.symm, rfl, .inl ⟨ha.symm, hfr⟩⟩
     · have holds : ∀ j u, xs[j]? = some u → w.cell? ((⟨g, 0, none⟩ : Addr).add j) = some u := World.ownsRow.cells hown (g := g) (by rw [ha]; rfl)
       have h3 := run_append_grow (P := P) w t ty e i z ht hi hz ⟨g, 0, none⟩ l.len l.cap xs hown.1 holds a m c news hl hnews (by omega) (by omega) (growslice_fits (by omega) hbytes)
       rw [ha] at hr
       rw [h3] at hr
       injection hr with hr hw
       refine ⟨⟨some (blk w.heap.size), l.len + m, _⟩, hr.symm, rfl, .inr ⟨⟨_, rfl, Nat.le_refl _⟩, ?_⟩⟩
       rw [← hw]
       exact (Fr.drew no w).trans (Fr.alloc no _ _) (fun _ _ h => h)
 obtain ⟨l', rfl, hlen, hmv⟩ := key
 exact runT_slice hr (hR l' w' (by unfold Own; rw [← hlen] at ho; exact ho) hlen hmv)
theorem Own.typ {w : World} {t : TypeId} {size : Nat} {l : Sl} {xs : List Value} (h : Own w t size l xs) {k : Nat} (hk : l.bk k) : ∃ cs, w.heap[k]? = some (.cells cs t (0, 0)) := by
 obtain ⟨a, ha, rfl⟩ := hk
 rcases h.2 with ⟨h2, _⟩ | ⟨g, cap, cur, h2, hbg, hgg, _⟩
 · simp only [Value.slice.injEq] at h2
   rw [ha] at h2; cases h2.1
 · simp only [Value.slice.injEq] at h2
   rw [ha] at h2
   have : a = ⟨g, 0, none⟩ := by simpa using h2.1
   subst this
   exact ⟨cur, hgg⟩
theorem typ_ne {w : World} {k : Nat} {cs cs' : Array Value} {t t' : TypeId} (h : w.heap[k]? = some (.cells cs t (0, 0))) (h' : w.heap[k]? = some (.cells cs' t' (0, 0))) (hn : t ≠ t') : False := by
 rw [h] at h'
 injection h' with h'
 injection h' with _ h'
 exact hn h'
def slV (s : Sl) : Value := .slice s.a s.len s.cap
end Go.Proofs.YtggachhkcmfijaaGreatDoor
