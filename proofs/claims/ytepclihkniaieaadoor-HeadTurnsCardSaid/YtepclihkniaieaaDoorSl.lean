/- slices of names: plain, same, Light, Clone, Contains. -/
import Derived.Test.YtepclihkniaieaaDoorTr
import Derived.Test.YtepclihkniaieaaDoorTn
set_option linter.unusedVariables false
namespace Go.Proofs.YtepclihkniaieaaDoor
open Go Go.Vc Go.RowKit Go.Lib

/-- the room that is left; below 0: none -/
def roomOf (left : Int) : List Int → Int
  | [] => left
  | n :: r => if left < 0 then -1 else if left < n then -1 else roomOf (left - n) r

theorem Room_one {w : World} {h : Nat} {n left : Int} (hh : w.heap[h]? = some (.cells ⟨[.int .i64 n]⟩ T.y_int (0, 0))) (hl : -1 ≤ left) (hl2 : left < 9223372036854775808) (hn : 0 ≤ n) {R : Int → World → Prop} (hR : R (roomOf left [n]) w) :
    F.masonrybook_Room left ⟨some (blk h), 1, 1⟩ w R := by
  apply E.masonrybook_Room
  unfold V.masonrybook_Room
  refine ⟨fun x i w' => w' = w ∧ ((i = 0 ∧ x = left) ∨ (i = 1 ∧ x = roomOf left [n])), fun _ i _ => (1 - i).toNat, ⟨rfl, .inl ⟨rfl, rfl⟩⟩, ?_⟩
  rintro x i w' ⟨rfl, ⟨rfl, rfl⟩ | ⟨rfl, rfl⟩⟩
  · refine ⟨fun _ => ⟨fun hneg => ?_, fun hpos => ?_⟩, fun hf => by simp at hf⟩
    · have hneg : x < 0 := of_decide_eq_true hneg
      have e : roomOf x [n] = -1 := by simp [roomOf, hneg]
      rw [e] at hR; exact hR
    have hpos : ¬ x < 0 := of_decide_eq_false hpos
    have hc : w'.cell? ((blk h).add ((0 : Int).toNat * 1)) = some (.int .i64 n) := by have := blk_cell hh 0; simpa using this
    refine ⟨blk h, rfl, by decide, by show (0 : Int) < 1; decide, n, hc, fun hbig => ?_, fun hsm => ?_⟩
    · have hbig : x < n := by have := of_decide_eq_true hbig; omega
      have e : roomOf x [n] = -1 := by simp [roomOf, hpos, hbig]
      rw [e] at hR; exact hR
    have hsm : ¬ x < n := by have := of_decide_eq_false hsm; omega
    have e : roomOf x [n] = x - n := by simp [roomOf, hpos, hsm]
    refine ⟨blk h, rfl, by decide, by show (0 : Int) < 1; decide, n, hc, ⟨rfl, .inr ⟨by rw [w64_id (by decide) (by decide)]; rfl, by rw [w64_id (by omega) (by omega), e]⟩⟩, ?_⟩
    show ((1 : Int) - w64 (0 + 1)).toNat < ((1 : Int) - 0).toNat
    rw [w64_id (by decide) (by decide)]; decide
  · exact ⟨fun ht => by simp at ht, fun _ => hR⟩

theorem roomOf_one {left n : Int} (hl : -1 ≤ left) (hn : 0 ≤ n) : -1 ≤ roomOf left [n] ∧ (roomOf left [n] ≤ left ∨ roomOf left [n] = -1) ∧ (0 ≤ roomOf left [n] → 0 ≤ left ∧ n ≤ left) := by
  unfold roomOf roomOf
  split
  · omega
  · split
    · omega
    · omega

theorem Light_spec {w : World} {sl : Sl} {ns : List (List UInt8 × Int)} (hN : Names w sl ns) {R : Bool → World → Prop}
    (hR : ∀ b w', (b = true → ns.length ≤ 60 ∧ ∀ n ∈ ns, n.1.length ≤ 2000) → Below w.heap.size w w' → R b w') : F.masonrylaw21_Light sl w R := by
  apply E.masonrylaw21_Light
  unfold V.masonrylaw21_Light
  have hlen := hN.1
  refine ⟨fun room i w' => ∃ m : Nat, i = m ∧ m ≤ ns.length ∧ -1 ≤ room ∧ room ≤ 2000 ∧ (0 ≤ room → ∀ j n, j < m → ns[j]? = some n → n.1.length ≤ 2000) ∧ Below w.heap.size w w', fun _ i _ => (ns.length - i).toNat, ⟨0, rfl, Nat.zero_le _, by decide, by decide, fun _ j n hj => absurd hj (Nat.not_lt_zero _), Below.refl _ _⟩, ?_⟩
  rintro room i w1 ⟨m, rfl, hm, hr1, hr2, hall, hB⟩
  have fin : ∀ {P : Prop}, (ns.length ≤ 60 → 0 ≤ room → m = ns.length) → (((decide (((sl.len : Nat) : Int) ≤ 60)) = true → (R (decide (room ≥ 0)) w1)) ∧ ((decide (((sl.len : Nat) : Int) ≤ 60)) = false → (R false w1))) := by
    intro _ h
    refine ⟨fun h60 => hR _ w1 (fun hd => ?_) hB, fun _ => hR false w1 (fun h => by cases h) hB⟩
    have h60 : ns.length ≤ 60 := by have := of_decide_eq_true h60; omega
    have hd : 0 ≤ room := by have := of_decide_eq_true hd; omega
    have hmm := h h60 hd
    refine ⟨h60, fun n hn => ?_⟩
    obtain ⟨j, hj, rfl⟩ := List.mem_iff_getElem.1 hn
    exact hall hd j _ (by omega) (by simp [hj])
  refine ⟨fun hlt => ⟨fun h100 => ⟨fun hpos => ?_, fun hneg => ?_⟩, fun h100 => ?_⟩, fun hge => ?_⟩
  · have hlt : m < ns.length := by have := of_decide_eq_true hlt; omega
    have hpos : 0 ≤ room := by have := of_decide_eq_true hpos; omega
    have h100 : m < 100 := by have := of_decide_eq_true h100; omega
    obtain ⟨a, ha, hc1, hc2⟩ := (hN.below hB).2 m ns[m] (by simp [hlt])
    have e1 : w64 ((m : Int) + 1) = ((m + 1 : Nat) : Int) := by rw [w64_id (by omega) (by omega)]; omega
    refine ⟨a, ha, by omega, by omega, tx ns[m].1, by simpa using hc1, ?_⟩
    rw [tx_size]
    intro w2
    have h2 : w2.heap[w1.heap.size]? = some (.cells ⟨[.int .i64 (ns[m].1.length : Int)]⟩ T.y_int (0, 0)) := heap_new w1 _
    have hB2 : Below w.heap.size w w2 := hB.trans ((below_fr (Fr.alloc no w1 _)).mono hB.size)
    clear_value w2
    have ho := roomOf_one (left := room) (n := (ns[m].1.length : Int)) hr1 (by omega)
    refine Room_one h2 hr1 (by omega) (by omega) ⟨⟨m + 1, e1, hlt, ho.1, by omega, fun h0 j n hj hjn => ?_, hB2⟩, ?_⟩
    · rcases Nat.lt_succ_iff_lt_or_eq.1 hj with h' | h'
      · exact hall hpos j n h' hjn
      · subst h'
        have : n = ns[j] := by have : ns[j]? = some ns[j] := by simp [hlt]
                               rw [this] at hjn; exact (Option.some.inj hjn).symm
        subst this
        have := (ho.2.2 h0).2
        omega
    · show ((ns.length : Int) - w64 ((m : Int) + 1)).toNat < ((ns.length : Int) - (m : Int)).toNat
      rw [e1]; omega
  · exact fin (P := True) (fun _ h => by have := of_decide_eq_false hneg; omega)
  · exact fin (P := True) (fun h _ => by have := of_decide_eq_false h100; have := of_decide_eq_true hlt; omega)
  · exact fin (P := True) (fun _ _ => by have := of_decide_eq_false hge; omega)

theorem und_rnames : Pg.underlying T.y_sl_masonryref1_Name = some (.slice T.y_masonryref1_Name) := by kernel_rfl
theorem info_rname : ∃ i, Pg.info? T.y_masonryref1_Name = some i ∧ i.zero = some (.agg #[.string sNil, .int .i64 0]) ∧ i.size = 2 ∧ i.bytes = 24 := by
  have h : (Pg.info? T.y_masonryref1_Name).map (fun i => (i.zero, i.size, i.bytes)) = some (some (.agg #[.string sNil, .int .i64 0]), 2, 24) := by kernel_rfl
  obtain ⟨i, hi, h2⟩ := Option.map_eq_some_iff.1 h
  simp only [Prod.mk.injEq] at h2
  exact ⟨i, hi, h2.1, h2.2.1, h2.2.2⟩

theorem Own.names' {w : World} {t : TypeId} {l : Sl} {ns : List (List UInt8 × Int)} (h : Own w t 2 l (nameCells ns)) : Names w l ns := by
  refine ⟨by have := h.len; rw [nameCells_len] at this; omega, fun j n hj => ?_⟩
  obtain ⟨h1, h2⟩ := nameCells_at ns j n hj
  obtain ⟨a, ha, hc⟩ := h.cell h1
  obtain ⟨a', ha', hc'⟩ := h.cell h2
  rw [ha] at ha'
  injection ha' with ha'
  subst ha'
  exact ⟨a, ha, hc, by rw [add_add]; exact hc'⟩

theorem nameCells_app (a b : List (List UInt8 × Int)) : nameCells (a ++ b) = nameCells a ++ nameCells b := by simp [nameCells, List.flatMap_append]

theorem plain_spec {w : World} {sl : Sl} {ns : List (List UInt8 × Int)} (hN : Names w sl ns) (hb : ns.length ≤ 1000000000) {R : Sl → World → Prop}
    (hR : ∀ l w', Own w' T.y_masonryref1_Name 2 l (nameCells ns) → (∀ k, l.bk k → w.heap.size ≤ k) → Below w.heap.size w w' → R l w') : F.masonrylaw21_plain sl w R := by
  obtain ⟨i, hi, hz, hs1, hby⟩ := info_rname
  apply E.masonrylaw21_plain
  unfold V.masonrylaw21_plain
  have hlen := hN.1
  refine ⟨fun out i w' => ∃ m : Nat, i = m ∧ m ≤ ns.length ∧ Own w' T.y_masonryref1_Name 2 out (nameCells (ns.take m)) ∧ (∀ k, out.bk k → w.heap.size ≤ k) ∧ Below w.heap.size w w', fun _ i _ => (ns.length - i).toNat,
    ⟨0, rfl, Nat.zero_le _, Own.nil _ _ _, fun k hk => (by obtain ⟨a, ha, _⟩ := hk; cases ha), Below.refl _ _⟩, ?_⟩
  rintro out i w1 ⟨m, rfl, hm, hO, hbk, hB⟩
  refine ⟨fun hlt => ?_, fun hge => ?_⟩
  · have hlt : m < ns.length := by have := of_decide_eq_true hlt; omega
    have e1 : w64 ((m : Int) + 1) = ((m + 1 : Nat) : Int) := by rw [w64_id (by omega) (by omega)]; omega
    intro w2
    have hBd : Below w.heap.size w w2 := hB.drew
    have hOd : Own w2 T.y_masonryref1_Name 2 out (nameCells (ns.take m)) := hO.keep (Fr.drew no w1) (fun _ _ => id)
    clear_value w2
    obtain ⟨a, ha, hc1, hc2⟩ := (hN.below hBd).2 m ns[m] (by simp [hlt])
    have hc1' : w2.cell? (a.add ((m : Int).toNat * 2)) = some (.string (tx ns[m].1)) := by simpa using hc1
    have hc2' : w2.cell? ((a.add ((m : Int).toNat * 2)).add 1) = some (.int .i64 ns[m].2) := by simpa using hc2
    refine ⟨a, ha, by omega, by omega, tx ns[m].1, hc1', a, ha, by omega, by omega, ns[m].2, hc2', ?_⟩
    intro w3
    have h3 : w3.heap[w2.heap.size]? = some (.cells ⟨[.string (tx ns[m].1), .int .i64 ns[m].2]⟩ T.y_masonryref1_Name (0, 0)) := heap_new w2 _
    have hF3 : Fr no w2 w3 := Fr.alloc _ _ _
    clear_value w3
    have hO3 := hOd.keep hF3 (fun _ _ => id)
    have hol := hO3.len
    rw [nameCells_len, List.length_take] at hol
    refine ⟨hF3.cell hc2' id, hF3.cell hc1' id, ?_⟩
    refine runT_append und_rnames hi hz hs1 hby rfl (by decide) hO3 (m := 1) (news := [.string (tx ns[m].1), .int .i64 ns[m].2]) rfl (fun j u hu => by rw [blk_cell h3 j]; exact hu) (fun u hu => by
      simp only [List.mem_cons, List.not_mem_nil, or_false] at hu
      rcases hu with rfl | rfl <;> rfl) (by simp only [maxLen]; omega) (by omega) fun l2 w4 ho4 hl4 hf4 hm4 => ?_
    have hk1 : ∀ {p : Addr} {v : Value}, w2.cell? p = some v → p.block < w.heap.size → w4.cell? p = some v := fun hp hb' => hf4.cell (hF3.cell hp id) (fun hk => by have := hbk _ hk; omega)
    have hab : ∀ {x : Addr} {v : Value}, w.cell? x = some v → x.block < w.heap.size := fun h => World.block_lt_of_cell? w _ h
    obtain ⟨a0, ha0, hd1, hd2⟩ := hN.2 m ns[m] (by simp [hlt])
    rw [ha] at ha0
    injection ha0 with ha0
    subst ha0
    refine ⟨hk1 hc2' (by have := hab hd2; simpa using this), hk1 hc1' (by have := hab hd1; simpa using this), ⟨m + 1, e1, hlt, ?_, ?_, ?_⟩, ?_⟩
    · rw [List.take_succ_eq_append_getElem hlt, nameCells_app]; exact ho4
    · intro k hk
      rcases moved_bk hm4 hk with h | h
      · exact hbk k h
      · have := hBd.size; have := hF3.size; omega
    · exact (hBd.trans ((below_fr hF3).mono hBd.size)).trans (hf4.toBelow (fun k hk => hbk k hk) (by have := hBd.size; have := hF3.size; omega))
    · show ((ns.length : Int) - w64 ((m : Int) + 1)).toNat < ((ns.length : Int) - (m : Int)).toNat
      rw [e1]; omega
  · have hge : ns.length ≤ m := by have := of_decide_eq_false hge; omega
    have : m = ns.length := by omega
    subst this
    rw [List.take_length] at hO
    exact hR out w1 hO hbk hB

theorem same_spec {w : World} {sl rl : Sl} {ns ms : List (List UInt8 × Int)} (hN : Names w sl ns) (hM : Names w rl ms) (hb : ns.length ≤ 1000000000) {R : Bool → World → Prop} (hR : ∀ w', Below w.heap.size w w' → R (decide (ns = ms)) w') : F.masonrylaw21_same sl rl w R := by
  apply E.masonrylaw21_same
  unfold V.masonrylaw21_same
  have hl1 := hN.1
  have hl2 := hM.1
  have hl : ((sl.len : Nat) : Int) = (ns.length : Int) := by rw [hl1]
  have hr : ((rl.len : Nat) : Int) = (ms.length : Int) := by rw [hl2]
  rw [hl, hr]
  refine ⟨fun hne => ?_, fun heq => ?_⟩
  · have hne : ns.length ≠ ms.length := fun h => by rw [h] at hne; simp at hne
    have : decide (ns = ms) = false := decide_eq_false fun h => hne (by rw [h])
    rw [← this]; exact hR w (Below.refl _ _)
  have heq : ns.length = ms.length := by have h := heq; simp at h; omega
  refine ⟨fun i w' => ∃ m : Nat, i = m ∧ m ≤ ns.length ∧ ns.take m = ms.take m ∧ Below w.heap.size w w', fun i _ => (ns.length - i).toNat, ⟨0, rfl, Nat.zero_le _, rfl, Below.refl _ _⟩, ?_⟩
  rintro i w1 ⟨m, rfl, hm, htk, hB⟩
  refine ⟨fun hlt => ?_, fun hge => ?_⟩
  · have hlt : m < ns.length := by have := of_decide_eq_true hlt; omega
    have hlt2 : m < ms.length := by omega
    have e1 : w64 ((m : Int) + 1) = ((m + 1 : Nat) : Int) := by rw [w64_id (by omega) (by omega)]; omega
    intro w2
    have hBd : Below w.heap.size w w2 := hB.drew
    clear_value w2
    obtain ⟨a, ha, hc1, hc2⟩ := (hN.below hBd).2 m ns[m] (by simp [hlt])
    obtain ⟨b, hb', hd1, hd2⟩ := (hM.below hBd).2 m ms[m] (by simp [hlt2])
    have no' : ns[m] ≠ ms[m] → R false w2 := fun h => by
      have : decide (ns = ms) = false := decide_eq_false fun h' => h (by subst h'; rfl)
      rw [← this]; exact hR _ hBd
    refine ⟨a, ha, by omega, by omega, tx ns[m].1, by simpa using hc1, b, hb', by omega, by omega, tx ms[m].1, by simpa using hd1, ?_⟩
    rw [tx_eq]
    refine ⟨fun h => no' (fun h' => by rw [h'] at h; simp at h), fun h => ?_⟩
    have h : ns[m].1 = ms[m].1 := by simpa using h
    refine ⟨a, ha, by omega, by omega, ns[m].2, by simpa using hc2, b, hb', by omega, by omega, ms[m].2, by simpa using hd2, fun h2 => no' (fun h' => by rw [h'] at h2; simp at h2), fun h2 => ?_⟩
    have h2 : ns[m].2 = ms[m].2 := by simpa using h2
    refine ⟨⟨m + 1, e1, hlt, ?_, hBd⟩, ?_⟩
    · rw [List.take_succ_eq_append_getElem hlt, List.take_succ_eq_append_getElem hlt2, htk]
      have : ns[m] = ms[m] := Prod.ext h h2
      rw [this]
    · show ((ns.length : Int) - w64 ((m : Int) + 1)).toNat < ((ns.length : Int) - (m : Int)).toNat
      rw [e1]; omega
  · have hge : ns.length ≤ m := by have := of_decide_eq_false hge; omega
    have : m = ns.length := by omega
    subst this
    have h : ns = ms := by
      rw [List.take_length, heq, List.take_length] at htk
      exact htk
    have : decide (ns = ms) = true := decide_eq_true h
    rw [← this]; exact hR w1 hB

end Go.Proofs.YtepclihkniaieaaDoor
