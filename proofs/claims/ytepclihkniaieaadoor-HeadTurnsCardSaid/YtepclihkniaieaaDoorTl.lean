/- table.Lay: the names as bytes. -/
import Derived.Test.YtepclihkniaieaaDoorTb
set_option linter.unusedVariables false
namespace Go.Proofs.YtepclihkniaieaaDoor
open Go Go.Vc Go.RowKit Go.Lib

/-- the names of a slice -/
def Names (w : World) (sl : Sl) (ns : List (List UInt8 × Int)) : Prop :=
  sl.len = ns.length ∧ ∀ j n, ns[j]? = some n → ∃ a, sl.a = some a ∧ w.cell? (a.add (j * 2)) = some (.string (tx n.1)) ∧ w.cell? ((a.add (j * 2)).add 1) = some (.int .i64 n.2)

theorem Names.below {w w' : World} {sl : Sl} {ns : List (List UInt8 × Int)} (h : Names w sl ns) (hw : Below w.heap.size w w') : Names w' sl ns :=
  ⟨h.1, fun j n hj => by
    obtain ⟨a, ha, h1, h2⟩ := h.2 j n hj
    exact ⟨a, ha, by rw [hw.cell (World.block_lt_of_cell? w _ h1)]; exact h1, by rw [hw.cell (World.block_lt_of_cell? w _ h2)]; exact h2⟩⟩

def okAt (ns : List (List UInt8 × Int)) (j : Nat) : Bool :=
  match ns[j]? with
  | none => true
  | some n => validN n.1 && (decide (1 ≤ n.2) && (decide (n.2 < 2000) && (decide (j = 0) || !(Op.bytesLess n.1 (ns.getD (j - 1) ([], 0)).1 || decide (n.1 = (ns.getD (j - 1) ([], 0)).1)))))

def name1 (n : List UInt8 × Int) : List UInt8 := leBytes 1 n.1.length ++ n.1 ++ leBytes 2 n.2

def layNames (ns : List (List UInt8 × Int)) : List UInt8 × Int :=
  if (List.range ns.length).all (okAt ns) then (if 40 < ns.length then ([], 2) else (leBytes 1 ns.length ++ ns.flatMap name1, 0)) else ([], 1)

theorem setCell_size (w : World) (a : Addr) (v : Value) : (w.setCell a v).heap.size = w.heap.size := by simp [World.setCell]

/-- a variable of two cells that is made, and set -/
theorem var2 (w : World) (t : TypeId) (a b x y : Value) :
    Wr (w.alloc (.cells #[a, b] t)) (blk w.heap.size) ∧ Wr ((w.alloc (.cells #[a, b] t)).setCell (blk w.heap.size) x) ((blk w.heap.size).add 1) ∧
    (((w.alloc (.cells #[a, b] t)).setCell (blk w.heap.size) x).setCell ((blk w.heap.size).add 1) y).heap[w.heap.size]? = some (.cells ⟨[x, y]⟩ t (0, 0)) ∧
    Fr no w (((w.alloc (.cells #[a, b] t)).setCell (blk w.heap.size) x).setCell ((blk w.heap.size).add 1) y) ∧
    (((w.alloc (.cells #[a, b] t)).setCell (blk w.heap.size) x).setCell ((blk w.heap.size).add 1) y).heap.size = w.heap.size + 1 := by
  have h1 : (w.alloc (.cells #[a, b] t)).heap[w.heap.size]? = some (.cells ⟨[a, b]⟩ t (0, 0)) := heap_new w _
  have h2 := blk_set0 h1 x
  have h3 := blk_set h2 1 y
  have hfr : Fr (fun k => w.heap.size ≤ k) w (((w.alloc (.cells #[a, b] t)).setCell (blk w.heap.size) x).setCell ((blk w.heap.size).add 1) y) :=
    (((Fr.alloc (fun k => w.heap.size ≤ k) w _).trans ((fr_set0 _ w.heap.size x).mono (S' := fun k => w.heap.size ≤ k) (fun k _ h => Nat.le_of_eq h.symm)) (fun _ _ h => h)).trans
      ((fr_set _ w.heap.size 1 y).mono (S' := fun k => w.heap.size ≤ k) (fun k _ h => Nat.le_of_eq h.symm)) (fun _ _ h => h))
  refine ⟨blk_wr0 h1 (by simp), blk_wr h2 (by simp), by simpa using h3, hfr.mono (fun k hk h => by omega), ?_⟩
  rw [setCell_size, setCell_size]; simp

abbrev abv (B : Nat) : Nat → Prop := fun k => B ≤ k

theorem inIv_lt {g : Nat} : ∀ {l : List (Nat × Nat)}, inIv l g → (l.any fun p => decide (p.1 ≤ g) && decide (g < p.2)) = true
  | [], h => h.elim
  | (a, b) :: r, h => by
    rw [List.any_cons]
    rcases h with ⟨h1, h2⟩ | h
    · simp [h1, h2]
    · rw [inIv_lt h]; simp

theorem lay1_ok {size : Nat} {v : Int} {bs : List UInt8} (h : fitsN size v = true) : lay1 size v (bs, 0) = (bs ++ leBytes size v, 0) := by simp [lay1, layL, h]

theorem Lay_spec {w : World} {sl : Sl} {ns : List (List UInt8 × Int)} (hN : Names w sl ns) (hb : ns.length ≤ 1000000) (hl : ∀ n ∈ ns, n.1.length ≤ 1099511627776) {R : ByteArray → Int → World → Prop}
    (hR : ∀ w', Below w.heap.size w w' → R (tx (layNames ns).1) (layNames ns).2 w') : F.table_Lay sl w R := by
  apply E.table_Lay
  unfold V.table_Lay
  have hlen := hN.1
  refine ⟨fun n w' => ∃ m : Nat, n = m ∧ m ≤ ns.length ∧ (∀ j, j < m → okAt ns j = true) ∧ Below w.heap.size w w', fun n _ => (ns.length - n).toNat, ⟨0, rfl, Nat.zero_le _, fun j hj => absurd hj (Nat.not_lt_zero _), Below.refl _ _⟩, ?_⟩
  rintro n w1 ⟨m, rfl, hm, hok, hB⟩
  have hN1 := hN.below hB
  refine ⟨fun hlt => ?_, fun hge => ?_⟩
  · have hlt : m < ns.length := by have := of_decide_eq_true hlt; omega
    obtain ⟨a, ha, hc1, hc2⟩ := hN1.2 m ns[m] (by simp [hlt])
    have e1 : w64 ((m : Int) + 1) = ((m + 1 : Nat) : Int) := by rw [w64_id (by omega) (by omega)]; omega
    have hat : okAt ns m = (validN ns[m].1 && (decide (1 ≤ ns[m].2) && (decide (ns[m].2 < 2000) && (decide (m = 0) || !(Op.bytesLess ns[m].1 (ns.getD (m - 1) ([], 0)).1 || decide (ns[m].1 = (ns.getD (m - 1) ([], 0)).1)))))) := by
      unfold okAt
      have : ns[m]? = some ns[m] := by simp [hlt]
      rw [this]
    have bad : ∀ w', okAt ns m = false → Below w.heap.size w w' → R sNil 1 w' := fun w' h hw => by
      have e2 : layNames ns = ([], 1) := by
        unfold layNames
        rw [if_neg]
        rw [List.all_eq_true]
        intro hall
        have := hall m (List.mem_range.2 hlt)
        rw [h] at this; cases this
      rw [e2] at hR
      exact hR w' hw
    have good : ∀ w', okAt ns m = true → Below w.heap.size w w' → ((∃ m' : Nat, w64 ((m : Int) + 1) = m' ∧ m' ≤ ns.length ∧ (∀ j, j < m' → okAt ns j = true) ∧ Below w.heap.size w w') ∧ ((ns.length : Int) - w64 ((m : Int) + 1)).toNat < ((ns.length : Int) - (m : Int)).toNat) :=
      fun w' h hw => ⟨⟨m + 1, e1, hlt, fun j hj => by
        rcases Nat.lt_succ_iff_lt_or_eq.1 hj with h' | h'
        · exact hok j h'
        · rw [h']; exact h, hw⟩, by rw [e1]; omega⟩
    obtain ⟨hw1, hw2, hv, hF, hs⟩ := var2 w1 T.y_table_Name (.string sNil) (.int .i64 0) (.string (tx ns[m].1)) (.int .i64 ns[m].2)
    refine ⟨a, ha, by omega, by omega, tx ns[m].1, by simpa using hc1, ns[m].2, by simpa using hc2, hw1, hw2, tx ns[m].1, by rw [drew_cell, blk_cell0 hv]; rfl, ?_⟩
    refine Valid_spec (hl _ (List.getElem_mem _)) fun w5 hw5 => ?_
    have hF5 : Fr no w1 w5 := (hF.trans (Fr.drew no _) (fun _ _ h => h)).trans (fr_below hw5) (fun _ _ h => h)
    have hB5 : Below w.heap.size w w5 := hB.trans ((below_fr hF5).mono hB.size)
    have hN5 := hN.below hB5
    have hv5 : w5.heap[w1.heap.size]? = some (.cells ⟨[.string (tx ns[m].1), .int .i64 ns[m].2]⟩ T.y_table_Name (0, 0)) := (fr_below hw5).heap hv id
    refine ⟨fun hnv => bad w5 (by rw [hat]; simp at hnv; simp [hnv]) hB5, fun hvd => ?_⟩
    have hvd : validN ns[m].1 = true := by simpa using hvd
    refine ⟨ns[m].2, by rw [blk_cell hv5]; rfl, fun h1 => bad w5 (by rw [hat]; have := of_decide_eq_true h1; have h2 : ¬ 1 ≤ ns[m].2 := by omega
                                                                     simp [h2]) hB5, fun h1 => ⟨ns[m].2, by rw [blk_cell hv5]; rfl, fun h2 => bad w5 (by rw [hat]; have := of_decide_eq_true h2; have h2 : ¬ ns[m].2 < 2000 := by omega
                                                                                                                                                         simp [h2]) hB5, fun h2 => ?_⟩⟩
    have h1 : 1 ≤ ns[m].2 := by have := of_decide_eq_false h1; omega
    have h2 : ns[m].2 < 2000 := by have := of_decide_eq_false h2; omega
    refine ⟨fun h3 => ?_, fun h3 => ?_⟩
    · have h3 : 0 < m := by have := of_decide_eq_true h3; omega
      have e2 : w64 ((m : Int) - 1) = ((m - 1 : Nat) : Int) := by rw [w64_id (by omega) (by omega)]; omega
      have hlt' : m - 1 < ns.length := by omega
      obtain ⟨a', ha', hc1', hc2'⟩ := hN5.2 (m - 1) ns[m - 1] (by simp [hlt'])
      refine ⟨tx ns[m].1, by rw [blk_cell0 hv5]; rfl, a', ha', by rw [e2]; omega, by rw [e2]; omega, tx ns[m - 1].1, by rw [e2]; simpa using hc1', ?_⟩
      rw [tx_lt, tx_eq]
      have hg : ns.getD (m - 1) ([], 0) = ns[m - 1] := by simp [hlt']
      rw [hg] at hat
      refine ⟨fun h4 => bad w5 (by rw [hat, h4]; simp; omega) hB5, fun h4 => good w5 (by rw [hat, h4]; simp [hvd, h1, h2]) hB5⟩
    · have h3 : m = 0 := by have := of_decide_eq_false h3; omega
      have h3' : decide (m = 0) = true := by simp [h3]
      exact good w5 (by rw [hat, hvd, h3']; simp [h1, h2]) hB5
  · have hge : ns.length ≤ m := by have := of_decide_eq_false hge; omega
    have hmm : m = ns.length := by omega
    subst hmm
    have hall : (List.range ns.length).all (okAt ns) = true := List.all_eq_true.2 fun j hj => hok j (List.mem_range.1 hj)
    refine ⟨fun h40 => ?_, fun h40 => ?_⟩
    · have h40 : 40 < ns.length := by have := of_decide_eq_true h40; omega
      have e2 : layNames ns = ([], 2) := by unfold layNames; rw [if_pos hall, if_pos h40]
      rw [e2] at hR
      exact hR w1 hB
    have h40 : ns.length ≤ 40 := by have := of_decide_eq_false h40; omega
    have e2 : layNames ns = (leBytes 1 ns.length ++ ns.flatMap name1, 0) := by unfold layNames; rw [if_pos hall, if_neg (by omega)]
    rw [e2] at hR
    have hw6 : (w1.alloc (.cells #[.slice none 0 0, .int .i64 0] T.y_bits_Out)).heap[w1.heap.size]? = some (.cells ⟨[.slice none 0 0, .int .i64 0]⟩ T.y_bits_Out (0, 0)) := heap_new w1 _
    have hs6 : (w1.alloc (.cells #[.slice none 0 0, .int .i64 0] T.y_bits_Out)).heap.size = w1.heap.size + 1 := by simp
    have hlenI : ((sl.len : Nat) : Int) = (ns.length : Int) := by rw [hlen]
    simp only [hlenI]
    generalize h6 : w1.alloc (.cells #[.slice none 0 0, .int .i64 0] T.y_bits_Out) = w6 at hw6 hs6
    have hF6 : Fr no w1 w6 := by rw [← h6]; exact Fr.alloc _ _ _
    have hw7 : (w6.alloc (.cells #[.int .i64 (ns.length : Int)] T.y_int)).heap[w6.heap.size]? = some (.cells ⟨[.int .i64 (ns.length : Int)]⟩ T.y_int (0, 0)) := heap_new w6 _
    have hs7 : (w6.alloc (.cells #[.int .i64 (ns.length : Int)] T.y_int)).heap.size = w6.heap.size + 1 := by simp
    generalize h7 : w6.alloc (.cells #[.int .i64 (ns.length : Int)] T.y_int) = w7 at hw7 hs7
    have hF7 : Fr no w6 w7 := by rw [← h7]; exact Fr.alloc _ _ _
    have hO7 : OutAt w7 w1.heap.size ⟨none, 0, 0⟩ [] 0 := ⟨hF7.heap hw6 id, Own.nil _ _ _, fun ⟨a, ha, _⟩ => by cases ha⟩
    have hB1 : w.heap.size ≤ w1.heap.size := hB.size
    refine Out_Byte hO7 hw7 (by omega) (by simp) fun l8 w8 hO8 hF8 hM8 => ?_
    rw [lay1_ok (by simp [fitsN]; omega)] at hO8
    have hB7 : Below w.heap.size w w7 := hB.trans ((below_fr (hF6.trans hF7 (fun _ _ h => h))).mono hB1)
    have hB8 : Below w.heap.size w w8 := hB7.trans (hF8.toBelow (fun k hk => by
      rcases hk with hk | ⟨a, ha, _⟩
      · omega
      · cases ha) (by omega))
    refine ⟨fun n wn => ∃ m : Nat, n = m ∧ m ≤ ns.length ∧ ∃ l', OutAt wn w1.heap.size l' (leBytes 1 ns.length ++ (ns.take m).flatMap name1) 0 ∧ (leBytes 1 ns.length ++ (ns.take m).flatMap name1).length ≤ 1 + 15 * m ∧
      Below w.heap.size w wn ∧ (∀ k, l'.bk k → w.heap.size ≤ k), fun n _ => (ns.length - n).toNat, ⟨0, rfl, Nat.zero_le _, l8, by simpa using hO8, by simp [leBytes_len], hB8, fun k hk => ?_⟩, ?_⟩
    · rcases moved_bk hM8 hk with ⟨a, ha, _⟩ | h
      · cases ha
      · omega
    rintro n w9 ⟨m, rfl, hm', l9, hO9, hL9, hB9, hl9⟩
    refine ⟨fun hlt => ?_, fun hge => ?_⟩
    · have hlt : m < ns.length := by have := of_decide_eq_true hlt; omega
      have hN9 := hN.below hB9
      obtain ⟨a, ha, hc1, hc2⟩ := hN9.2 m ns[m] (by simp [hlt])
      have e1 : w64 ((m : Int) + 1) = ((m + 1 : Nat) : Int) := by rw [w64_id (by omega) (by omega)]; omega
      have hat := hok m hlt
      have hat2 : ns[m]? = some ns[m] := by simp [hlt]
      unfold okAt at hat
      rw [hat2] at hat
      simp only [Bool.and_eq_true, decide_eq_true_eq, validN] at hat
      obtain ⟨⟨hv1, hv2, _⟩, hp1, hp2, _⟩ := hat
      obtain ⟨hw1', hw2', hv, hF13, hs13⟩ := var2 w9 T.y_table_Name (.string sNil) (.int .i64 0) (.string (tx ns[m].1)) (.int .i64 ns[m].2)
      refine ⟨a, ha, by omega, by omega, tx ns[m].1, by simpa using hc1, ns[m].2, by simpa using hc2, hw1', hw2', ?_⟩
      generalize h13 : (((w9.alloc (.cells #[.string sNil, .int .i64 0] T.y_table_Name)).setCell (blk w9.heap.size) (.string (tx ns[m].1))).setCell ((blk w9.heap.size).add 1) (.int .i64 ns[m].2)) = w12 at hv hF13 hs13
      have hv13 : w12.drew.heap[w9.heap.size]? = some (.cells ⟨[.string (tx ns[m].1), .int .i64 ns[m].2]⟩ T.y_table_Name (0, 0)) := hv
      have hF13' : Fr no w9 w12.drew := hF13.trans (Fr.drew no _) (fun _ _ h => h)
      have hs13' : w12.drew.heap.size = w9.heap.size + 1 := hs13
      generalize h13' : w12.drew = w13 at hv13 hF13' hs13'
      have hO13 := hO9.keep hF13' id (fun _ _ => id)
      have hg9 : w1.heap.size < w9.heap.size := heap_lt hO9.obj
      have hl9' : ∀ k, l9.bk k → k < w9.heap.size := fun k hk => hO9.own.lt hk
      refine ⟨tx ns[m].1, by rw [blk_cell0 hv13]; rfl, tx ns[m].1, by rw [blk_cell0 hv13]; rfl, ns[m].2, by rw [blk_cell hv13]; rfl, fun w14 g0 hB14 hi0 _ hh0 w15 hB15 => ?_⟩
      rw [tx_size] at hh0
      have hF14 := fr_below hB14
      have hF15 := fr_below hB15
      have hs14 := hB14.size
      have hs15 := hB15.size
      have hO15 := (hO13.keep hF14 id (fun _ _ => id)).keep hF15 id (fun _ _ => id)
      refine Out_Byte hO15 (hF15.heap hh0 id) (by omega) (by omega) fun l16 w16 hO16 hF16 hM16 => ?_
      rw [lay1_ok (by simp [fitsN]; omega)] at hO16
      have hl16 : ∀ k, l16.bk k → k < w9.heap.size ∨ (w15.heap.size ≤ k ∧ k < w16.heap.size) := fun k hk => by
        rcases moved_bk hM16 hk with h | h
        · exact .inl (hl9' k h)
        · exact .inr ⟨h, hO16.own.lt hk⟩
      have hs16 := hF16.size
      have hv16 : w16.heap[w9.heap.size]? = some (.cells ⟨[.string (tx ns[m].1), .int .i64 ns[m].2]⟩ T.y_table_Name (0, 0)) :=
        hF16.heap (hF15.heap (hF14.heap hv13 id) id) (fun h => by
          rcases h with h | h
          · omega
          · have := hl9' _ h; omega)
      refine ⟨⟨hs16, fun g' hg' _ => hF16.block g' ?_ ?_⟩, by rw [blk_cell hv16]; rfl, by rw [blk_cell0 hv16]; rfl, by rw [blk_cell0 hv16]; rfl, fun w17 g1 hB17 hi1 hu1 hh1 w18 hB18 => ?_⟩
      · have hg' := inIv_lt hg'; simp only [List.any_cons, List.any_nil, Bool.or_false, Bool.or_eq_true, Bool.and_eq_true, decide_eq_true_eq] at hg'; omega
      · have hg' := inIv_lt hg'; simp only [List.any_cons, List.any_nil, Bool.or_false, Bool.or_eq_true, Bool.and_eq_true, decide_eq_true_eq] at hg'
        rintro (h | h)
        · omega
        · have := hl9' _ h; omega
      have hF17 := fr_below hB17
      have hF18 := fr_below hB18
      have hs17 := hB17.size
      have hs18 := hB18.size
      have hO18 := (hO16.keep hF17 id (fun _ _ => id)).keep hF18 id (fun _ _ => id)
      refine Out_Raw hO18 (hF18.heap hh1 id) (by simp only [List.length_append, leBytes_len] at hL9 ⊢; omega) (by omega) fun l19 w19 hO19 hF19 hM19 => ?_
      simp only [raw1, ne_eq, not_true_eq_false, if_false] at hO19
      have hl19 : ∀ k, l19.bk k → k < w9.heap.size ∨ (w15.heap.size ≤ k ∧ k < w16.heap.size) ∨ (w18.heap.size ≤ k ∧ k < w19.heap.size) := fun k hk => by
        rcases moved_bk hM19 hk with h | h
        · rcases hl16 k h with h | h
          · exact .inl h
          · exact .inr (.inl h)
        · exact .inr (.inr ⟨h, hO19.own.lt hk⟩)
      have hs19 := hF19.size
      have hv19 : w19.heap[w9.heap.size]? = some (.cells ⟨[.string (tx ns[m].1), .int .i64 ns[m].2]⟩ T.y_table_Name (0, 0)) :=
        hF19.heap (hF18.heap (hF17.heap hv16 id) id) (fun h => by
          rcases h with h | h
          · omega
          · have := hl16 _ h; omega)
      refine ⟨⟨hs19, fun g' hg' _ => hF19.block g' ?_ ?_⟩, by rw [blk_cell hv19]; rfl, by rw [blk_cell0 hv19]; rfl, by rw [blk_cell0 hv19]; rfl, fun w20 g2 hB20 hi2 hu2 hh2 w21 hB21 => ?_⟩
      · have hg' := inIv_lt hg'; simp only [List.any_cons, List.any_nil, Bool.or_false, Bool.or_eq_true, Bool.and_eq_true, decide_eq_true_eq] at hg'; omega
      · have hg' := inIv_lt hg'; simp only [List.any_cons, List.any_nil, Bool.or_false, Bool.or_eq_true, Bool.and_eq_true, decide_eq_true_eq] at hg'
        rintro (h | h)
        · omega
        · have := hl16 _ h; omega
      have hF20 := fr_below hB20
      have hF21 := fr_below hB21
      have hs20 := hB20.size
      have hs21 := hB21.size
      have hO21 := (hO19.keep hF20 id (fun _ _ => id)).keep hF21 id (fun _ _ => id)
      refine Out_Half hO21 (hF21.heap hh2 id) (by omega) (by simp only [List.length_append, leBytes_len] at hL9 ⊢; omega) fun l22 w22 hO22 hF22 hM22 => ?_
      rw [lay1_ok (by simp [fitsN]; omega)] at hO22
      have hs22 := hF22.size
      have hv22 : w22.heap[w9.heap.size]? = some (.cells ⟨[.string (tx ns[m].1), .int .i64 ns[m].2]⟩ T.y_table_Name (0, 0)) :=
        hF22.heap (hF21.heap (hF20.heap hv19 id) id) (fun h => by
          rcases h with h | h
          · omega
          · have := hl19 _ h; omega)
      refine ⟨⟨hs22, fun g' hg' _ => hF22.block g' ?_ ?_⟩, by rw [blk_cell hv22]; rfl, by rw [blk_cell0 hv22]; rfl, by rw [blk_cell0 hv22]; rfl, fun w23 hB23 => ?_⟩
      · have hg' := inIv_lt hg'; simp only [List.any_cons, List.any_nil, Bool.or_false, Bool.or_eq_true, Bool.and_eq_true, decide_eq_true_eq] at hg'; omega
      · have hg' := inIv_lt hg'; simp only [List.any_cons, List.any_nil, Bool.or_false, Bool.or_eq_true, Bool.and_eq_true, decide_eq_true_eq] at hg'
        rintro (h | h)
        · omega
        · have := hl19 _ h; omega
      have hbs : leBytes 1 ns.length ++ (ns.take m).flatMap name1 ++ leBytes 1 ns[m].1.length ++ ns[m].1 ++ leBytes 2 ns[m].2 = leBytes 1 ns.length ++ (ns.take (m + 1)).flatMap name1 := by
        rw [List.take_succ_eq_append_getElem hlt, List.flatMap_append, List.flatMap_cons, List.flatMap_nil, List.append_nil]
        simp only [name1, List.append_assoc]
      rw [hbs] at hO22
      have hB0 : w.heap.size ≤ w9.heap.size := hB9.size
      have bel : ∀ {l : Sl} {x y : World}, Fr (outS w1.heap.size l) x y → (∀ k, l.bk k → w.heap.size ≤ k) → w.heap.size ≤ x.heap.size → Below w.heap.size x y := fun h hl hx => h.toBelow (fun k hk => by
        rcases hk with rfl | hk
        · exact hB1
        · exact hl k hk) hx
      have b16 : Below w.heap.size w w16 := ((((hB9.trans ((below_fr hF13').mono hB0)).trans (hB14.mono (by omega))).trans (hB15.mono (by omega)))).trans (bel hF16 hl9 (by omega))
      have hl16' : ∀ k, l16.bk k → w.heap.size ≤ k := fun k hk => by
        rcases moved_bk hM16 hk with h | h
        · exact hl9 k h
        · omega
      have b19 : Below w.heap.size w w19 := ((b16.trans (hB17.mono (by omega))).trans (hB18.mono (by omega))).trans (bel hF19 hl16' (by omega))
      have hl19' : ∀ k, l19.bk k → w.heap.size ≤ k := fun k hk => by
        rcases moved_bk hM19 hk with h | h
        · exact hl16' k h
        · omega
      have hl22' : ∀ k, l22.bk k → w.heap.size ≤ k := fun k hk => by
        rcases moved_bk hM22 hk with h | h
        · exact hl19' k h
        · omega
      have b23 : Below w.heap.size w w23 := (((b19.trans (hB20.mono (by omega))).trans (hB21.mono (by omega))).trans (bel hF22 hl19' (by omega))).trans (hB23.mono (by omega))
      refine ⟨⟨m + 1, e1, hlt, l22, hO22.keep (fr_below hB23) id (fun _ _ => id), ?_, b23, hl22'⟩, ?_⟩
      · rw [← hbs]; simp only [List.length_append, leBytes_len] at hL9 ⊢; omega
      · show ((ns.length : Int) - w64 ((m : Int) + 1)).toNat < ((ns.length : Int) - (m : Int)).toNat
        rw [e1]; omega
    · have hge : ns.length ≤ m := by have := of_decide_eq_false hge; omega
      have : m = ns.length := by omega
      subst this
      rw [List.take_length] at hO9
      refine Out_End hO9 fun w' hw' => ?_
      exact hR w' (hB9.trans ((below_fr hw').mono hB9.size))

end Go.Proofs.YtepclihkniaieaaDoor
