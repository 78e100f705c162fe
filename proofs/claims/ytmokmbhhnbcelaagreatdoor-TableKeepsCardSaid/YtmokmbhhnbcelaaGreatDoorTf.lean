/- table: which names may be; how names are laid. -/
import Derived.Test.YtmokmbhhnbcelaaGreatDoorOv
set_option linter.unusedVariables false
namespace Go.Proofs.YtmokmbhhnbcelaaGreatDoor
open Go Go.Vc Go.RowKit Go.Lib

def letters : List UInt8 := str_abcdefghijkl.data.toList
theorem Trim_letters {l : List UInt8} {w : World} (h0 : l ≠ []) (hs : l.length ≤ 281474976710656) {R : ByteArray → World → Prop} (hR : ∀ w', Below w.heap.size w w' → R (tx (trim letters l)) w') : F.strings_Trim (tx l) str_abcdefghijkl w R :=
  Trim_ascii hs (by decide) (by decide) hR
theorem dw_nil_t {α : Type} {p : α → Bool} : ∀ {l : List α}, l.dropWhile p = [] ↔ ∀ x ∈ l, p x = true
  | [] => by simp
  | a :: r => by
    rw [List.dropWhile_cons]
    split
    · rename_i h
      rw [dw_nil_t (l := r)]
      simp [h]
    · rename_i h
      simp [h]

theorem tw_mem_t {α : Type} {p : α → Bool} {x : α} : ∀ {l : List α}, x ∈ l.takeWhile p → p x = true
  | [], h => by simp at h
  | a :: r, h => by
    rw [List.takeWhile_cons] at h
    split at h
    · rename_i ha
      rcases List.mem_cons.1 h with rfl | h
      · exact ha
      · exact tw_mem_t h
    · simp at h

theorem trim_nil_t {set l : List UInt8} : trim set l = [] ↔ l.all (fun b => set.contains b) = true := by
  unfold trim trimL
  rw [dw_nil_t]
  simp only [List.mem_reverse]
  constructor
  · intro h
    rw [List.all_eq_true]
    intro x hx
    have h3 := List.takeWhile_append_dropWhile (p := fun b => set.contains b) (l := l.reverse)
    have hx' : x ∈ l.reverse := List.mem_reverse.2 hx
    rw [← h3] at hx'
    rcases List.mem_append.1 hx' with h4 | h4
    · exact tw_mem_t (p := fun b => set.contains b) h4
    · exact h x h4
  · intro h x hx
    exact List.all_eq_true.1 h x (List.mem_reverse.1 ((List.dropWhile_sublist _).mem hx))

def validN (n : List UInt8) : Bool := decide (1 ≤ n.length) && (decide (n.length ≤ 12) && n.all (fun b => letters.contains b))

theorem Valid_spec {n : List UInt8} {w : World} (hn : n.length ≤ 1099511627776) {R : Bool → World → Prop} (hR : ∀ w', Below w.heap.size w w' → R (validN n) w') : F.table_Valid (tx n) w R := by
  apply E.table_Valid
  unfold V.table_Valid
  rw [tx_size]
  refine ⟨fun h1 => ⟨fun h2 => ?_, fun h2 => ?_⟩, fun h1 => ?_⟩
  · have h1 : 1 ≤ n.length := by have := of_decide_eq_true h1; omega
    have h2 : n.length ≤ 12 := by simp at h2; omega
    refine Trim_letters (by intro h; subst h; simp at h1) (by omega) fun w' hw' => ?_
    have : sEq (tx (trim letters n)) sNil = validN n := by
      rw [tx_nil, tx_eq]
      simp only [validN, h1, h2, decide_true, Bool.true_and]
      rw [Bool.eq_iff_iff, decide_eq_true_eq]
      exact trim_nil_t
    rw [this]
    exact hR w' hw'
  · have h2 : ¬ n.length ≤ 12 := by simp at h2; omega
    have : validN n = false := by simp [validN, h2]
    rw [← this]; exact hR w (Below.refl _ _)
  · have h1 : ¬ 1 ≤ n.length := by have := of_decide_eq_false h1; omega
    have : validN n = false := by simp only [validN, h1, decide_false, Bool.false_and]
    rw [← this]; exact hR w (Below.refl _ _)

theorem letter_mem (b : UInt8) : letters.contains b = ((decide (97 ≤ b.toNat) && decide (b.toNat ≤ 122)) || ((decide (48 ≤ b.toNat) && decide (b.toNat ≤ 57)) || (decide (b.toNat = 46) || decide (b.toNat = 64)))) := by
  have h : ∀ x : Fin 256, letters.contains (UInt8.ofNat x.val) = ((decide (97 ≤ (UInt8.ofNat x.val).toNat) && decide ((UInt8.ofNat x.val).toNat ≤ 122)) || ((decide (48 ≤ (UInt8.ofNat x.val).toNat) && decide ((UInt8.ofNat x.val).toNat ≤ 57)) ||
      (decide ((UInt8.ofNat x.val).toNat = 46) || decide ((UInt8.ofNat x.val).toNat = 64)))) := by decide +kernel
  have h2 := h ⟨b.toNat, b.toNat_lt⟩
  simpa using h2

theorem ValidName_spec {n : List UInt8} {w : World} (hn : n.length ≤ 1099511627776) {R : Bool → World → Prop} (hR : R (validN n) w) : F.masonryref1_ValidName (tx n) w R := by
  apply E.masonryref1_ValidName
  unfold V.masonryref1_ValidName
  refine ⟨fun i w' => ∃ m : Nat, i = m ∧ m ≤ n.length ∧ (n.take m).all (fun b => letters.contains b) = true ∧ w' = w, fun i _ => (n.length - i).toNat, ⟨0, rfl, Nat.zero_le _, by simp, rfl⟩, ?_⟩
  rintro i w' ⟨m, rfl, hm, hall, rfl⟩
  rw [tx_size, tx_at]
  refine ⟨fun hlt => ?_, fun hge => ?_⟩
  · have hlt : m < n.length := by simpa using hlt
    have e1 : w64 ((m : Int) + 1) = ((m + 1 : Nat) : Int) := by rw [w64_id (by omega) (by omega)]; omega
    have hb : n.getD m 0 = n[m] := by simp [hlt]
    rw [hb]
    have hall1 : (n.take (m + 1)).all (fun b => letters.contains b) = letters.contains n[m] := by
      rw [List.take_succ_eq_append_getElem hlt, List.all_append, hall]; simp
    have yes : letters.contains n[m] = true → ((∃ m' : Nat, w64 ((m : Int) + 1) = m' ∧ m' ≤ n.length ∧ (n.take m').all (fun b => letters.contains b) = true ∧ w' = w') ∧ ((n.length : Int) - w64 ((m : Int) + 1)).toNat < ((n.length : Int) - (m : Int)).toNat) := fun h =>
      ⟨⟨m + 1, e1, hlt, by rw [hall1]; exact h, rfl⟩, by rw [e1]; omega⟩
    have nope : letters.contains n[m] = false → R false w' := fun h => by
      have : validN n = false := by
        have : n.all (fun b => letters.contains b) = false := by
          rw [List.all_eq_false]; exact ⟨n[m], List.getElem_mem _, by rw [h]; simp⟩
        simp only [validN, this, Bool.and_false]
      rw [← this]; exact hR
    have hc := letter_mem n[m]
    generalize hx : n[m].toNat = x at hc
    refine ⟨by omega, by omega, fun h1 => ⟨fun h2 => yes ?_, fun h2 => ⟨fun h3 => ⟨fun h4 => yes ?_, fun h4 => ⟨fun h5 => yes ?_, fun h5 => ⟨fun h6 => nope ?_, fun h6 => yes ?_⟩⟩⟩, fun h3 => ⟨fun h5 => yes ?_, fun h5 => ⟨fun h6 => nope ?_, fun h6 => yes ?_⟩⟩⟩⟩,
      fun h1 => ⟨fun h3 => ⟨fun h4 => yes ?_, fun h4 => ⟨fun h5 => yes ?_, fun h5 => ⟨fun h6 => nope ?_, fun h6 => yes ?_⟩⟩⟩, fun h3 => ⟨fun h5 => yes ?_, fun h5 => ⟨fun h6 => nope ?_, fun h6 => yes ?_⟩⟩⟩⟩
    all_goals (rw [hc]; simp at *; omega)
  · have hge : n.length ≤ m := by simpa using hge
    have : m = n.length := by omega
    subst this
    rw [List.take_length] at hall
    refine ⟨fun h1 => ?_, fun h1 => ?_⟩
    · have h1 : 1 ≤ n.length := by have := of_decide_eq_true h1; omega
      have : validN n = decide ((n.length : Int) ≤ 12) := by
        simp only [validN, hall, Bool.and_true, h1, decide_true, Bool.true_and]
        rw [Bool.eq_iff_iff]; simp; omega
      rw [← this]; exact hR
    · have h1 : ¬ 1 ≤ n.length := by have := of_decide_eq_false h1; omega
      have : validN n = false := by simp only [validN, h1, decide_false, Bool.false_and]
      rw [← this]; exact hR

end Go.Proofs.YtmokmbhhnbcelaaGreatDoor

/- table.Lay: the names as bytes. -/
set_option linter.unusedVariables false
namespace Go.Proofs.YtmokmbhhnbcelaaGreatDoor
open Go Go.Vc Go.RowKit Go.Lib

/-- the names of a slice -/
def Names (w : World) (sl : Sl) (ns : List (List UInt8 × Int)) : Prop :=
  sl.len = ns.length ∧ ∀ j n, ns[j]? = some n → ∃ a, sl.a = some a ∧ w.cell? (a.add (j * 2)) = some (.string (tx n.1)) ∧ w.cell? ((a.add (j * 2)).add 1) = some (.int .i64 n.2)

theorem Names.below {w w' : World} {sl : Sl} {ns : List (List UInt8 × Int)} (h : Names w sl ns) (hw : Below w.heap.size w w') : Names w' sl ns :=
  ⟨h.1, fun j n hj => by
    obtain ⟨a, ha, h1, h2⟩ := h.2 j n hj
    exact ⟨a, ha, by rw [hw.cell (World.block_lt_of_cell? w _ h1)]; exact h1, by rw [hw.cell (World.block_lt_of_cell? w _ h2)]; exact h2⟩⟩

def okAt (ns : List (List UInt8 × Int)) (j : Nat) : Bool :=
  match ns[j]? with
  | none => true
  | some n => validN n.1 && (decide (1 ≤ n.2) && (decide (n.2 < 2000) && (decide (j = 0) || !(Op.bytesLess n.1 (ns.getD (j - 1) ([], 0)).1 || decide (n.1 = (ns.getD (j - 1) ([], 0)).1)))))

def name1 (n : List UInt8 × Int) : List UInt8 := leBytes 1 n.1.length ++ n.1 ++ leBytes 2 n.2

def layNames (ns : List (List UInt8 × Int)) : List UInt8 × Int :=
  if (List.range ns.length).all (okAt ns) then (if 40 < ns.length then ([], 2) else (leBytes 1 ns.length ++ ns.flatMap name1, 0)) else ([], 1)

theorem setCell_size_t (w : World) (a : Addr) (v : Value) : (w.setCell a v).heap.size = w.heap.size := by simp [World.setCell]

/-- a variable of two cells that is made, and set -/
theorem var2 (w : World) (t : TypeId) (a b x y : Value) :
    Wr (w.alloc (.cells #[a, b] t)) (blk w.heap.size) ∧ Wr ((w.alloc (.cells #[a, b] t)).setCell (blk w.heap.size) x) ((blk w.heap.size).add 1) ∧
    (((w.alloc (.cells #[a, b] t)).setCell (blk w.heap.size) x).setCell ((blk w.heap.size).add 1) y).heap[w.heap.size]? = some (.cells ⟨[x, y]⟩ t (0, 0)) ∧
    Fr no w (((w.alloc (.cells #[a, b] t)).setCell (blk w.heap.size) x).setCell ((blk w.heap.size).add 1) y) ∧
    (((w.alloc (.cells #[a, b] t)).setCell (blk w.heap.size) x).setCell ((blk w.heap.size).add 1) y).heap.size = w.heap.size + 1 := by
  have h1 : (w.alloc (.cells #[a, b] t)).heap[w.heap.size]? = some (.cells ⟨[a, b]⟩ t (0, 0)) := heap_new w _
  have h2 := blk_set0 h1 x
  have h3 := blk_set h2 1 y
  have hfr : Fr (fun k => w.heap.size ≤ k) w (((w.alloc (.cells #[a, b] t)).setCell (blk w.heap.size) x).setCell ((blk w.heap.size).add 1) y) :=
    (((Fr.alloc (fun k => w.heap.size ≤ k) w _).trans ((fr_set0 _ w.heap.size x).mono (S' := fun k => w.heap.size ≤ k) (fun k _ h => Nat.le_of_eq h.symm)) (fun _ _ h => h)).trans
      ((fr_set _ w.heap.size 1 y).mono (S' := fun k => w.heap.size ≤ k) (fun k _ h => Nat.le_of_eq h.symm)) (fun _ _ h => h))
  refine ⟨blk_wr0 h1 (by simp), blk_wr h2 (by simp), by simpa using h3, hfr.mono (fun k hk h => by omega), ?_⟩
  rw [setCell_size_t, setCell_size_t]; simp

theorem inIv_lt_t {g : Nat} : ∀ {l : List (Nat × Nat)}, inIv l g → (l.any fun p => decide (p.1 ≤ g) && decide (g < p.2)) = true
  | [], h => h.elim
  | (a, b) :: r, h => by
    rw [List.any_cons]
    rcases h with ⟨h1, h2⟩ | h
    · simp [h1, h2]
    · rw [inIv_lt_t h]; simp

theorem lay1_ok_t {size : Nat} {v : Int} {bs : List UInt8} (h : fitsN size v = true) : lay1 size v (bs, 0) = (bs ++ leBytes size v, 0) := by simp [lay1, layL, h]

theorem Lay_spec {w : World} {sl : Sl} {ns : List (List UInt8 × Int)} (hN : Names w sl ns) (hb : ns.length ≤ 1000000) (hl : ∀ n ∈ ns, n.1.length ≤ 1099511627776) {R : ByteArray → Int → World → Prop}
    (hR : ∀ w', Below w.heap.size w w' → R (tx (layNames ns).1) (layNames ns).2 w') : F.table_Lay sl w R := by
  apply E.table_Lay
  unfold V.table_Lay
  have hlen := hN.1
  refine ⟨fun n w' => ∃ m : Nat, n = m ∧ m ≤ ns.length ∧ (∀ j, j < m → okAt ns j = true) ∧ Below w.heap.size w w', fun n _ => (ns.length - n).toNat, ⟨0, rfl, Nat.zero_le _, fun j hj => absurd hj (Nat.not_lt_zero _), Below.refl _ _⟩, ?_⟩
  rintro n w1 ⟨m, rfl, hm, hok, hB⟩
  have hN1 := hN.below hB
  refine ⟨fun hlt => ?_, fun hge => ?_⟩
  · have hlt : m < ns.length := by have := of_decide_eq_true hlt; omega
    obtain ⟨a, ha, hc1, hc2⟩ := hN1.2 m ns[m] (by simp [hlt])
    have e1 : w64 ((m : Int) + 1) = ((m + 1 : Nat) : Int) := by rw [w64_id (by omega) (by omega)]; omega
    have hat : okAt ns m = (validN ns[m].1 && (decide (1 ≤ ns[m].2) && (decide (ns[m].2 < 2000) && (decide (m = 0) || !(Op.bytesLess ns[m].1 (ns.getD (m - 1) ([], 0)).1 || decide (ns[m].1 = (ns.getD (m - 1) ([], 0)).1)))))) := by
      unfold okAt
      have : ns[m]? = some ns[m] := by simp [hlt]
      rw [this]
    have bad : ∀ w', okAt ns m = false → Below w.heap.size w w' → R sNil 1 w' := fun w' h hw => by
      have e2 : layNames ns = ([], 1) := by
        unfold layNames
        rw [if_neg]
        rw [List.all_eq_true]
        intro hall
        have := hall m (List.mem_range.2 hlt)
        rw [h] at this; cases this
      rw [e2] at hR
      exact hR w' hw
    have good : ∀ w', okAt ns m = true → Below w.heap.size w w' → ((∃ m' : Nat, w64 ((m : Int) + 1) = m' ∧ m' ≤ ns.length ∧ (∀ j, j < m' → okAt ns j = true) ∧ Below w.heap.size w w') ∧ ((ns.length : Int) - w64 ((m : Int) + 1)).toNat < ((ns.length : Int) - (m : Int)).toNat) :=
      fun w' h hw => ⟨⟨m + 1, e1, hlt, fun j hj => by
        rcases Nat.lt_succ_iff_lt_or_eq.1 hj with h' | h'
        · exact hok j h'
        · rw [h']; exact h, hw⟩, by rw [e1]; omega⟩
    obtain ⟨hw1, hw2, hv, hF, hs⟩ := var2 w1 T.y_table_Name (.string sNil) (.int .i64 0) (.string (tx ns[m].1)) (.int .i64 ns[m].2)
    refine ⟨a, ha, by omega, by omega, tx ns[m].1, by simpa using hc1, ns[m].2, by simpa using hc2, hw1, hw2, tx ns[m].1, by rw [drew_cell, blk_cell0 hv]; rfl, ?_⟩
    refine Valid_spec (hl _ (List.getElem_mem _)) fun w5 hw5 => ?_
    have hF5 : Fr no w1 w5 := (hF.trans (Fr.drew no _) (fun _ _ h => h)).trans (fr_below hw5) (fun _ _ h => h)
    have hB5 : Below w.heap.size w w5 := hB.trans ((below_fr hF5).mono hB.size)
    have hN5 := hN.below hB5
    have hv5 : w5.heap[w1.heap.size]? = some (.cells ⟨[.string (tx ns[m].1), .int .i64 ns[m].2]⟩ T.y_table_Name (0, 0)) := (fr_below hw5).heap hv id
    refine ⟨fun hnv => bad w5 (by rw [hat]; simp at hnv; simp [hnv]) hB5, fun hvd => ?_⟩
    have hvd : validN ns[m].1 = true := by simpa using hvd
    refine ⟨ns[m].2, by rw [blk_cell hv5]; rfl, fun h1 => bad w5 (by rw [hat]; have := of_decide_eq_true h1; have h2 : ¬ 1 ≤ ns[m].2 := by omega
                                                                     simp [h2]) hB5, fun h1 => ⟨ns[m].2, by rw [blk_cell hv5]; rfl, fun h2 => bad w5 (by rw [hat]; have := of_decide_eq_true h2; have h2 : ¬ ns[m].2 < 2000 := by omega
                                                                                                                                                         simp [h2]) hB5, fun h2 => ?_⟩⟩
    have h1 : 1 ≤ ns[m].2 := by have := of_decide_eq_false h1; omega
    have h2 : ns[m].2 < 2000 := by have := of_decide_eq_false h2; omega
    refine ⟨fun h3 => ?_, fun h3 => ?_⟩
    · have h3 : 0 < m := by have := of_decide_eq_true h3; omega
      have e2 : w64 ((m : Int) - 1) = ((m - 1 : Nat) : Int) := by rw [w64_id (by omega) (by omega)]; omega
      have hlt' : m - 1 < ns.length := by omega
      obtain ⟨a', ha', hc1', hc2'⟩ := hN5.2 (m - 1) ns[m - 1] (by simp [hlt'])
      refine ⟨tx ns[m].1, by rw [blk_cell0 hv5]; rfl, a', ha', by rw [e2]; omega, by rw [e2]; omega, tx ns[m - 1].1, by rw [e2]; simpa using hc1', ?_⟩
      rw [tx_lt, tx_eq]
      have hg : ns.getD (m - 1) ([], 0) = ns[m - 1] := by simp [hlt']
      rw [hg] at hat
      refine ⟨fun h4 => bad w5 (by rw [hat, h4]; simp; omega) hB5, fun h4 => good w5 (by rw [hat, h4]; simp [hvd, h1, h2]) hB5⟩
    · have h3 : m = 0 := by have := of_decide_eq_false h3; omega
      have h3' : decide (m = 0) = true := by simp [h3]
      exact good w5 (by rw [hat, hvd, h3']; simp [h1, h2]) hB5
  · have hge : ns.length ≤ m := by have := of_decide_eq_false hge; omega
    have hmm : m = ns.length := by omega
    subst hmm
    have hall : (List.range ns.length).all (okAt ns) = true := List.all_eq_true.2 fun j hj => hok j (List.mem_range.1 hj)
    refine ⟨fun h40 => ?_, fun h40 => ?_⟩
    · have h40 : 40 < ns.length := by have := of_decide_eq_true h40; omega
      have e2 : layNames ns = ([], 2) := by unfold layNames; rw [if_pos hall, if_pos h40]
      rw [e2] at hR
      exact hR w1 hB
    have h40 : ns.length ≤ 40 := by have := of_decide_eq_false h40; omega
    have e2 : layNames ns = (leBytes 1 ns.length ++ ns.flatMap name1, 0) := by unfold layNames; rw [if_pos hall, if_neg (by omega)]
    rw [e2] at hR
    have hw6 : (w1.alloc (.cells #[.slice none 0 0, .int .i64 0] T.y_bits_Out)).heap[w1.heap.size]? = some (.cells ⟨[.slice none 0 0, .int .i64 0]⟩ T.y_bits_Out (0, 0)) := heap_new w1 _
    have hs6 : (w1.alloc (.cells #[.slice none 0 0, .int .i64 0] T.y_bits_Out)).heap.size = w1.heap.size + 1 := by simp
    have hlenI : ((sl.len : Nat) : Int) = (ns.length : Int) := by rw [hlen]
    simp only [hlenI]
    generalize h6 : w1.alloc (.cells #[.slice none 0 0, .int .i64 0] T.y_bits_Out) = w6 at hw6 hs6
    have hF6 : Fr no w1 w6 := by rw [← h6]; exact Fr.alloc _ _ _
    have hw7 : (w6.alloc (.cells #[.int .i64 (ns.length : Int)] T.y_int)).heap[w6.heap.size]? = some (.cells ⟨[.int .i64 (ns.length : Int)]⟩ T.y_int (0, 0)) := heap_new w6 _
    have hs7 : (w6.alloc (.cells #[.int .i64 (ns.length : Int)] T.y_int)).heap.size = w6.heap.size + 1 := by simp
    generalize h7 : w6.alloc (.cells #[.int .i64 (ns.length : Int)] T.y_int) = w7 at hw7 hs7
    have hF7 : Fr no w6 w7 := by rw [← h7]; exact Fr.alloc _ _ _
    have hO7 : OutAt w7 w1.heap.size ⟨none, 0, 0⟩ [] 0 := ⟨hF7.heap hw6 id, Own.nil _ _ _, fun ⟨a, ha, _⟩ => by cases ha⟩
    have hB1 : w.heap.size ≤ w1.heap.size := hB.size
    refine Out_Byte hO7 hw7 (by omega) (by simp) fun l8 w8 hO8 hF8 hM8 => ?_
    rw [lay1_ok_t (by simp [fitsN]; omega)] at hO8
    have hB7 : Below w.heap.size w w7 := hB.trans ((below_fr (hF6.trans hF7 (fun _ _ h => h))).mono hB1)
    have hB8 : Below w.heap.size w w8 := hB7.trans (hF8.toBelow (fun k hk => by
      rcases hk with hk | ⟨a, ha, _⟩
      · omega
      · cases ha) (by omega))
    refine ⟨fun n wn => ∃ m : Nat, n = m ∧ m ≤ ns.length ∧ ∃ l', OutAt wn w1.heap.size l' (leBytes 1 ns.length ++ (ns.take m).flatMap name1) 0 ∧ (leBytes 1 ns.length ++ (ns.take m).flatMap name1).length ≤ 1 + 15 * m ∧
      Below w.heap.size w wn ∧ (∀ k, l'.bk k → w.heap.size ≤ k), fun n _ => (ns.length - n).toNat, ⟨0, rfl, Nat.zero_le _, l8, by simpa using hO8, by simp [leBytes_len], hB8, fun k hk => ?_⟩, ?_⟩
    · rcases moved_bk hM8 hk with ⟨a, ha, _⟩ | h
      · cases ha
      · omega
    rintro n w9 ⟨m, rfl, hm', l9, hO9, hL9, hB9, hl9⟩
    refine ⟨fun hlt => ?_, fun hge => ?_⟩
    · have hlt : m < ns.length := by have := of_decide_eq_true hlt; omega
      have hN9 := hN.below hB9
      obtain ⟨a, ha, hc1, hc2⟩ := hN9.2 m ns[m] (by simp [hlt])
      have e1 : w64 ((m : Int) + 1) = ((m + 1 : Nat) : Int) := by rw [w64_id (by omega) (by omega)]; omega
      have hat := hok m hlt
      have hat2 : ns[m]? = some ns[m] := by simp [hlt]
      unfold okAt at hat
      rw [hat2] at hat
      simp only [Bool.and_eq_true, decide_eq_true_eq, validN] at hat
      obtain ⟨⟨hv1, hv2, _⟩, hp1, hp2, _⟩ := hat
      obtain ⟨hw1', hw2', hv, hF13, hs13⟩ := var2 w9 T.y_table_Name (.string sNil) (.int .i64 0) (.string (tx ns[m].1)) (.int .i64 ns[m].2)
      refine ⟨a, ha, by omega, by omega, tx ns[m].1, by simpa using hc1, ns[m].2, by simpa using hc2, hw1', hw2', ?_⟩
      generalize h13 : (((w9.alloc (.cells #[.string sNil, .int .i64 0] T.y_table_Name)).setCell (blk w9.heap.size) (.string (tx ns[m].1))).setCell ((blk w9.heap.size).add 1) (.int .i64 ns[m].2)) = w12 at hv hF13 hs13
      have hv13 : w12.drew.heap[w9.heap.size]? = some (.cells ⟨[.string (tx ns[m].1), .int .i64 ns[m].2]⟩ T.y_table_Name (0, 0)) := hv
      have hF13' : Fr no w9 w12.drew := hF13.trans (Fr.drew no _) (fun _ _ h => h)
      have hs13' : w12.drew.heap.size = w9.heap.size + 1 := hs13
      generalize h13' : w12.drew = w13 at hv13 hF13' hs13'
      have hO13 := hO9.keep hF13' id (fun _ _ => id)
      have hg9 : w1.heap.size < w9.heap.size := heap_lt hO9.obj
      have hl9' : ∀ k, l9.bk k → k < w9.heap.size := fun k hk => hO9.own.lt hk
      refine ⟨tx ns[m].1, by rw [blk_cell0 hv13]; rfl, tx ns[m].1, by rw [blk_cell0 hv13]; rfl, ns[m].2, by rw [blk_cell hv13]; rfl, fun w14 g0 hB14 hi0 _ hh0 w15 hB15 => ?_⟩
      rw [tx_size] at hh0
      have hF14 := fr_below hB14
      have hF15 := fr_below hB15
      have hs14 := hB14.size
      have hs15 := hB15.size
      have hO15 := (hO13.keep hF14 id (fun _ _ => id)).keep hF15 id (fun _ _ => id)
      refine Out_Byte hO15 (hF15.heap hh0 id) (by omega) (by omega) fun l16 w16 hO16 hF16 hM16 => ?_
      rw [lay1_ok_t (by simp [fitsN]; omega)] at hO16
      have hl16 : ∀ k, l16.bk k → k < w9.heap.size ∨ (w15.heap.size ≤ k ∧ k < w16.heap.size) := fun k hk => by
        rcases moved_bk hM16 hk with h | h
        · exact .inl (hl9' k h)
        · exact .inr ⟨h, hO16.own.lt hk⟩
      have hs16 := hF16.size
      have hv16 : w16.heap[w9.heap.size]? = some (.cells ⟨[.string (tx ns[m].1), .int .i64 ns[m].2]⟩ T.y_table_Name (0, 0)) :=
        hF16.heap (hF15.heap (hF14.heap hv13 id) id) (fun h => by
          rcases h with h | h
          · omega
          · have := hl9' _ h; omega)
      refine ⟨⟨hs16, fun g' hg' _ => hF16.block g' ?_ ?_⟩, by rw [blk_cell hv16]; rfl, by rw [blk_cell0 hv16]; rfl, by rw [blk_cell0 hv16]; rfl, fun w17 g1 hB17 hi1 hu1 hh1 w18 hB18 => ?_⟩
      · have hg' := inIv_lt_t hg'; simp only [List.any_cons, List.any_nil, Bool.or_false, Bool.or_eq_true, Bool.and_eq_true, decide_eq_true_eq] at hg'; omega
      · have hg' := inIv_lt_t hg'; simp only [List.any_cons, List.any_nil, Bool.or_false, Bool.or_eq_true, Bool.and_eq_true, decide_eq_true_eq] at hg'
        rintro (h | h)
        · omega
        · have := hl9' _ h; omega
      have hF17 := fr_below hB17
      have hF18 := fr_below hB18
      have hs17 := hB17.size
      have hs18 := hB18.size
      have hO18 := (hO16.keep hF17 id (fun _ _ => id)).keep hF18 id (fun _ _ => id)
      refine Out_Raw hO18 (hF18.heap hh1 id) (by simp only [List.length_append, leBytes_len] at hL9 ⊢; omega) (by omega) fun l19 w19 hO19 hF19 hM19 => ?_
      simp only [raw1, ne_eq, not_true_eq_false, if_false] at hO19
      have hl19 : ∀ k, l19.bk k → k < w9.heap.size ∨ (w15.heap.size ≤ k ∧ k < w16.heap.size) ∨ (w18.heap.size ≤ k ∧ k < w19.heap.size) := fun k hk => by
        rcases moved_bk hM19 hk with h | h
        · rcases hl16 k h with h | h
          · exact .inl h
          · exact .inr (.inl h)
        · exact .inr (.inr ⟨h, hO19.own.lt hk⟩)
      have hs19 := hF19.size
      have hv19 : w19.heap[w9.heap.size]? = some (.cells ⟨[.string (tx ns[m].1), .int .i64 ns[m].2]⟩ T.y_table_Name (0, 0)) :=
        hF19.heap (hF18.heap (hF17.heap hv16 id) id) (fun h => by
          rcases h with h | h
          · omega
          · have := hl16 _ h; omega)
      refine ⟨⟨hs19, fun g' hg' _ => hF19.block g' ?_ ?_⟩, by rw [blk_cell hv19]; rfl, by rw [blk_cell0 hv19]; rfl, by rw [blk_cell0 hv19]; rfl, fun w20 g2 hB20 hi2 hu2 hh2 w21 hB21 => ?_⟩
      · have hg' := inIv_lt_t hg'; simp only [List.any_cons, List.any_nil, Bool.or_false, Bool.or_eq_true, Bool.and_eq_true, decide_eq_true_eq] at hg'; omega
      · have hg' := inIv_lt_t hg'; simp only [List.any_cons, List.any_nil, Bool.or_false, Bool.or_eq_true, Bool.and_eq_true, decide_eq_true_eq] at hg'
        rintro (h | h)
        · omega
        · have := hl16 _ h; omega
      have hF20 := fr_below hB20
      have hF21 := fr_below hB21
      have hs20 := hB20.size
      have hs21 := hB21.size
      have hO21 := (hO19.keep hF20 id (fun _ _ => id)).keep hF21 id (fun _ _ => id)
      refine Out_Half hO21 (hF21.heap hh2 id) (by omega) (by simp only [List.length_append, leBytes_len] at hL9 ⊢; omega) fun l22 w22 hO22 hF22 hM22 => ?_
      rw [lay1_ok_t (by simp [fitsN]; omega)] at hO22
      have hs22 := hF22.size
      have hv22 : w22.heap[w9.heap.size]? = some (.cells ⟨[.string (tx ns[m].1), .int .i64 ns[m].2]⟩ T.y_table_Name (0, 0)) :=
        hF22.heap (hF21.heap (hF20.heap hv19 id) id) (fun h => by
          rcases h with h | h
          · omega
          · have := hl19 _ h; omega)
      refine ⟨⟨hs22, fun g' hg' _ => hF22.block g' ?_ ?_⟩, by rw [blk_cell hv22]; rfl, by rw [blk_cell0 hv22]; rfl, by rw [blk_cell0 hv22]; rfl, fun w23 hB23 => ?_⟩
      · have hg' := inIv_lt_t hg'; simp only [List.any_cons, List.any_nil, Bool.or_false, Bool.or_eq_true, Bool.and_eq_true, decide_eq_true_eq] at hg'; omega
      · have hg' := inIv_lt_t hg'; simp only [List.any_cons, List.any_nil, Bool.or_false, Bool.or_eq_true, Bool.and_eq_true, decide_eq_true_eq] at hg'
        rintro (h | h)
        · omega
        · have := hl19 _ h; omega
      have hbs : leBytes 1 ns.length ++ (ns.take m).flatMap name1 ++ leBytes 1 ns[m].1.length ++ ns[m].1 ++ leBytes 2 ns[m].2 = leBytes 1 ns.length ++ (ns.take (m + 1)).flatMap name1 := by
        rw [List.take_succ_eq_append_getElem hlt, List.flatMap_append, List.flatMap_cons, List.flatMap_nil, List.append_nil]
        simp only [name1, List.append_assoc]
      rw [hbs] at hO22
      have hB0 : w.heap.size ≤ w9.heap.size := hB9.size
      have bel : ∀ {l : Sl} {x y : World}, Fr (outS w1.heap.size l) x y → (∀ k, l.bk k → w.heap.size ≤ k) → w.heap.size ≤ x.heap.size → Below w.heap.size x y := fun h hl hx => h.toBelow (fun k hk => by
        rcases hk with rfl | hk
        · exact hB1
        · exact hl k hk) hx
      have b16 : Below w.heap.size w w16 := ((((hB9.trans ((below_fr hF13').mono hB0)).trans (hB14.mono (by omega))).trans (hB15.mono (by omega)))).trans (bel hF16 hl9 (by omega))
      have hl16' : ∀ k, l16.bk k → w.heap.size ≤ k := fun k hk => by
        rcases moved_bk hM16 hk with h | h
        · exact hl9 k h
        · omega
      have b19 : Below w.heap.size w w19 := ((b16.trans (hB17.mono (by omega))).trans (hB18.mono (by omega))).trans (bel hF19 hl16' (by omega))
      have hl19' : ∀ k, l19.bk k → w.heap.size ≤ k := fun k hk => by
        rcases moved_bk hM19 hk with h | h
        · exact hl16' k h
        · omega
      have hl22' : ∀ k, l22.bk k → w.heap.size ≤ k := fun k hk => by
        rcases moved_bk hM22 hk with h | h
        · exact hl19' k h
        · omega
      have b23 : Below w.heap.size w w23 := (((b19.trans (hB20.mono (by omega))).trans (hB21.mono (by omega))).trans (bel hF22 hl19' (by omega))).trans (hB23.mono (by omega))
      refine ⟨⟨m + 1, e1, hlt, l22, hO22.keep (fr_below hB23) id (fun _ _ => id), ?_, b23, hl22'⟩, ?_⟩
      · rw [← hbs]; simp only [List.length_append, leBytes_len] at hL9 ⊢; omega
      · show ((ns.length : Int) - w64 ((m : Int) + 1)).toNat < ((ns.length : Int) - (m : Int)).toNat
        rw [e1]; omega
    · have hge : ns.length ≤ m := by have := of_decide_eq_false hge; omega
      have : m = ns.length := by omega
      subst this
      rw [List.take_length] at hO9
      refine Out_End hO9 fun w' hw' => ?_
      exact hR w' (hB9.trans ((below_fr hw').mono hB9.size))

end Go.Proofs.YtmokmbhhnbcelaaGreatDoor

/- bits.In.End; sort.Search; table.Find. -/
set_option linter.unusedVariables false
namespace Go.Proofs.YtmokmbhhnbcelaaGreatDoor
open Go Go.Vc Go.RowKit Go.Lib

def endIn (l : List UInt8) (e : Int) : Int := if e ≠ 0 then e else if l.all (fun b => [(0 : UInt8)].contains b) then 0 else 6

theorem endIn_cases (l : List UInt8) : (l.all (fun b => [(0 : UInt8)].contains b) = true ∧ endIn l 0 = 0) ∨ (¬ l.all (fun b => [(0 : UInt8)].contains b) = true ∧ endIn l 0 = 6) := by
  by_cases h : l.all (fun b => [(0 : UInt8)].contains b) = true
  · exact .inl ⟨h, by unfold endIn; rw [if_neg (by decide), if_pos h]⟩
  · exact .inr ⟨h, by unfold endIn; rw [if_neg (by decide), if_neg h]⟩

theorem In_Rest {w : World} {g : Nat} {l : List UInt8} {e : Int} (hI : InAt w g l e) (hl : l.length ≤ 1099511627776) {R : Bool → World → Prop} (hR : ∀ w', Below w.heap.size w w' → R (decide (endIn l e = 0)) w') : F.bits_In_Rest (some (blk g)) w R := by
  apply E.bits_In_Rest
  unfold V.bits_In_Rest
  refine ⟨fun _ => ⟨blk g, rfl, e, by rw [blk_cell hI.obj]; rfl, fun h => ?_, fun h => ?_⟩, fun h => by simp at h⟩
  · have h : e = 0 := by simpa using h
    subst h
    refine ⟨blk g, rfl, tx l, by rw [blk_cell0 hI.obj]; rfl, Trim_zero (by omega) fun w' hw' => ?_⟩
    have : sEq (tx (trim [0] l)) sNil = decide (endIn l 0 = 0) := by
      rw [tx_nil, tx_eq, Bool.eq_iff_iff, decide_eq_true_eq, decide_eq_true_eq, trim_nil_t]
      rcases endIn_cases l with ⟨h1, h2⟩ | ⟨h1, h2⟩
      · exact ⟨fun _ => h2, fun _ => h1⟩
      · exact ⟨fun h => absurd h h1, fun h => by rw [h2] at h; cases h⟩
    rw [this]
    exact hR w' hw'
  · have h : e ≠ 0 := by simpa using h
    have : endIn l e = e := by simp [endIn, h]
    rw [this] at hR
    have := hR w (Below.refl _ _)
    rw [decide_eq_false h] at this
    exact this

theorem In_End {w : World} {g : Nat} {l : List UInt8} {e : Int} (hI : InAt w g l e) (hl : l.length ≤ 1099511627776) {R : Int → World → Prop} (hR : ∀ w', InAt w' g l (endIn l e) → Fr (· = g) w w' → R (endIn l e) w') : F.bits_In_End (some (blk g)) w R := by
  apply E.bits_In_End
  unfold V.bits_In_End
  refine ⟨fun h => by simp at h, fun _ => ⟨blk g, rfl, e, by rw [blk_cell hI.obj]; rfl, fun h => ?_, fun h => ?_⟩⟩
  · have h : e = 0 := by simpa using h
    subst h
    refine In_Rest hI hl fun w' hw' => ?_
    have hI' := hI.keep (fr_below hw') id
    refine ⟨fun h => ?_, fun h => ?_⟩
    · have h : ¬ endIn l 0 = 0 := by simpa using h
      have h6 : endIn l 0 = 6 := by
        rcases endIn_cases l with ⟨_, h2⟩ | ⟨_, h2⟩
        · exact absurd h2 h
        · exact h2
      rw [h6] at hR
      have hI6 : InAt (w'.setCell ((blk g).add 1) (.int .i64 6)) g l 6 := ⟨by have := blk_set hI'.obj 1 (.int .i64 6); simpa using this⟩
      exact ⟨blk g, rfl, blk_wr hI'.obj (by simp), blk g, rfl, 6, by rw [blk_cell hI6.obj]; rfl, hR _ hI6 (((fr_below hw').mono (S' := (· = g)) (fun _ _ h => h.elim)).trans (fr_set _ g 1 _) (fun _ _ h => h))⟩
    · have h : endIn l 0 = 0 := by simpa using h
      rw [h] at hR
      exact ⟨blk g, rfl, 0, by rw [blk_cell hI'.obj]; rfl, hR _ hI' ((fr_below hw').mono (fun _ _ h => h.elim))⟩
  · have h : e ≠ 0 := by simpa using h
    have e1 : endIn l e = e := by simp [endIn, h]
    rw [e1] at hR
    exact ⟨blk g, rfl, e, by rw [blk_cell hI.obj]; rfl, hR w hI (Fr.refl _ _)⟩

/-- a place that a binary search finds -/
def Found (p : Nat → Bool) (n k : Nat) : Prop := k ≤ n ∧ (k = 0 ∨ p (k - 1) = false) ∧ (k = n ∨ p k = true)

theorem Search_spec {n : Nat} (hn : n ≤ 1099511627776) {f : Nat} {cap : Array Value} {w : World} {p : Nat → Bool} {I : World → Prop} (hI : I w) (hc : Callable Pg f)
    (hp : ∀ i, i < n → ∀ w', I w' → ∀ R : Bool → World → Prop, (∀ w'', I w'' → R (p i) w'') → RetT Pg [.one .bool] f (⟨[] ++ [.int .i64 (i : Int)] ++ cap.toList⟩) w' R)
    {R : Int → World → Prop} (hR : ∀ (k : Nat) w', Found p n k → I w' → R k w') : F.sort_Search (n : Int) (.func (.func f) #[] cap) w R := by
  apply E.sort_Search
  unfold V.sort_Search
  refine ⟨fun i j w' => ∃ a b : Nat, i = a ∧ j = b ∧ a ≤ b ∧ b ≤ n ∧ (a = 0 ∨ p (a - 1) = false) ∧ (b = n ∨ p b = true) ∧ I w', fun i j _ => (j - i).toNat, ⟨0, n, rfl, rfl, Nat.zero_le _, Nat.le_refl _, .inl rfl, .inl rfl, hI⟩, ?_⟩
  rintro i j w1 ⟨a, b, rfl, rfl, hab, hbn, ha, hb, hI1⟩
  refine ⟨fun hlt => ?_, fun hge => ?_⟩
  · have hlt : a < b := by have := of_decide_eq_true hlt; omega
    have e1 : w64 ((a : Int) + (b : Int)) = ((a + b : Nat) : Int) := by rw [w64_id (by omega) (by omega)]; omega
    have e2 : shr .u64 (wr .u64 ((a + b : Nat) : Int)) 1 = (((a + b) / 2 : Nat) : Int) := by
      rw [wr64_id (by omega) (by omega)]
      unfold shr
      show ((a + b : Nat) : Int).fdiv (2 ^ 1) = _
      rw [Int.fdiv_eq_ediv_of_nonneg _ (by decide)]
      omega
    have e3 : w64 (((a + b) / 2 : Nat) : Int) = (((a + b) / 2 : Nat) : Int) := w64_id (by omega) (by omega)
    have e4 : w64 ((((a + b) / 2 : Nat) : Int) + 1) = (((a + b) / 2 + 1 : Nat) : Int) := by rw [w64_id (by omega) (by omega)]; omega
    rw [e1, e2, e3, e4]
    refine ⟨by decide, f, #[], cap, rfl, hc, hp ((a + b) / 2) (by omega) w1 hI1 _ fun w2 hI2 => ⟨fun h => ⟨?_, ?_⟩, fun h => ⟨?_, ?_⟩⟩⟩
    · exact ⟨(a + b) / 2 + 1, b, rfl, rfl, by omega, hbn, .inr (by simpa using h), hb, hI2⟩
    · show ((b : Int) - (((a + b) / 2 + 1 : Nat) : Int)).toNat < ((b : Int) - (a : Int)).toNat
      omega
    · exact ⟨a, (a + b) / 2, rfl, rfl, by omega, by omega, ha, .inr (by simpa using h), hI2⟩
    · show ((((a + b) / 2 : Nat) : Int) - (a : Int)).toNat < ((b : Int) - (a : Int)).toNat
      omega
  · have hge : b ≤ a := by have := of_decide_eq_false hge; omega
    have : a = b := by omega
    subst this
    exact hR a w1 ⟨hbn, ha, hb⟩ hI1

def nameP (ns : List (List UInt8 × Int)) (name : List UInt8) (i : Nat) : Bool := !Op.bytesLess (ns.getD i ([], 0)).1 name

theorem Find_spec {w : World} {sl : Sl} {ns : List (List UInt8 × Int)} (hN : Names w sl ns) (hb : ns.length ≤ 1099511627776) {name : List UInt8} {R : Int → Bool → World → Prop}
    (hR : ∀ (k : Nat) w', Found (nameP ns name) ns.length k → Below w.heap.size w w' → R k (decide (k < ns.length ∧ (ns.getD k ([], 0)).1 = name)) w') : F.table_Find sl (tx name) w R := by
  apply E.table_Find
  unfold V.table_Find
  intro w1 w2
  have h1 : w1.heap[w.heap.size]? = some (.cells ⟨[.slice sl.a sl.len sl.cap]⟩ T.y_sl_table_Name (0, 0)) := heap_new w _
  have hs1 : w1.heap.size = w.heap.size + 1 := by simp [w1]
  have hF1 : Fr no w w1 := Fr.alloc _ _ _
  have h2 : w2.heap[w1.heap.size]? = some (.cells ⟨[.string (tx name)]⟩ T.y_string (0, 0)) := heap_new w1 _
  have hs2 : w2.heap.size = w1.heap.size + 1 := by simp [w2]
  have hF2 : Fr no w1 w2 := Fr.alloc _ _ _
  clear_value w2
  clear_value w1
  have h1' := hF2.heap h1 id
  have hB2 : Below w.heap.size w w2 := below_fr (hF1.trans hF2 (fun _ _ h => h))
  have hN2 := hN.below hB2
  have hlen := hN.1
  refine ⟨sl, by rw [blk_cell0 h1']; rfl, ?_⟩
  have hl : ((sl.len : Nat) : Int) = (ns.length : Int) := by rw [hlen]
  simp only [hl]
  refine Search_spec hb (p := nameP ns name) (I := fun w' => Below w2.heap.size w2 w') (Below.refl _ _) (okChk_spec (by kernel_rfl)) ?_ ?_
  · intro i hi w3 hI3 R' hR'
    have g1 := (fr_below hI3).heap h1' id
    have g2 := (fr_below hI3).heap h2 id
    obtain ⟨a, ha, hc, _⟩ := (hN2.below hI3).2 i ns[i] (by simp [hi])
    refine (show F.table_Find_fn1 (i : Int) (blk w.heap.size) (blk w1.heap.size) w3 R' from E.table_Find_fn1 ?_)
    unfold V.table_Find_fn1
    refine ⟨sl, by rw [drew_cell, blk_cell0 g1]; rfl, a, ha, by omega, by omega, tx ns[i].1, by rw [drew_cell]; simpa using hc, tx name, by rw [drew_cell, blk_cell0 g2]; rfl, ?_⟩
    rw [tx_lt]
    have e1 : nameP ns name i = !Op.bytesLess ns[i].1 name := by simp [nameP, hi]
    rw [← e1]
    exact hR' _ hI3.drew
  · intro k w3 hk hI3
    have g1 := (fr_below hI3).heap h1' id
    have g2 := (fr_below hI3).heap h2 id
    have hB3 : Below w.heap.size w w3.drew := (hB2.trans (hI3.mono (by omega))).drew
    refine ⟨sl, by rw [drew_cell, blk_cell0 g1]; rfl, fun hlt => ?_, fun hge => ?_⟩
    · have hlt : k < ns.length := by have := of_decide_eq_true hlt; omega
      obtain ⟨a, ha, hc, _⟩ := (hN2.below hI3).2 k ns[k] (by simp [hlt])
      refine ⟨sl, by rw [drew_cell, blk_cell0 g1]; rfl, a, ha, by omega, by omega, tx ns[k].1, by rw [drew_cell]; simpa using hc, tx name, by rw [drew_cell, blk_cell0 g2]; rfl, ?_⟩
      rw [tx_eq]
      have e1 : decide (k < ns.length ∧ (ns.getD k ([], 0)).1 = name) = decide (ns[k].1 = name) := by simp [hlt]
      rw [← e1]
      exact hR k _ hk hB3
    · have hge : ¬ k < ns.length := by have := of_decide_eq_false hge; omega
      have e1 : decide (k < ns.length ∧ (ns.getD k ([], 0)).1 = name) = false := by simp [hge]
      rw [← e1]
      exact hR k _ hk hB3

end Go.Proofs.YtmokmbhhnbcelaaGreatDoor
