/- table.Set, table.Cut. -/
import Derived.Test.YtepclihkniaieaaDoorSi
set_option linter.unusedVariables false
namespace Go.Proofs.YtepclihkniaieaaDoor
open Go Go.Vc Go.RowKit Go.Lib

theorem nameCells_set : ∀ (ns : List (List UInt8 × Int)) (k : Nat) (n : List UInt8 × Int), nameCells (ns.set k n) = ((nameCells ns).set (k * 2) (.string (tx n.1))).set (k * 2 + 1) (.int .i64 n.2)
  | [], k, n => by simp [nameCells]
  | a :: r, 0, n => rfl
  | a :: r, k + 1, n => by
    have e : nameCells (a :: r) = .string (tx a.1) :: .int .i64 a.2 :: nameCells r := rfl
    have e2 : nameCells ((a :: r).set (k + 1) n) = .string (tx a.1) :: .int .i64 a.2 :: nameCells (r.set k n) := rfl
    rw [e2, nameCells_set r k n, e, show (k + 1) * 2 = k * 2 + 1 + 1 by omega, show k * 2 + 1 + 1 + 1 = (k * 2 + 1) + 1 + 1 by omega]
    rfl

/-- one element is stored -/
theorem Own.store {w : World} {l : Sl} {ns : List (List UInt8 × Int)} (h : Own w T.y_table_Name 2 l (nameCells ns)) {k : Nat} (hk : k < ns.length) {n : List UInt8 × Int} {a : Addr} (ha : l.a = some a) :
    Wr w (a.add (k * 2)) ∧ Wr (w.setCell (a.add (k * 2)) (.string (tx n.1))) ((a.add (k * 2)).add 1) ∧
    Own ((w.setCell (a.add (k * 2)) (.string (tx n.1))).setCell ((a.add (k * 2)).add 1) (.int .i64 n.2)) T.y_table_Name 2 l (nameCells (ns.set k n)) ∧
    Fr l.bk w ((w.setCell (a.add (k * 2)) (.string (tx n.1))).setCell ((a.add (k * 2)).add 1) (.int .i64 n.2)) := by
  have hlen : l.len = ns.length := by have := h.len; rw [nameCells_len] at this; omega
  obtain ⟨g, cur, ha', hg, hcl, htk, hlc, hcm⟩ := Own.row h (by omega)
  rw [ha] at ha'
  injection ha' with ha'
  subst ha'
  have hg2 := blk_set hg (k * 2) (.string (tx n.1))
  rw [add_add]
  have hg3 := blk_set hg2 (k * 2 + 1) (.int .i64 n.2)
  refine ⟨blk_wr hg (by rw [hcl]; omega), blk_wr hg2 (by rw [List.length_set, hcl]; omega), ?_, ?_⟩
  · have h6 := Own.of (n := l.len) (cap := l.cap) hg3 (by rw [List.length_set, List.length_set, hcl]) hlc hcm
    rw [List.take_set, List.take_set, htk, ← nameCells_set] at h6
    have : l = ⟨some (blk g), l.len, l.cap⟩ := by cases l; simp only at ha; subst ha; rfl
    rw [this]; exact h6
  · exact ((fr_set w g (k * 2) _).trans (S := (· = g)) (fr_set _ g (k * 2 + 1) _) (fun _ _ h => h)).mono (fun x _ hx => ⟨blk g, ha, Eq.symm hx⟩)

/-- a name set at a place -/
def setAt (ns : List (List UInt8 × Int)) (n : List UInt8 × Int) (k : Nat) : List (List UInt8 × Int) :=
  if k < ns.length ∧ (ns.getD k ([], 0)).1 = n.1 then ns.set k n else ns.take k ++ [n] ++ ns.drop k

theorem Set_spec {w : World} {sl : Sl} {ns : List (List UInt8 × Int)} (hN : Names w sl ns) (hb : ns.length ≤ 100000000) {n : List UInt8 × Int} {R : Sl → World → Prop}
    (hR : ∀ k l w', Found (nameP ns n.1) ns.length k → Own w' T.y_table_Name 2 l (nameCells (setAt ns n k)) → (∀ k, l.bk k → w.heap.size ≤ k) → Below w.heap.size w w' → R l w') : F.table_Set sl (tx n.1) n.2 w R := by
  apply E.table_Set
  unfold V.table_Set
  intro w1
  have h1 : w1.heap[w.heap.size]? = some (.cells ⟨[.string (tx n.1), .int .i64 n.2]⟩ T.y_table_Name (0, 0)) := heap_new w _
  have hB1 : Below w.heap.size w w1 := below_fr (Fr.alloc no w _)
  have hs1 : w1.heap.size = w.heap.size + 1 := by simp [w1]
  clear_value w1
  refine ⟨tx n.1, by rw [blk_cell0 h1]; rfl, ?_⟩
  refine Find_spec (hN.below hB1) (by omega) fun k w2 hk hB2 => ?_
  have hB02 := hB1.trans (hB2.mono hB1.size)
  refine Clone_names (hN.below hB02) (by omega) fun l w3 hO3 hbk3 hB3 => ?_
  have hB03 := hB02.trans (hB3.mono hB02.size)
  have h3 : w3.heap[w.heap.size]? = some (.cells ⟨[.string (tx n.1), .int .i64 n.2]⟩ T.y_table_Name (0, 0)) := (fr_below hB3).heap ((fr_below hB2).heap h1 id) id
  have hlen : l.len = ns.length := by have := hO3.len; rw [nameCells_len] at this; omega
  have hs2 := hB2.size
  refine ⟨fun hb => ?_, fun hb => ?_⟩
  · have hb := of_decide_eq_true hb
    obtain ⟨g, cur, ha, _⟩ := Own.row hO3 (by omega)
    obtain ⟨q1, q2, q3, q4⟩ := Own.store hO3 hb.1 (n := n) ha
    refine ⟨tx n.1, by rw [blk_cell0 h3]; rfl, n.2, by rw [blk_cell h3]; rfl, blk g, ha, by omega, by omega, ?_⟩
    simp only [Int.toNat_natCast]
    refine ⟨q1, q2, hR k l _ hk ?_ (fun x hx => by have := hbk3 x hx; omega) (hB03.trans (q4.toBelow (fun x hx => by have := hbk3 x hx; omega) hB03.size))⟩
    unfold setAt; rw [if_pos hb]; exact q3
  · have hb := of_decide_eq_false hb
    refine ⟨tx n.1, by rw [blk_cell0 h3]; rfl, n.2, by rw [blk_cell h3]; rfl, ?_⟩
    intro w4
    have h4 : w4.heap[w3.heap.size]? = some (.cells ⟨nameCells [n]⟩ T.y_table_Name (0, 0)) := heap_new w3 _
    have hF4 : Fr no w3 w4 := Fr.alloc _ _ _
    clear_value w4
    have hO4 := hO3.keep hF4 (fun _ _ => id)
    refine Insert_one hO4 (by omega) h4 (fun hk' => by have := hO3.lt hk'; omega) hk.1 fun l5 w5 hO5 hF5 hM5 => ?_
    refine hR k l5 w5 hk ?_ (fun x hx => ?_) ((hB03.trans ((below_fr hF4).mono hB03.size)).trans (hF5.toBelow (fun x hx => by have := hbk3 x hx; omega) (by have := hB03.size; have := hF4.size; omega)))
    · unfold setAt; rw [if_neg hb]; exact hO5
    · rcases moved_bk hM5 hx with h | h
      · have := hbk3 x h; omega
      · have := hF4.size; have := hB03.size; omega

/-- the texts of a slice -/
def Texts (w : World) (sl : Sl) (ts : List (List UInt8)) : Prop := sl.len = ts.length ∧ ∀ j t, ts[j]? = some t → ∃ a, sl.a = some a ∧ w.cell? (a.add (j * 1)) = some (.string (tx t))

theorem Texts.below {w w' : World} {sl : Sl} {ts : List (List UInt8)} (h : Texts w sl ts) (hw : Below w.heap.size w w') : Texts w' sl ts :=
  ⟨h.1, fun j n hj => by
    obtain ⟨a, ha, h1⟩ := h.2 j n hj
    exact ⟨a, ha, by rw [hw.cell (World.block_lt_of_cell? w _ h1)]; exact h1⟩⟩

theorem Contains_spec {w : World} {sl : Sl} {ts : List (List UInt8)} (hT : Texts w sl ts) (hb : ts.length ≤ 1000000000000000) {v : List UInt8} {R : Bool → World → Prop} (hR : R (ts.contains v) w) : F.slices_Contains_sl_string_string sl (tx v) w R := by
  apply E.slices_Contains_sl_string_string
  unfold V.slices_Contains_sl_string_string
  apply E.slices_Index_sl_string_string
  unfold V.slices_Index_sl_string_string
  have hlen := hT.1
  refine ⟨fun n w' => ∃ m : Nat, n = m ∧ m ≤ ts.length ∧ (ts.take m).contains v = false ∧ w' = w, fun n _ => (ts.length - n).toNat, ⟨0, rfl, Nat.zero_le _, by simp, rfl⟩, ?_⟩
  rintro n w1 ⟨m, rfl, hm, hc, rfl⟩
  refine ⟨fun hlt => ?_, fun hge => ?_⟩
  · have hlt : m < ts.length := by have := of_decide_eq_true hlt; omega
    obtain ⟨a, ha, hc1⟩ := hT.2 m ts[m] (by simp [hlt])
    have e1 : w64 ((m : Int) + 1) = ((m + 1 : Nat) : Int) := by rw [w64_id (by omega) (by omega)]; omega
    refine ⟨a, ha, by omega, by omega, tx ts[m], by simpa using hc1, ?_⟩
    rw [tx_eq]
    refine ⟨fun h => ?_, fun h => ?_⟩
    · have h := of_decide_eq_true h
      have : ts.contains v = true := by rw [List.contains_iff_mem, h]; exact List.getElem_mem _
      rw [this] at hR
      have e : decide ((m : Int) ≥ 0) = true := decide_eq_true (by omega)
      show R (decide ((m : Int) ≥ 0)) w1
      rw [e]; exact hR
    · have h := of_decide_eq_false h
      refine ⟨⟨m + 1, e1, hlt, ?_, rfl⟩, ?_⟩
      · rw [List.take_succ_eq_append_getElem hlt]
        rw [Bool.eq_false_iff] at hc ⊢
        intro hh
        rw [List.contains_iff_mem, List.mem_append, List.mem_singleton] at hh
        rcases hh with hh | hh
        · exact hc (List.contains_iff_mem.2 hh)
        · exact h hh
      · show ((ts.length : Int) - w64 ((m : Int) + 1)).toNat < ((ts.length : Int) - (m : Int)).toNat
        rw [e1]; omega
  · have hge : ts.length ≤ m := by have := of_decide_eq_false hge; omega
    have : m = ts.length := by omega
    subst this
    rw [List.take_length] at hc
    rw [hc] at hR
    have e : decide ((-1 : Int) ≥ 0) = false := by decide
    show R (decide ((-1 : Int) ≥ 0)) w1
    rw [e]; exact hR

end Go.Proofs.YtepclihkniaieaaDoor
