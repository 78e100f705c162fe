/- masonrylaw21.TableNames: what it computes. -/
import Derived.Test.YtepclihkniaieaaDoorTr
set_option linter.unusedVariables false
namespace Go.Proofs.YtepclihkniaieaaDoor
open Go Go.Vc Go.RowKit Go.Lib

def two : List (List UInt8 × Int) := [([97], 5), ([99], 6)]
def twoB : List UInt8 := [2, 1, 97, 5, 0, 1, 99, 6, 0]

theorem lay_two : layNames two = (twoB, 0) := by decide +kernel
theorem read_two : readNames twoB = (two, 0) := by decide +kernel
theorem valid_yes : validN [97, 46, 98, 64, 49] = true := by decide +kernel
theorem valid_no : validN [65] = false := by decide +kernel

theorem found_two {k : Nat} (h : Found (nameP two [98]) 2 k) : k = 1 := by
  have h0 : nameP two [98] 0 = false := by decide +kernel
  have h1 : nameP two [98] 1 = true := by decide +kernel
  obtain ⟨h2, h3, h4⟩ := h
  rcases k with _ | _ | _ | k
  · rcases h4 with h4 | h4
    · cases h4
    · rw [h0] at h4; cases h4
  · rfl
  · rcases h3 with h3 | h3
    · cases h3
    · have : nameP two [98] 1 = false := h3
      rw [h1] at this; cases this
  · omega

theorem Names.cells {w : World} {g : Nat} {ns : List (List UInt8 × Int)} {t : TypeId} (h : w.heap[g]? = some (.cells ⟨nameCells ns⟩ t (0, 0))) (n : Nat) (hn : n = ns.length) : Names w ⟨some (blk g), n, n⟩ ns :=
  ⟨hn, fun j x hj => by
    obtain ⟨h1, h2⟩ := nameCells_at ns j x hj
    exact ⟨blk g, rfl, by rw [blk_cell h]; exact h1, by rw [add_add, blk_cell h]; exact h2⟩⟩

theorem alive_spec {w : World} {R : Bool → World → Prop} (hR : ∀ w', Below w.heap.size w w' → R true w') : F.masonrylaw21_alive w R := by
  apply E.masonrylaw21_alive
  unfold V.masonrylaw21_alive
  intro w1
  have h1 : w1.heap[w.heap.size]? = some (.cells ⟨nameCells two⟩ T.y_table_Name (0, 0)) := heap_new w _
  have hF1 : Fr no w w1 := Fr.alloc _ _ _
  have hs1 : w1.heap.size = w.heap.size + 1 := by simp [w1]
  clear_value w1
  have hB1 := below_fr hF1
  have hN1 := Names.cells h1 2 rfl
  refine Find_spec (name := [98]) hN1 (by decide) fun k w2 hk hB2 => ?_
  have hk := found_two hk
  subst hk
  refine Lay_spec (hN1.below hB2) (by decide) (by decide) fun w3 hB3 => ?_
  rw [lay_two]
  refine Read_spec (by decide) fun l w4 hO4 hl4 hB4 => ?_
  rw [read_two] at hO4 ⊢
  intro w5
  have hB13 : Below w1.heap.size w1 w3 := hB2.trans (hB3.mono hB2.size)
  have hB14 : Below w1.heap.size w1 w4 := hB13.trans (hB4.mono hB13.size)
  have hB15 : Below w1.heap.size w1 w5 := hB14.drew
  have hB : Below w.heap.size w w5 := hB1.trans (hB15.mono hB1.size)
  have hO5 : Own w5 T.y_table_Name 2 l (nameCells two) := hO4.keep (Fr.drew no _) (fun _ _ => id)
  clear_value w5
  have hN5 := Own.names hO5
  have hl5 : l.len = 2 := hN5.1
  obtain ⟨a, ha, hc1, hc2⟩ := hN5.2 1 ([99], 6) rfl
  obtain ⟨a', ha', hd1, hd2⟩ := (hN1.below hB15).2 1 ([99], 6) rfl
  refine ⟨fun _ => ⟨fun _ => ⟨fun _ => ⟨fun _ => ⟨fun _ => ?_, fun h => ?_⟩, fun h => ?_⟩, fun h => ?_⟩, fun h => ?_⟩, fun h => ?_⟩
  rotate_left
  · exfalso; rw [hl5] at h; revert h; decide
  · exfalso; revert h; decide
  · exfalso; revert h; decide
  · exfalso; revert h; decide
  · exfalso; revert h; decide
  refine ⟨a, ha, by decide, by rw [hl5]; decide, tx [99], hc1, 6, hc2, a', ha', by decide, by decide, tx [99], hd1, 6, hd2, fun _ => ?_, fun h => ?_⟩
  rotate_left
  · exfalso; rw [tx_eq] at h; revert h; decide
  refine Valid_spec (n := [97, 46, 98, 64, 49]) (by decide) fun w6 hB6 => ?_
  rw [valid_yes]
  have k : ∀ {x : World}, Below w5.heap.size w5 x → ∀ {p : Addr} {v : Value}, w5.cell? p = some v → x.cell? p = some v := fun hx p v hp => by rw [hx.cell (World.block_lt_of_cell? w5 _ hp)]; exact hp
  refine ⟨k hB6 hd1, k hB6 hd2, k hB6 hc1, k hB6 hc2, fun _ => ?_, fun h => by cases h⟩
  refine Valid_spec (n := [65]) (by decide) fun w7 hB7 => ?_
  rw [valid_no]
  have hB57 := hB6.trans (hB7.mono hB6.size)
  exact ⟨k hB57 hd1, k hB57 hd2, k hB57 hc1, k hB57 hc2, hR w7 (hB.trans (hB57.mono hB.size))⟩

theorem rep_take (i : Nat) (x : UInt8) (n : Nat) : (List.replicate i x ++ List.replicate (n - i) 0).take i = List.replicate i x := by
  rw [List.take_append_of_le_length (by simp)]; simp

theorem tableNames_spec {s : List UInt8} {n : Int} {w : World} (hn : -9223372036854775808 ≤ n) (hn2 : n < 9223372036854775808) {R : Bool → World → Prop} (hR : ∀ w', Below w.heap.size w w' → R true w') : F.masonrylaw21_TableNames (tx s) n w R := by
  apply E.masonrylaw21_TableNames
  unfold V.masonrylaw21_TableNames
  rw [tx_size]
  refine ⟨fun _ => alive_spec hR, fun h1 => ⟨fun _ => alive_spec hR, fun h2 => ⟨fun _ => alive_spec hR, fun h3 => ?_⟩⟩⟩
  have h1 : s.length ≤ 60 := by have := of_decide_eq_false h1; omega
  have h2 : 0 ≤ n := by have := of_decide_eq_false h2; omega
  have h3 : n ≤ 30 := by have := of_decide_eq_false h3; omega
  obtain ⟨N, rfl⟩ : ∃ N : Nat, n = N := ⟨n.toNat, by omega⟩
  have hN : N ≤ 30 := by omega
  refine alive_spec fun w1 hB1 => ⟨fun h => by simp at h, fun _ => ?_⟩
  obtain ⟨i, hi, hz, hs1, hby⟩ := info_byte
  refine runT_make und_bytes hi hz hs1 (by rw [hby]; omega) (by simp only [maxLen]; omega) fun w2 hO2 hF2 hs2 => ?_
  have hmk : (madeCells (Value.int .u8 0).cells (N * 1)).toList = (List.replicate N (0 : UInt8)).map fun b => Value.int .u8 (b.toNat : Int) := by
    have h := toList_madeCells_one (Value.int .u8 0) (N * 1)
    rw [show (Value.int IntKind.u8 0).cells = #[Value.int .u8 0] from rfl, h]
    simp
  rw [hmk] at hO2
  refine runT_bytes_str und_bytes und_byte und_str hO2 ?_
  have hB2 : Below w.heap.size w w2 := hB1.trans ((below_fr hF2).mono hB1.size)
  refine ⟨fun long i w' => ∃ m : Nat, i = m ∧ m ≤ N ∧ long = tx (List.replicate m 122 ++ List.replicate (N - m) 0) ∧ Below w.heap.size w w', fun _ i _ => (N - i).toNat, ⟨0, rfl, Nat.zero_le _, rfl, hB2⟩, ?_⟩
  rintro long i w3 ⟨m, rfl, hm, rfl, hB3⟩
  have hlen : (List.replicate m (122 : UInt8) ++ List.replicate (N - m) 0).length = N := by simp; omega
  refine ⟨fun hlt => ?_, fun hge => ?_⟩
  · have hlt : m < N := by have := of_decide_eq_true hlt; omega
    have e1 : w64 ((m : Int) + 1) = ((m + 1 : Nat) : Int) := by rw [w64_id (by omega) (by omega)]; omega
    have hz1 : str_z = tx [122] := rfl
    rw [e1, tx_size, hlen, tx_ext, tx_ext, hz1, tx_app, tx_app, tx_size, tx_size, tx_size]
    have ee : (List.replicate m (122 : UInt8) ++ List.replicate (N - m) 0).take ((m : Int).toNat - 0) = List.replicate m 122 := by
      rw [show ((m : Int).toNat - 0) = m by omega]; exact rep_take _ _ _
    have ef : ((List.replicate m (122 : UInt8) ++ List.replicate (N - m) 0).drop (((m + 1 : Nat) : Int).toNat)).take (N - ((m + 1 : Nat) : Int).toNat) = List.replicate (N - (m + 1)) 0 := by
      rw [show (((m + 1 : Nat) : Int).toNat) = m + 1 by omega, List.take_of_length_le (by simp; omega), List.drop_append]
      simp
      omega
    rw [List.drop_zero, ee, ef]
    have eg : List.replicate m (122 : UInt8) ++ [122] ++ List.replicate (N - (m + 1)) 0 = List.replicate (m + 1) 122 ++ List.replicate (N - (m + 1)) 0 := by
      rw [List.replicate_succ']
    rw [eg]
    refine ⟨by omega, by omega, by simp; omega, by omega, by omega, by simp only [tx_size]; simp; omega, ⟨m + 1, rfl, hlt, rfl, hB3.drew⟩, ?_⟩
    show ((N : Int) - ((m + 1 : Nat) : Int)).toNat < ((N : Int) - (m : Int)).toNat
    omega
  · have hge : N ≤ m := by have := of_decide_eq_false hge; omega
    have : m = N := by omega
    subst this
    have hl : List.replicate m (122 : UInt8) ++ List.replicate (m - m) 0 = List.replicate m 122 := by simp
    rw [hl]
    intro w4
    have h4 : w4.heap[w3.heap.size]? = some (.cells ⟨nameCells [(List.replicate m 122, 1)]⟩ T.y_table_Name (0, 0)) := heap_new w3 _
    have hF4 : Fr no w3 w4 := Fr.alloc _ _ _
    clear_value w4
    have hB4 : Below w.heap.size w w4 := hB3.trans ((below_fr hF4).mono hB3.size)
    have hv : validN (List.replicate m 122) = (decide (1 ≤ m) && decide (m ≤ 12)) := by
      have hc : letters.contains 122 = true := by decide +kernel
      simp only [validN, List.length_replicate]
      have : (List.replicate m (122 : UInt8)).all (fun b => letters.contains b) = true := by
        rw [List.all_eq_true]; intro x hx; rw [List.eq_of_mem_replicate hx]; exact hc
      rw [this, Bool.and_true]
    refine Lay_spec (Names.cells h4 1 rfl) (by simp) (fun y hy => by simp only [List.mem_singleton] at hy; subst hy; simp; omega) fun w5 hB5 => ?_
    have hlay : ((layNames [(List.replicate m 122, 1)]).2 == 0) = (decide (1 ≤ m) && decide (m ≤ 12)) := by
      have ho : okAt [(List.replicate m 122, 1)] 0 = validN (List.replicate m 122) := by simp [okAt]
      have hall : (List.range [(List.replicate m (122 : UInt8), (1 : Int))].length).all (okAt [(List.replicate m 122, 1)]) = validN (List.replicate m 122) := by
        show (List.range 1).all _ = _
        rw [show List.range 1 = [0] from rfl]
        simp [ho]
      unfold layNames
      rw [hall, hv]
      cases (decide (1 ≤ m) && decide (m ≤ 12)) <;> rfl
    refine Valid_spec (by omega) fun w6 hB6 => ValidName_spec (by omega) ⟨fun _ => ?_, fun h => by simp at h⟩
    have hB46 := hB4.trans ((hB5.trans (hB6.mono hB5.size)).mono hB4.size)
    refine Valid_spec (by simp; omega) fun w7 hB7 => ?_
    have hB47 := hB46.trans (hB7.mono hB46.size)
    rw [hv, hlay]
    have d1 : decide ((m : Int) ≥ 1) = decide (1 ≤ m) := by rw [Bool.eq_iff_iff]; simp; omega
    have d2 : decide ((m : Int) ≤ 12) = decide (m ≤ 12) := by rw [Bool.eq_iff_iff]; simp; omega
    rw [d1, d2]
    have hfin := hR w7 hB47
    cases decide (1 ≤ m) <;> cases decide (m ≤ 12) <;> simp <;> exact hfin

end Go.Proofs.YtepclihkniaieaaDoor
