/- crc.half and crc.Of: the table of four shifts, the sum of a text. -/
import Derived.Test.YtmokmbhhnbcelaaGreatDoorOu
import Derived.Test.YtmokmbhhnbcelaaGreatDoorHn
import Derived.Laws.BitsAllLaws
import Derived.Test.YtmokmbhhnbcelaaGreatDoorZe
import Derived.Test.YtmokmbhhnbcelaaGreatDoorBa
set_option linter.unusedVariables false
namespace Go.Proofs.YtmokmbhhnbcelaaGreatDoor
open Go Go.Vc Go.RowKit Go.Lib

def stepn : Nat → Nat → Nat
  | 0, x => x
  | c + 1, x => step (stepn c x)

theorem stepn_lt : ∀ (c : Nat) {x : Nat}, x < 4294967296 → stepn c x < 4294967296
  | 0, _, h => h
  | c + 1, _, h => step_lt (stepn_lt c h)

/-- the table, of which the first m places are filled -/
def tabTo (m : Nat) : List Value := (List.range 16).map fun i => .int .u32 (((if i < m then step4 i else 0 : Nat)) : Int)
def tabC : List Value := (List.range 16).map fun i => .int .u32 ((step4 i : Nat) : Int)

theorem tabTo_get (m j : Nat) (hj : j < 16) : (tabTo m)[j]? = some (.int .u32 (((if j < m then step4 j else 0 : Nat)) : Int)) := by
  simp [tabTo, hj]
theorem tabC_get (j : Nat) (hj : j < 16) : tabC[j]? = some (.int .u32 ((step4 j : Nat) : Int)) := by simp [tabC, hj]

theorem tabTo_set (m : Nat) (hm : m < 16) : (tabTo m).set m (.int .u32 ((step4 m : Nat) : Int)) = tabTo (m + 1) := by
  apply List.ext_getElem?
  intro j
  by_cases hj : j < 16
  · by_cases h : m = j
    · subst h
      rw [List.getElem?_set, if_pos rfl, if_pos (by simp [tabTo]; exact hm), tabTo_get _ _ hj, if_pos (by omega)]
    · rw [List.getElem?_set, if_neg h, tabTo_get _ _ hj, tabTo_get _ _ hj]
      have : (j < m) ↔ (j < m + 1) := by omega
      simp [this]
  · rw [List.getElem?_eq_none (by simp [tabTo]; omega), List.getElem?_eq_none (by simp [tabTo]; omega)]

theorem tabTo_all : tabTo 16 = tabC := by
  apply List.ext_getElem?
  intro j
  by_cases hj : j < 16
  · rw [tabTo_get _ _ hj, tabC_get _ hj, if_pos hj]
  · rw [List.getElem?_eq_none (by simp [tabTo]; omega), List.getElem?_eq_none (by simp [tabC]; omega)]

theorem wr32_id {x : Nat} (h : x < 4294967296) : wr .u32 (x : Int) = (x : Int) := by
  have e : wr .u32 (x : Int) = (x : Int) % 4294967296 := by simp [wr, IntKind.wrap, IntKind.bits, IntKind.signed]
  rw [e]; omega

theorem shr32 (x k : Nat) (hk : k ≤ 32) : shr .u32 (x : Int) (k : Int) = ((x / 2 ^ k : Nat) : Int) := by
  unfold shr
  have e : (min (k : Int).toNat (IntKind.bits .u32)) = k := by
    show min (k : Int).toNat 32 = k
    omega
  rw [e]
  have e2 : ((2 : Int) ^ k) = ((2 ^ k : Nat) : Int) := by rw [Int.natCast_pow]; rfl
  rw [e2, Int.fdiv_eq_ediv_of_nonneg _ (Int.natCast_nonneg _)]
  rfl

theorem and1 (x : Nat) (h : x < 4294967296) : (bits .and .u32 (x : Int) 1 == 1) = decide (x % 2 = 1) := by
  have e := u32_and_nat x 1 h (by decide)
  have e1 : ((1 : Nat) : Int) = 1 := rfl
  rw [e1] at e
  rw [e, Nat.and_one_is_mod]
  rw [Bool.eq_iff_iff]
  simp
  omega


set_option maxRecDepth 20000 in
theorem half_spec {w : World} {R : Int → Int → Int → Int → Int → Int → Int → Int → Int → Int → Int → Int → Int → Int → Int → Int → World → Prop}
    (hR : ∀ w', Below w.heap.size w w' → R ((step4 0 : Nat) : Int) ((step4 1 : Nat) : Int) ((step4 2 : Nat) : Int) ((step4 3 : Nat) : Int) ((step4 4 : Nat) : Int) ((step4 5 : Nat) : Int) ((step4 6 : Nat) : Int) ((step4 7 : Nat) : Int) ((step4 8 : Nat) : Int) ((step4 9 : Nat) : Int) ((step4 10 : Nat) : Int) ((step4 11 : Nat) : Int) ((step4 12 : Nat) : Int) ((step4 13 : Nat) : Int) ((step4 14 : Nat) : Int) ((step4 15 : Nat) : Int) w') : F.crc_half w R := by
  apply E.crc_half
  unfold V.crc_half
  intro w0 w1
  have h0 : w1.heap[w.heap.size]? = some (.cells ⟨tabTo 0⟩ T.y_16_uint32 (0, 0)) := (Fr.alloc no w0 _).heap (heap_new w _) id
  have h1 : w1.heap[w0.heap.size]? = some (.cells ⟨tabTo 0⟩ T.y_16_uint32 (0, 0)) := heap_new w0 _
  have hs0 : w0.heap.size = w.heap.size + 1 := by simp [w0]
  have hB : Below w.heap.size w w1 := (below_fr (Fr.alloc no w _)).trans ((below_fr (Fr.alloc no w0 _)).mono (by omega))
  clear_value w1
  refine ⟨fun n w' => ∃ m : Nat, n = m ∧ m ≤ 16 ∧ w'.heap[w0.heap.size]? = some (.cells ⟨tabTo m⟩ T.y_16_uint32 (0, 0)) ∧ w'.heap[w.heap.size]? = some (.cells ⟨tabTo 0⟩ T.y_16_uint32 (0, 0)) ∧ Below w.heap.size w w', fun n _ => (16 - n).toNat,
    ⟨0, rfl, Nat.zero_le _, h1, h0, hB⟩, ?_⟩
  rintro n w2 ⟨m, rfl, hm, ho, hr, hB2⟩
  refine ⟨fun hlt => ?_, fun hge => ?_⟩
  · have hlt : m < 16 := by have := of_decide_eq_true hlt; omega
    rw [wr32_id (by omega)]
    refine ⟨fun x c w' => ∃ k : Nat, c = k ∧ k ≤ 4 ∧ x = ((stepn k m : Nat) : Int) ∧ w' = w2, fun _ c _ => (4 - c).toNat, ⟨0, rfl, Nat.zero_le _, rfl, rfl⟩, ?_⟩
    rintro x c w3 ⟨k, rfl, hk, rfl, rfl⟩
    have hx := stepn_lt k (show m < 4294967296 by omega)
    refine ⟨fun hlt2 => ⟨by decide, ?_⟩, fun hge2 => ?_⟩
    · have hlt2 : k < 4 := by have := of_decide_eq_true hlt2; omega
      have e1 : w64 ((k : Int) + 1) = ((k + 1 : Nat) : Int) := by rw [w64_id (by omega) (by omega)]; omega
      have hmeas : ((4 : Int) - w64 ((k : Int) + 1)).toNat < ((4 : Int) - (k : Int)).toNat := by rw [e1]; omega
      have es : shr .u32 ((stepn k m : Nat) : Int) 1 = ((stepn k m / 2 : Nat) : Int) := by
        have := shr32 (stepn k m) 1 (by decide)
        simpa using this
      rw [and1 _ hx, es]
      refine ⟨fun ho => ⟨⟨k + 1, e1, hlt2, ?_, rfl⟩, hmeas⟩, fun he => ⟨⟨k + 1, e1, hlt2, ?_, rfl⟩, hmeas⟩⟩
      · have ho := of_decide_eq_true ho
        have e2 : stepn (k + 1) m = (stepn k m / 2) ^^^ 3988292384 := by simp [stepn, step, ho]
        rw [e2]
        exact u32_xor_nat _ _ (by omega) (by decide)
      · have he := of_decide_eq_false he
        have e2 : stepn (k + 1) m = stepn k m / 2 := by simp [stepn, step, he]
        rw [e2]
    · have hk4 : k = 4 := by have := of_decide_eq_false hge2; omega
      subst hk4
      have e1 : w64 ((m : Int) + 1) = ((m + 1 : Nat) : Int) := by rw [w64_id (by omega) (by omega)]; omega
      have e4 : stepn 4 m = step4 m := rfl
      rw [e4, Nat.mul_one, Int.toNat_natCast]
      refine ⟨by omega, by omega, blk_wr ho (by simp [tabTo]; omega), ?_⟩
      intro w4
      have h4 : w4.heap[w0.heap.size]? = some (.cells ⟨tabTo (m + 1)⟩ T.y_16_uint32 (0, 0)) := by
        have := blk_set ho m (.int .u32 ((step4 m : Nat) : Int))
        rw [tabTo_set m hlt] at this
        exact this
      have hF4 : Fr (· = w0.heap.size) w3 w4 := fr_set w3 _ m _
      clear_value w4
      refine ⟨⟨m + 1, e1, hlt, h4, hF4.heap hr (fun h => by have : w.heap.size = w0.heap.size := h; omega), hB2.trans (hF4.toBelow (fun k hk => by have : k = w0.heap.size := hk; omega) hB2.size)⟩, ?_⟩
      show ((16 : Int) - w64 ((m : Int) + 1)).toNat < ((16 : Int) - (m : Int)).toNat
      rw [e1]; omega
  · have hm16 : m = 16 := by have := of_decide_eq_false hge; omega
    subst hm16
    rw [tabTo_all] at ho

    refine ⟨_, by rw [blk_cell0 ho]; rfl, _, by rw [blk_cell ho]; rfl, _, by rw [blk_cell ho]; rfl, _, by rw [blk_cell ho]; rfl, _, by rw [blk_cell ho]; rfl, _, by rw [blk_cell ho]; rfl, _, by rw [blk_cell ho]; rfl, _, by rw [blk_cell ho]; rfl, _, by rw [blk_cell ho]; rfl, _, by rw [blk_cell ho]; rfl, _, by rw [blk_cell ho]; rfl, _, by rw [blk_cell ho]; rfl, _, by rw [blk_cell ho]; rfl, _, by rw [blk_cell ho]; rfl, _, by rw [blk_cell ho]; rfl, _, by rw [blk_cell ho]; rfl, ?_⟩
    have f0 : Below w.heap.size w w2 := hB2
    refine ⟨blk_wr0 hr (by decide), ?_⟩
    intro x0
    have r0 : x0.heap[w.heap.size]? = some (.cells ⟨[.int .u32 ((step4 0 : Nat) : Int), .int .u32 0, .int .u32 0, .int .u32 0, .int .u32 0, .int .u32 0, .int .u32 0, .int .u32 0, .int .u32 0, .int .u32 0, .int .u32 0, .int .u32 0, .int .u32 0, .int .u32 0, .int .u32 0, .int .u32 0]⟩ T.y_16_uint32 (0, 0)) := blk_set0 hr _
    have f1 : Below w.heap.size w x0 := f0.trans ((fr_set0 w2 w.heap.size (.int .u32 ((step4 0 : Nat) : Int))).toBelow (fun k hk => by have : k = w.heap.size := hk; omega) f0.size)
    clear_value x0
    refine ⟨blk_wr r0 (by decide), ?_⟩
    intro x1
    have r1 : x1.heap[w.heap.size]? = some (.cells ⟨[.int .u32 ((step4 0 : Nat) : Int), .int .u32 ((step4 1 : Nat) : Int), .int .u32 0, .int .u32 0, .int .u32 0, .int .u32 0, .int .u32 0, .int .u32 0, .int .u32 0, .int .u32 0, .int .u32 0, .int .u32 0, .int .u32 0, .int .u32 0, .int .u32 0, .int .u32 0]⟩ T.y_16_uint32 (0, 0)) := blk_set r0 1 _
    have f2 : Below w.heap.size w x1 := f1.trans ((fr_set x0 w.heap.size 1 (.int .u32 ((step4 1 : Nat) : Int))).toBelow (fun k hk => by have : k = w.heap.size := hk; omega) f1.size)
    clear_value x1
    refine ⟨blk_wr r1 (by decide), ?_⟩
    intro x2
    have r2 : x2.heap[w.heap.size]? = some (.cells ⟨[.int .u32 ((step4 0 : Nat) : Int), .int .u32 ((step4 1 : Nat) : Int), .int .u32 ((step4 2 : Nat) : Int), .int .u32 0, .int .u32 0, .int .u32 0, .int .u32 0, .int .u32 0, .int .u32 0, .int .u32 0, .int .u32 0, .int .u32 0, .int .u32 0, .int .u32 0, .int .u32 0, .int .u32 0]⟩ T.y_16_uint32 (0, 0)) := blk_set r1 2 _
    have f3 : Below w.heap.size w x2 := f2.trans ((fr_set x1 w.heap.size 2 (.int .u32 ((step4 2 : Nat) : Int))).toBelow (fun k hk => by have : k = w.heap.size := hk; omega) f2.size)
    clear_value x2
    refine ⟨blk_wr r2 (by decide), ?_⟩
    intro x3
    have r3 : x3.heap[w.heap.size]? = some (.cells ⟨[.int .u32 ((step4 0 : Nat) : Int), .int .u32 ((step4 1 : Nat) : Int), .int .u32 ((step4 2 : Nat) : Int), .int .u32 ((step4 3 : Nat) : Int), .int .u32 0, .int .u32 0, .int .u32 0, .int .u32 0, .int .u32 0, .int .u32 0, .int .u32 0, .int .u32 0, .int .u32 0, .int .u32 0, .int .u32 0, .int .u32 0]⟩ T.y_16_uint32 (0, 0)) := blk_set r2 3 _
    have f4 : Below w.heap.size w x3 := f3.trans ((fr_set x2 w.heap.size 3 (.int .u32 ((step4 3 : Nat) : Int))).toBelow (fun k hk => by have : k = w.heap.size := hk; omega) f3.size)
    clear_value x3
    refine ⟨blk_wr r3 (by decide), ?_⟩
    intro x4
    have r4 : x4.heap[w.heap.size]? = some (.cells ⟨[.int .u32 ((step4 0 : Nat) : Int), .int .u32 ((step4 1 : Nat) : Int), .int .u32 ((step4 2 : Nat) : Int), .int .u32 ((step4 3 : Nat) : Int), .int .u32 ((step4 4 : Nat) : Int), .int .u32 0, .int .u32 0, .int .u32 0, .int .u32 0, .int .u32 0, .int .u32 0, .int .u32 0, .int .u32 0, .int .u32 0, .int .u32 0, .int .u32 0]⟩ T.y_16_uint32 (0, 0)) := blk_set r3 4 _
    have f5 : Below w.heap.size w x4 := f4.trans ((fr_set x3 w.heap.size 4 (.int .u32 ((step4 4 : Nat) : Int))).toBelow (fun k hk => by have : k = w.heap.size := hk; omega) f4.size)
    clear_value x4
    refine ⟨blk_wr r4 (by decide), ?_⟩
    intro x5
    have r5 : x5.heap[w.heap.size]? = some (.cells ⟨[.int .u32 ((step4 0 : Nat) : Int), .int .u32 ((step4 1 : Nat) : Int), .int .u32 ((step4 2 : Nat) : Int), .int .u32 ((step4 3 : Nat) : Int), .int .u32 ((step4 4 : Nat) : Int), .int .u32 ((step4 5 : Nat) : Int), .int .u32 0, .int .u32 0, .int .u32 0, .int .u32 0, .int .u32 0, .int .u32 0, .int .u32 0, .int .u32 0, .int .u32 0, .int .u32 0]⟩ T.y_16_uint32 (0, 0)) := blk_set r4 5 _
    have f6 : Below w.heap.size w x5 := f5.trans ((fr_set x4 w.heap.size 5 (.int .u32 ((step4 5 : Nat) : Int))).toBelow (fun k hk => by have : k = w.heap.size := hk; omega) f5.size)
    clear_value x5
    refine ⟨blk_wr r5 (by decide), ?_⟩
    intro x6
    have r6 : x6.heap[w.heap.size]? = some (.cells ⟨[.int .u32 ((step4 0 : Nat) : Int), .int .u32 ((step4 1 : Nat) : Int), .int .u32 ((step4 2 : Nat) : Int), .int .u32 ((step4 3 : Nat) : Int), .int .u32 ((step4 4 : Nat) : Int), .int .u32 ((step4 5 : Nat) : Int), .int .u32 ((step4 6 : Nat) : Int), .int .u32 0, .int .u32 0, .int .u32 0, .int .u32 0, .int .u32 0, .int .u32 0, .int .u32 0, .int .u32 0, .int .u32 0]⟩ T.y_16_uint32 (0, 0)) := blk_set r5 6 _
    have f7 : Below w.heap.size w x6 := f6.trans ((fr_set x5 w.heap.size 6 (.int .u32 ((step4 6 : Nat) : Int))).toBelow (fun k hk => by have : k = w.heap.size := hk; omega) f6.size)
    clear_value x6
    refine ⟨blk_wr r6 (by decide), ?_⟩
    intro x7
    have r7 : x7.heap[w.heap.size]? = some (.cells ⟨[.int .u32 ((step4 0 : Nat) : Int), .int .u32 ((step4 1 : Nat) : Int), .int .u32 ((step4 2 : Nat) : Int), .int .u32 ((step4 3 : Nat) : Int), .int .u32 ((step4 4 : Nat) : Int), .int .u32 ((step4 5 : Nat) : Int), .int .u32 ((step4 6 : Nat) : Int), .int .u32 ((step4 7 : Nat) : Int), .int .u32 0, .int .u32 0, .int .u32 0, .int .u32 0, .int .u32 0, .int .u32 0, .int .u32 0, .int .u32 0]⟩ T.y_16_uint32 (0, 0)) := blk_set r6 7 _
    have f8 : Below w.heap.size w x7 := f7.trans ((fr_set x6 w.heap.size 7 (.int .u32 ((step4 7 : Nat) : Int))).toBelow (fun k hk => by have : k = w.heap.size := hk; omega) f7.size)
    clear_value x7
    refine ⟨blk_wr r7 (by decide), ?_⟩
    intro x8
    have r8 : x8.heap[w.heap.size]? = some (.cells ⟨[.int .u32 ((step4 0 : Nat) : Int), .int .u32 ((step4 1 : Nat) : Int), .int .u32 ((step4 2 : Nat) : Int), .int .u32 ((step4 3 : Nat) : Int), .int .u32 ((step4 4 : Nat) : Int), .int .u32 ((step4 5 : Nat) : Int), .int .u32 ((step4 6 : Nat) : Int), .int .u32 ((step4 7 : Nat) : Int), .int .u32 ((step4 8 : Nat) : Int), .int .u32 0, .int .u32 0, .int .u32 0, .int .u32 0, .int .u32 0, .int .u32 0, .int .u32 0]⟩ T.y_16_uint32 (0, 0)) := blk_set r7 8 _
    have f9 : Below w.heap.size w x8 := f8.trans ((fr_set x7 w.heap.size 8 (.int .u32 ((step4 8 : Nat) : Int))).toBelow (fun k hk => by have : k = w.heap.size := hk; omega) f8.size)
    clear_value x8
    refine ⟨blk_wr r8 (by decide), ?_⟩
    intro x9
    have r9 : x9.heap[w.heap.size]? = some (.cells ⟨[.int .u32 ((step4 0 : Nat) : Int), .int .u32 ((step4 1 : Nat) : Int), .int .u32 ((step4 2 : Nat) : Int), .int .u32 ((step4 3 : Nat) : Int), .int .u32 ((step4 4 : Nat) : Int), .int .u32 ((step4 5 : Nat) : Int), .int .u32 ((step4 6 : Nat) : Int), .int .u32 ((step4 7 : Nat) : Int), .int .u32 ((step4 8 : Nat) : Int), .int .u32 ((step4 9 : Nat) : Int), .int .u32 0, .int .u32 0, .int .u32 0, .int .u32 0, .int .u32 0, .int .u32 0]⟩ T.y_16_uint32 (0, 0)) := blk_set r8 9 _
    have f10 : Below w.heap.size w x9 := f9.trans ((fr_set x8 w.heap.size 9 (.int .u32 ((step4 9 : Nat) : Int))).toBelow (fun k hk => by have : k = w.heap.size := hk; omega) f9.size)
    clear_value x9
    refine ⟨blk_wr r9 (by decide), ?_⟩
    intro x10
    have r10 : x10.heap[w.heap.size]? = some (.cells ⟨[.int .u32 ((step4 0 : Nat) : Int), .int .u32 ((step4 1 : Nat) : Int), .int .u32 ((step4 2 : Nat) : Int), .int .u32 ((step4 3 : Nat) : Int), .int .u32 ((step4 4 : Nat) : Int), .int .u32 ((step4 5 : Nat) : Int), .int .u32 ((step4 6 : Nat) : Int), .int .u32 ((step4 7 : Nat) : Int), .int .u32 ((step4 8 : Nat) : Int), .int .u32 ((step4 9 : Nat) : Int), .int .u32 ((step4 10 : Nat) : Int), .int .u32 0, .int .u32 0, .int .u32 0, .int .u32 0, .int .u32 0]⟩ T.y_16_uint32 (0, 0)) := blk_set r9 10 _
    have f11 : Below w.heap.size w x10 := f10.trans ((fr_set x9 w.heap.size 10 (.int .u32 ((step4 10 : Nat) : Int))).toBelow (fun k hk => by have : k = w.heap.size := hk; omega) f10.size)
    clear_value x10
    refine ⟨blk_wr r10 (by decide), ?_⟩
    intro x11
    have r11 : x11.heap[w.heap.size]? = some (.cells ⟨[.int .u32 ((step4 0 : Nat) : Int), .int .u32 ((step4 1 : Nat) : Int), .int .u32 ((step4 2 : Nat) : Int), .int .u32 ((step4 3 : Nat) : Int), .int .u32 ((step4 4 : Nat) : Int), .int .u32 ((step4 5 : Nat) : Int), .int .u32 ((step4 6 : Nat) : Int), .int .u32 ((step4 7 : Nat) : Int), .int .u32 ((step4 8 : Nat) : Int), .int .u32 ((step4 9 : Nat) : Int), .int .u32 ((step4 10 : Nat) : Int), .int .u32 ((step4 11 : Nat) : Int), .int .u32 0, .int .u32 0, .int .u32 0, .int .u32 0]⟩ T.y_16_uint32 (0, 0)) := blk_set r10 11 _
    have f12 : Below w.heap.size w x11 := f11.trans ((fr_set x10 w.heap.size 11 (.int .u32 ((step4 11 : Nat) : Int))).toBelow (fun k hk => by have : k = w.heap.size := hk; omega) f11.size)
    clear_value x11
    refine ⟨blk_wr r11 (by decide), ?_⟩
    intro x12
    have r12 : x12.heap[w.heap.size]? = some (.cells ⟨[.int .u32 ((step4 0 : Nat) : Int), .int .u32 ((step4 1 : Nat) : Int), .int .u32 ((step4 2 : Nat) : Int), .int .u32 ((step4 3 : Nat) : Int), .int .u32 ((step4 4 : Nat) : Int), .int .u32 ((step4 5 : Nat) : Int), .int .u32 ((step4 6 : Nat) : Int), .int .u32 ((step4 7 : Nat) : Int), .int .u32 ((step4 8 : Nat) : Int), .int .u32 ((step4 9 : Nat) : Int), .int .u32 ((step4 10 : Nat) : Int), .int .u32 ((step4 11 : Nat) : Int), .int .u32 ((step4 12 : Nat) : Int), .int .u32 0, .int .u32 0, .int .u32 0]⟩ T.y_16_uint32 (0, 0)) := blk_set r11 12 _
    have f13 : Below w.heap.size w x12 := f12.trans ((fr_set x11 w.heap.size 12 (.int .u32 ((step4 12 : Nat) : Int))).toBelow (fun k hk => by have : k = w.heap.size := hk; omega) f12.size)
    clear_value x12
    refine ⟨blk_wr r12 (by decide), ?_⟩
    intro x13
    have r13 : x13.heap[w.heap.size]? = some (.cells ⟨[.int .u32 ((step4 0 : Nat) : Int), .int .u32 ((step4 1 : Nat) : Int), .int .u32 ((step4 2 : Nat) : Int), .int .u32 ((step4 3 : Nat) : Int), .int .u32 ((step4 4 : Nat) : Int), .int .u32 ((step4 5 : Nat) : Int), .int .u32 ((step4 6 : Nat) : Int), .int .u32 ((step4 7 : Nat) : Int), .int .u32 ((step4 8 : Nat) : Int), .int .u32 ((step4 9 : Nat) : Int), .int .u32 ((step4 10 : Nat) : Int), .int .u32 ((step4 11 : Nat) : Int), .int .u32 ((step4 12 : Nat) : Int), .int .u32 ((step4 13 : Nat) : Int), .int .u32 0, .int .u32 0]⟩ T.y_16_uint32 (0, 0)) := blk_set r12 13 _
    have f14 : Below w.heap.size w x13 := f13.trans ((fr_set x12 w.heap.size 13 (.int .u32 ((step4 13 : Nat) : Int))).toBelow (fun k hk => by have : k = w.heap.size := hk; omega) f13.size)
    clear_value x13
    refine ⟨blk_wr r13 (by decide), ?_⟩
    intro x14
    have r14 : x14.heap[w.heap.size]? = some (.cells ⟨[.int .u32 ((step4 0 : Nat) : Int), .int .u32 ((step4 1 : Nat) : Int), .int .u32 ((step4 2 : Nat) : Int), .int .u32 ((step4 3 : Nat) : Int), .int .u32 ((step4 4 : Nat) : Int), .int .u32 ((step4 5 : Nat) : Int), .int .u32 ((step4 6 : Nat) : Int), .int .u32 ((step4 7 : Nat) : Int), .int .u32 ((step4 8 : Nat) : Int), .int .u32 ((step4 9 : Nat) : Int), .int .u32 ((step4 10 : Nat) : Int), .int .u32 ((step4 11 : Nat) : Int), .int .u32 ((step4 12 : Nat) : Int), .int .u32 ((step4 13 : Nat) : Int), .int .u32 ((step4 14 : Nat) : Int), .int .u32 0]⟩ T.y_16_uint32 (0, 0)) := blk_set r13 14 _
    have f15 : Below w.heap.size w x14 := f14.trans ((fr_set x13 w.heap.size 14 (.int .u32 ((step4 14 : Nat) : Int))).toBelow (fun k hk => by have : k = w.heap.size := hk; omega) f14.size)
    clear_value x14
    refine ⟨blk_wr r14 (by decide), ?_⟩
    intro x15
    have r15 : x15.heap[w.heap.size]? = some (.cells ⟨[.int .u32 ((step4 0 : Nat) : Int), .int .u32 ((step4 1 : Nat) : Int), .int .u32 ((step4 2 : Nat) : Int), .int .u32 ((step4 3 : Nat) : Int), .int .u32 ((step4 4 : Nat) : Int), .int .u32 ((step4 5 : Nat) : Int), .int .u32 ((step4 6 : Nat) : Int), .int .u32 ((step4 7 : Nat) : Int), .int .u32 ((step4 8 : Nat) : Int), .int .u32 ((step4 9 : Nat) : Int), .int .u32 ((step4 10 : Nat) : Int), .int .u32 ((step4 11 : Nat) : Int), .int .u32 ((step4 12 : Nat) : Int), .int .u32 ((step4 13 : Nat) : Int), .int .u32 ((step4 14 : Nat) : Int), .int .u32 ((step4 15 : Nat) : Int)]⟩ T.y_16_uint32 (0, 0)) := blk_set r14 15 _
    have f16 : Below w.heap.size w x15 := f15.trans ((fr_set x14 w.heap.size 15 (.int .u32 ((step4 15 : Nat) : Int))).toBelow (fun k hk => by have : k = w.heap.size := hk; omega) f15.size)
    clear_value x15
    exact ⟨_, by rw [blk_cell0 r15]; rfl, _, by rw [blk_cell r15]; rfl, _, by rw [blk_cell r15]; rfl, _, by rw [blk_cell r15]; rfl, _, by rw [blk_cell r15]; rfl, _, by rw [blk_cell r15]; rfl, _, by rw [blk_cell r15]; rfl, _, by rw [blk_cell r15]; rfl, _, by rw [blk_cell r15]; rfl, _, by rw [blk_cell r15]; rfl, _, by rw [blk_cell r15]; rfl, _, by rw [blk_cell r15]; rfl, _, by rw [blk_cell r15]; rfl, _, by rw [blk_cell r15]; rfl, _, by rw [blk_cell r15]; rfl, _, by rw [blk_cell r15]; rfl, hR _ f16⟩

/-- one byte more -/
theorem crcB_eq (x : Nat) (b : UInt8) : crcB x b = ((((x ^^^ b.toNat) / 16) ^^^ step4 ((x ^^^ b.toNat) % 16)) / 16) ^^^ step4 ((((x ^^^ b.toNat) / 16) ^^^ step4 ((x ^^^ b.toNat) % 16)) % 16) := by
  unfold crcB
  rw [← step4_split (x ^^^ b.toNat), ← step4_split]

theorem and15 (x : Nat) (h : x < 4294967296) : bits .and .u32 (x : Int) 15 = ((x % 16 : Nat) : Int) := by
  have e := u32_and_nat x 15 h (by decide)
  have e1 : ((15 : Nat) : Int) = 15 := rfl
  rw [e1] at e
  rw [e]
  have : x &&& 15 = x % 2 ^ 4 := Nat.and_two_pow_sub_one_eq_mod x 4
  rw [this]

set_option maxRecDepth 20000 in
theorem Of_spec {w : World} {h : Nat} {s : List UInt8} (hh : w.heap[h]? = some (.cells ⟨[.string (tx s)]⟩ T.y_string (0, 0))) (hs : s.length ≤ 1099511627776) {R : Int → World → Prop} (hR : ∀ w', Below w.heap.size w w' → R ((crcL s : Nat) : Int) w') : F.crc_Of ⟨some (blk h), 1, 1⟩ w R := by
  apply E.crc_Of
  unfold V.crc_Of
  refine half_spec fun w0 hB0 => ?_
  intro w1
  have hb : Below w.heap.size w w1 := hB0.trans ((below_fr (Fr.alloc no w0 _)).mono hB0.size)
  have hr : w1.heap[w0.heap.size]? = some (.cells ⟨[.int .u32 0, .int .u32 0, .int .u32 0, .int .u32 0, .int .u32 0, .int .u32 0, .int .u32 0, .int .u32 0, .int .u32 0, .int .u32 0, .int .u32 0, .int .u32 0, .int .u32 0, .int .u32 0, .int .u32 0, .int .u32 0]⟩ T.y_16_uint32 (0, 0)) := heap_new w0 _
  have s0 := hB0.size
  clear_value w1
  have f0 : Below w.heap.size w w1 := hb
  refine ⟨blk_wr0 hr (by decide), ?_⟩
  intro x0
  have r0 : x0.heap[w0.heap.size]? = some (.cells ⟨[.int .u32 ((step4 0 : Nat) : Int), .int .u32 0, .int .u32 0, .int .u32 0, .int .u32 0, .int .u32 0, .int .u32 0, .int .u32 0, .int .u32 0, .int .u32 0, .int .u32 0, .int .u32 0, .int .u32 0, .int .u32 0, .int .u32 0, .int .u32 0]⟩ T.y_16_uint32 (0, 0)) := blk_set0 hr _
  have f1 : Below w.heap.size w x0 := f0.trans ((fr_set0 w1 w0.heap.size (.int .u32 ((step4 0 : Nat) : Int))).toBelow (fun k hk => by have : k = w0.heap.size := hk; omega) f0.size)
  clear_value x0
  refine ⟨blk_wr r0 (by decide), ?_⟩
  intro x1
  have r1 : x1.heap[w0.heap.size]? = some (.cells ⟨[.int .u32 ((step4 0 : Nat) : Int), .int .u32 ((step4 1 : Nat) : Int), .int .u32 0, .int .u32 0, .int .u32 0, .int .u32 0, .int .u32 0, .int .u32 0, .int .u32 0, .int .u32 0, .int .u32 0, .int .u32 0, .int .u32 0, .int .u32 0, .int .u32 0, .int .u32 0]⟩ T.y_16_uint32 (0, 0)) := blk_set r0 1 _
  have f2 : Below w.heap.size w x1 := f1.trans ((fr_set x0 w0.heap.size 1 (.int .u32 ((step4 1 : Nat) : Int))).toBelow (fun k hk => by have : k = w0.heap.size := hk; omega) f1.size)
  clear_value x1
  refine ⟨blk_wr r1 (by decide), ?_⟩
  intro x2
  have r2 : x2.heap[w0.heap.size]? = some (.cells ⟨[.int .u32 ((step4 0 : Nat) : Int), .int .u32 ((step4 1 : Nat) : Int), .int .u32 ((step4 2 : Nat) : Int), .int .u32 0, .int .u32 0, .int .u32 0, .int .u32 0, .int .u32 0, .int .u32 0, .int .u32 0, .int .u32 0, .int .u32 0, .int .u32 0, .int .u32 0, .int .u32 0, .int .u32 0]⟩ T.y_16_uint32 (0, 0)) := blk_set r1 2 _
  have f3 : Below w.heap.size w x2 := f2.trans ((fr_set x1 w0.heap.size 2 (.int .u32 ((step4 2 : Nat) : Int))).toBelow (fun k hk => by have : k = w0.heap.size := hk; omega) f2.size)
  clear_value x2
  refine ⟨blk_wr r2 (by decide), ?_⟩
  intro x3
  have r3 : x3.heap[w0.heap.size]? = some (.cells ⟨[.int .u32 ((step4 0 : Nat) : Int), .int .u32 ((step4 1 : Nat) : Int), .int .u32 ((step4 2 : Nat) : Int), .int .u32 ((step4 3 : Nat) : Int), .int .u32 0, .int .u32 0, .int .u32 0, .int .u32 0, .int .u32 0, .int .u32 0, .int .u32 0, .int .u32 0, .int .u32 0, .int .u32 0, .int .u32 0, .int .u32 0]⟩ T.y_16_uint32 (0, 0)) := blk_set r2 3 _
  have f4 : Below w.heap.size w x3 := f3.trans ((fr_set x2 w0.heap.size 3 (.int .u32 ((step4 3 : Nat) : Int))).toBelow (fun k hk => by have : k = w0.heap.size := hk; omega) f3.size)
  clear_value x3
  refine ⟨blk_wr r3 (by decide), ?_⟩
  intro x4
  have r4 : x4.heap[w0.heap.size]? = some (.cells ⟨[.int .u32 ((step4 0 : Nat) : Int), .int .u32 ((step4 1 : Nat) : Int), .int .u32 ((step4 2 : Nat) : Int), .int .u32 ((step4 3 : Nat) : Int), .int .u32 ((step4 4 : Nat) : Int), .int .u32 0, .int .u32 0, .int .u32 0, .int .u32 0, .int .u32 0, .int .u32 0, .int .u32 0, .int .u32 0, .int .u32 0, .int .u32 0, .int .u32 0]⟩ T.y_16_uint32 (0, 0)) := blk_set r3 4 _
  have f5 : Below w.heap.size w x4 := f4.trans ((fr_set x3 w0.heap.size 4 (.int .u32 ((step4 4 : Nat) : Int))).toBelow (fun k hk => by have : k = w0.heap.size := hk; omega) f4.size)
  clear_value x4
  refine ⟨blk_wr r4 (by decide), ?_⟩
  intro x5
  have r5 : x5.heap[w0.heap.size]? = some (.cells ⟨[.int .u32 ((step4 0 : Nat) : Int), .int .u32 ((step4 1 : Nat) : Int), .int .u32 ((step4 2 : Nat) : Int), .int .u32 ((step4 3 : Nat) : Int), .int .u32 ((step4 4 : Nat) : Int), .int .u32 ((step4 5 : Nat) : Int), .int .u32 0, .int .u32 0, .int .u32 0, .int .u32 0, .int .u32 0, .int .u32 0, .int .u32 0, .int .u32 0, .int .u32 0, .int .u32 0]⟩ T.y_16_uint32 (0, 0)) := blk_set r4 5 _
  have f6 : Below w.heap.size w x5 := f5.trans ((fr_set x4 w0.heap.size 5 (.int .u32 ((step4 5 : Nat) : Int))).toBelow (fun k hk => by have : k = w0.heap.size := hk; omega) f5.size)
  clear_value x5
  refine ⟨blk_wr r5 (by decide), ?_⟩
  intro x6
  have r6 : x6.heap[w0.heap.size]? = some (.cells ⟨[.int .u32 ((step4 0 : Nat) : Int), .int .u32 ((step4 1 : Nat) : Int), .int .u32 ((step4 2 : Nat) : Int), .int .u32 ((step4 3 : Nat) : Int), .int .u32 ((step4 4 : Nat) : Int), .int .u32 ((step4 5 : Nat) : Int), .int .u32 ((step4 6 : Nat) : Int), .int .u32 0, .int .u32 0, .int .u32 0, .int .u32 0, .int .u32 0, .int .u32 0, .int .u32 0, .int .u32 0, .int .u32 0]⟩ T.y_16_uint32 (0, 0)) := blk_set r5 6 _
  have f7 : Below w.heap.size w x6 := f6.trans ((fr_set x5 w0.heap.size 6 (.int .u32 ((step4 6 : Nat) : Int))).toBelow (fun k hk => by have : k = w0.heap.size := hk; omega) f6.size)
  clear_value x6
  refine ⟨blk_wr r6 (by decide), ?_⟩
  intro x7
  have r7 : x7.heap[w0.heap.size]? = some (.cells ⟨[.int .u32 ((step4 0 : Nat) : Int), .int .u32 ((step4 1 : Nat) : Int), .int .u32 ((step4 2 : Nat) : Int), .int .u32 ((step4 3 : Nat) : Int), .int .u32 ((step4 4 : Nat) : Int), .int .u32 ((step4 5 : Nat) : Int), .int .u32 ((step4 6 : Nat) : Int), .int .u32 ((step4 7 : Nat) : Int), .int .u32 0, .int .u32 0, .int .u32 0, .int .u32 0, .int .u32 0, .int .u32 0, .int .u32 0, .int .u32 0]⟩ T.y_16_uint32 (0, 0)) := blk_set r6 7 _
  have f8 : Below w.heap.size w x7 := f7.trans ((fr_set x6 w0.heap.size 7 (.int .u32 ((step4 7 : Nat) : Int))).toBelow (fun k hk => by have : k = w0.heap.size := hk; omega) f7.size)
  clear_value x7
  refine ⟨blk_wr r7 (by decide), ?_⟩
  intro x8
  have r8 : x8.heap[w0.heap.size]? = some (.cells ⟨[.int .u32 ((step4 0 : Nat) : Int), .int .u32 ((step4 1 : Nat) : Int), .int .u32 ((step4 2 : Nat) : Int), .int .u32 ((step4 3 : Nat) : Int), .int .u32 ((step4 4 : Nat) : Int), .int .u32 ((step4 5 : Nat) : Int), .int .u32 ((step4 6 : Nat) : Int), .int .u32 ((step4 7 : Nat) : Int), .int .u32 ((step4 8 : Nat) : Int), .int .u32 0, .int .u32 0, .int .u32 0, .int .u32 0, .int .u32 0, .int .u32 0, .int .u32 0]⟩ T.y_16_uint32 (0, 0)) := blk_set r7 8 _
  have f9 : Below w.heap.size w x8 := f8.trans ((fr_set x7 w0.heap.size 8 (.int .u32 ((step4 8 : Nat) : Int))).toBelow (fun k hk => by have : k = w0.heap.size := hk; omega) f8.size)
  clear_value x8
  refine ⟨blk_wr r8 (by decide), ?_⟩
  intro x9
  have r9 : x9.heap[w0.heap.size]? = some (.cells ⟨[.int .u32 ((step4 0 : Nat) : Int), .int .u32 ((step4 1 : Nat) : Int), .int .u32 ((step4 2 : Nat) : Int), .int .u32 ((step4 3 : Nat) : Int), .int .u32 ((step4 4 : Nat) : Int), .int .u32 ((step4 5 : Nat) : Int), .int .u32 ((step4 6 : Nat) : Int), .int .u32 ((step4 7 : Nat) : Int), .int .u32 ((step4 8 : Nat) : Int), .int .u32 ((step4 9 : Nat) : Int), .int .u32 0, .int .u32 0, .int .u32 0, .int .u32 0, .int .u32 0, .int .u32 0]⟩ T.y_16_uint32 (0, 0)) := blk_set r8 9 _
  have f10 : Below w.heap.size w x9 := f9.trans ((fr_set x8 w0.heap.size 9 (.int .u32 ((step4 9 : Nat) : Int))).toBelow (fun k hk => by have : k = w0.heap.size := hk; omega) f9.size)
  clear_value x9
  refine ⟨blk_wr r9 (by decide), ?_⟩
  intro x10
  have r10 : x10.heap[w0.heap.size]? = some (.cells ⟨[.int .u32 ((step4 0 : Nat) : Int), .int .u32 ((step4 1 : Nat) : Int), .int .u32 ((step4 2 : Nat) : Int), .int .u32 ((step4 3 : Nat) : Int), .int .u32 ((step4 4 : Nat) : Int), .int .u32 ((step4 5 : Nat) : Int), .int .u32 ((step4 6 : Nat) : Int), .int .u32 ((step4 7 : Nat) : Int), .int .u32 ((step4 8 : Nat) : Int), .int .u32 ((step4 9 : Nat) : Int), .int .u32 ((step4 10 : Nat) : Int), .int .u32 0, .int .u32 0, .int .u32 0, .int .u32 0, .int .u32 0]⟩ T.y_16_uint32 (0, 0)) := blk_set r9 10 _
  have f11 : Below w.heap.size w x10 := f10.trans ((fr_set x9 w0.heap.size 10 (.int .u32 ((step4 10 : Nat) : Int))).toBelow (fun k hk => by have : k = w0.heap.size := hk; omega) f10.size)
  clear_value x10
  refine ⟨blk_wr r10 (by decide), ?_⟩
  intro x11
  have r11 : x11.heap[w0.heap.size]? = some (.cells ⟨[.int .u32 ((step4 0 : Nat) : Int), .int .u32 ((step4 1 : Nat) : Int), .int .u32 ((step4 2 : Nat) : Int), .int .u32 ((step4 3 : Nat) : Int), .int .u32 ((step4 4 : Nat) : Int), .int .u32 ((step4 5 : Nat) : Int), .int .u32 ((step4 6 : Nat) : Int), .int .u32 ((step4 7 : Nat) : Int), .int .u32 ((step4 8 : Nat) : Int), .int .u32 ((step4 9 : Nat) : Int), .int .u32 ((step4 10 : Nat) : Int), .int .u32 ((step4 11 : Nat) : Int), .int .u32 0, .int .u32 0, .int .u32 0, .int .u32 0]⟩ T.y_16_uint32 (0, 0)) := blk_set r10 11 _
  have f12 : Below w.heap.size w x11 := f11.trans ((fr_set x10 w0.heap.size 11 (.int .u32 ((step4 11 : Nat) : Int))).toBelow (fun k hk => by have : k = w0.heap.size := hk; omega) f11.size)
  clear_value x11
  refine ⟨blk_wr r11 (by decide), ?_⟩
  intro x12
  have r12 : x12.heap[w0.heap.size]? = some (.cells ⟨[.int .u32 ((step4 0 : Nat) : Int), .int .u32 ((step4 1 : Nat) : Int), .int .u32 ((step4 2 : Nat) : Int), .int .u32 ((step4 3 : Nat) : Int), .int .u32 ((step4 4 : Nat) : Int), .int .u32 ((step4 5 : Nat) : Int), .int .u32 ((step4 6 : Nat) : Int), .int .u32 ((step4 7 : Nat) : Int), .int .u32 ((step4 8 : Nat) : Int), .int .u32 ((step4 9 : Nat) : Int), .int .u32 ((step4 10 : Nat) : Int), .int .u32 ((step4 11 : Nat) : Int), .int .u32 ((step4 12 : Nat) : Int), .int .u32 0, .int .u32 0, .int .u32 0]⟩ T.y_16_uint32 (0, 0)) := blk_set r11 12 _
  have f13 : Below w.heap.size w x12 := f12.trans ((fr_set x11 w0.heap.size 12 (.int .u32 ((step4 12 : Nat) : Int))).toBelow (fun k hk => by have : k = w0.heap.size := hk; omega) f12.size)
  clear_value x12
  refine ⟨blk_wr r12 (by decide), ?_⟩
  intro x13
  have r13 : x13.heap[w0.heap.size]? = some (.cells ⟨[.int .u32 ((step4 0 : Nat) : Int), .int .u32 ((step4 1 : Nat) : Int), .int .u32 ((step4 2 : Nat) : Int), .int .u32 ((step4 3 : Nat) : Int), .int .u32 ((step4 4 : Nat) : Int), .int .u32 ((step4 5 : Nat) : Int), .int .u32 ((step4 6 : Nat) : Int), .int .u32 ((step4 7 : Nat) : Int), .int .u32 ((step4 8 : Nat) : Int), .int .u32 ((step4 9 : Nat) : Int), .int .u32 ((step4 10 : Nat) : Int), .int .u32 ((step4 11 : Nat) : Int), .int .u32 ((step4 12 : Nat) : Int), .int .u32 ((step4 13 : Nat) : Int), .int .u32 0, .int .u32 0]⟩ T.y_16_uint32 (0, 0)) := blk_set r12 13 _
  have f14 : Below w.heap.size w x13 := f13.trans ((fr_set x12 w0.heap.size 13 (.int .u32 ((step4 13 : Nat) : Int))).toBelow (fun k hk => by have : k = w0.heap.size := hk; omega) f13.size)
  clear_value x13
  refine ⟨blk_wr r13 (by decide), ?_⟩
  intro x14
  have r14 : x14.heap[w0.heap.size]? = some (.cells ⟨[.int .u32 ((step4 0 : Nat) : Int), .int .u32 ((step4 1 : Nat) : Int), .int .u32 ((step4 2 : Nat) : Int), .int .u32 ((step4 3 : Nat) : Int), .int .u32 ((step4 4 : Nat) : Int), .int .u32 ((step4 5 : Nat) : Int), .int .u32 ((step4 6 : Nat) : Int), .int .u32 ((step4 7 : Nat) : Int), .int .u32 ((step4 8 : Nat) : Int), .int .u32 ((step4 9 : Nat) : Int), .int .u32 ((step4 10 : Nat) : Int), .int .u32 ((step4 11 : Nat) : Int), .int .u32 ((step4 12 : Nat) : Int), .int .u32 ((step4 13 : Nat) : Int), .int .u32 ((step4 14 : Nat) : Int), .int .u32 0]⟩ T.y_16_uint32 (0, 0)) := blk_set r13 14 _
  have f15 : Below w.heap.size w x14 := f14.trans ((fr_set x13 w0.heap.size 14 (.int .u32 ((step4 14 : Nat) : Int))).toBelow (fun k hk => by have : k = w0.heap.size := hk; omega) f14.size)
  clear_value x14
  refine ⟨blk_wr r14 (by decide), ?_⟩
  intro x15
  have r15 : x15.heap[w0.heap.size]? = some (.cells ⟨[.int .u32 ((step4 0 : Nat) : Int), .int .u32 ((step4 1 : Nat) : Int), .int .u32 ((step4 2 : Nat) : Int), .int .u32 ((step4 3 : Nat) : Int), .int .u32 ((step4 4 : Nat) : Int), .int .u32 ((step4 5 : Nat) : Int), .int .u32 ((step4 6 : Nat) : Int), .int .u32 ((step4 7 : Nat) : Int), .int .u32 ((step4 8 : Nat) : Int), .int .u32 ((step4 9 : Nat) : Int), .int .u32 ((step4 10 : Nat) : Int), .int .u32 ((step4 11 : Nat) : Int), .int .u32 ((step4 12 : Nat) : Int), .int .u32 ((step4 13 : Nat) : Int), .int .u32 ((step4 14 : Nat) : Int), .int .u32 ((step4 15 : Nat) : Int)]⟩ T.y_16_uint32 (0, 0)) := blk_set r14 15 _
  have f16 : Below w.heap.size w x15 := f15.trans ((fr_set x14 w0.heap.size 15 (.int .u32 ((step4 15 : Nat) : Int))).toBelow (fun k hk => by have : k = w0.heap.size := hk; omega) f15.size)
  clear_value x15
  have ht : x15.heap[w0.heap.size]? = some (.cells ⟨tabC⟩ T.y_16_uint32 (0, 0)) := r15
  clear r0 r1 r2 r3 r4 r5 r6 r7 r8 r9 r10 r11 r12 r13 r14 r15
  have ht15 := (fr_below f16).heap hh id
  refine ⟨fun x n w' => w' = x15 ∧ ((n = 0 ∧ x = 4294967295) ∨ (n = 1 ∧ x = ((s.foldl crcB 4294967295 : Nat) : Int))), fun _ n _ => (1 - n).toNat, ⟨rfl, .inl ⟨rfl, rfl⟩⟩, ?_⟩
  rintro x n w2 ⟨rfl, ⟨rfl, rfl⟩ | ⟨rfl, rfl⟩⟩
  · refine ⟨fun _ => ?_, fun hf => by simp at hf⟩
    have hc : w2.cell? ((blk h).add ((0 : Int).toNat * 1)) = some (.string (tx s)) := by have := blk_cell ht15 0; simpa using this
    refine ⟨blk h, rfl, by decide, by show (0 : Int) < 1; decide, tx s, hc, ?_⟩
    rw [tx_size]
    refine ⟨fun x n w' => w' = w2 ∧ ∃ m : Nat, n = m ∧ m ≤ s.length ∧ x = (((s.take m).foldl crcB 4294967295 : Nat) : Int), fun _ n _ => (s.length - n).toNat, ⟨rfl, 0, rfl, Nat.zero_le _, rfl⟩, ?_⟩
    rintro x n w3 ⟨rfl, m, rfl, hm, rfl⟩
    refine ⟨fun hlt => ?_, fun hge => ?_⟩
    · have hlt : m < s.length := by have := of_decide_eq_true hlt; omega
      have e1 : w64 ((m : Int) + 1) = ((m + 1 : Nat) : Int) := by rw [w64_id (by omega) (by omega)]; omega
      have hx := crcF_lt (s.take m) (x := 4294967295) (by decide)
      generalize hX : (s.take m).foldl crcB 4294967295 = X at hx
      have hbt := s[m].toNat_lt
      have ea : wr .u32 (sAt (tx s) (m : Int)) = ((s[m].toNat : Nat) : Int) := by
        rw [tx_at]
        have : s.getD m 0 = s[m] := by simp [hlt]
        rw [this]
        exact wr32_id (by omega)
      have ex : bits .xor .u32 (X : Int) (((s[m].toNat : Nat) : Int)) = ((X ^^^ s[m].toNat : Nat) : Int) := u32_xor_nat _ _ hx (by omega)
      have hy : X ^^^ s[m].toNat < 4294967296 := Nat.xor_lt_two_pow (n := 32) hx (by omega)
      generalize hY : X ^^^ s[m].toNat = Y at ex hy
      have hy1 : step4 (Y % 16) < 4294967296 := step4_lt (by omega)
      have es : shr .u32 (Y : Int) 4 = ((Y / 16 : Nat) : Int) := shr32 Y 4 (by decide)
      have ez : bits .xor .u32 ((Y / 16 : Nat) : Int) ((step4 (Y % 16) : Nat) : Int) = (((Y / 16) ^^^ step4 (Y % 16) : Nat) : Int) := u32_xor_nat _ _ (by omega) hy1
      have hz : (Y / 16) ^^^ step4 (Y % 16) < 4294967296 := Nat.xor_lt_two_pow (n := 32) (by omega) hy1
      generalize hZ : (Y / 16) ^^^ step4 (Y % 16) = Z at ez hz
      have es2 : shr .u32 (Z : Int) 4 = ((Z / 16 : Nat) : Int) := shr32 Z 4 (by decide)
      have hz1 : step4 (Z % 16) < 4294967296 := step4_lt (by omega)
      have ez2 : bits .xor .u32 ((Z / 16 : Nat) : Int) ((step4 (Z % 16) : Nat) : Int) = (((Z / 16) ^^^ step4 (Z % 16) : Nat) : Int) := u32_xor_nat _ _ (by omega) hz1
      have hcr : crcB X s[m] = (Z / 16) ^^^ step4 (Z % 16) := by rw [crcB_eq, hY, hZ]
      rw [ea, ex, and15 _ hy]
      refine ⟨by omega, by omega, by decide, by omega, by omega, ((step4 (Y % 16) : Nat) : Int), ?_, by decide, ?_⟩
      · rw [Int.toNat_natCast, Nat.mul_one, blk_cell ht, tabC_get _ (by omega)]
      rw [es, ez, and15 _ hz]
      refine ⟨by omega, by omega, ((step4 (Z % 16) : Nat) : Int), ?_, ⟨rfl, m + 1, e1, hlt, ?_⟩, ?_⟩
      · rw [Int.toNat_natCast, Nat.mul_one, blk_cell ht, tabC_get _ (by omega)]
      · rw [es2, ez2, List.take_succ_eq_append_getElem hlt, List.foldl_append, hX]
        show _ = ((crcB X s[m] : Nat) : Int)
        rw [hcr]
      · show ((s.length : Int) - w64 ((m : Int) + 1)).toNat < ((s.length : Int) - (m : Int)).toNat
        rw [e1]; omega
    · have hmm : m = s.length := by have := of_decide_eq_false hge; omega
      subst hmm
      rw [List.take_length]
      have e1 : w64 ((0 : Int) + 1) = 1 := w64_id (by decide) (by decide)
      refine ⟨⟨rfl, .inr ⟨e1, rfl⟩⟩, ?_⟩
      show ((1 : Int) - w64 (0 + 1)).toNat < ((1 : Int) - 0).toNat
      rw [e1]; decide
  · refine ⟨fun ht => by simp at ht, fun _ => ?_⟩
    have ex : bits .xor .u32 ((s.foldl crcB 4294967295 : Nat) : Int) 4294967295 = ((crcL s : Nat) : Int) := u32_xor_nat _ _ (crcF_lt s (by decide)) (by decide)
    rw [ex]
    exact hR _ f16

end Go.Proofs.YtmokmbhhnbcelaaGreatDoor

/- bits.Out.Pad, crc.Seal, crc.Open. -/
set_option linter.unusedVariables false
namespace Go.Proofs.YtmokmbhhnbcelaaGreatDoor
open Go Go.Vc Go.RowKit Go.Lib

theorem Keep.of {ivs : List (Nat × Nat)} {us : List Nat} {S : Nat → Prop} {w w' : World} (h : Fr S w w') (hk : ∀ g, inIv ivs g → g ∉ us → ¬ S g ∧ g < w.heap.size) : Keep ivs us w w' :=
  ⟨h.size, fun g hg hu => h.block g (hk g hg hu).2 (hk g hg hu).1⟩

def pad1 (n : Nat) (x : List UInt8 × Int) : List UInt8 × Int := if x.2 ≠ 0 then x else if x.1.length ≤ n then (padTo n x.1, 0) else (x.1, 2)

theorem Out_Pad {w : World} {g : Nat} {l : Sl} {bs : List UInt8} {e : Int} (hO : OutAt w g l bs e) {n : Nat} (hn : n ≤ 65536) (hb : bs.length ≤ 1000000000000) {R : Option Addr → World → Prop}
    (hR : ∀ l' w', OutAt w' g l' (pad1 n (bs, e)).1 (pad1 n (bs, e)).2 → Fr (outS g l) w w' → Moved w l l' → R (some (blk g)) w') : F.bits_Out_Pad (some (blk g)) (n : Int) w R := by
  obtain ⟨i, hi, hz, hs1, hby⟩ := info_byte
  apply E.bits_Out_Pad
  unfold V.bits_Out_Pad
  have hlen := hO.len
  refine ⟨fun h => by simp at h, fun _ => ⟨blk g, rfl, e, by rw [blk_cell hO.obj]; rfl, fun hne => ?_, fun heq => ?_⟩⟩
  · have hne : e ≠ 0 := by simpa using hne
    have e1 : pad1 n (bs, e) = (bs, e) := by simp [pad1, hne]
    rw [e1] at hR
    exact hR l w hO (Fr.refl _ _) (moved_refl _ _)
  have heq : e = 0 := by simpa using heq
  subst heq
  refine ⟨fun h => by have := of_decide_eq_true h; omega, fun _ => ⟨fun h => by have := of_decide_eq_true h; omega, fun _ => ⟨blk g, rfl, l, by rw [blk_cell0 hO.obj]; rfl, fun hlong => ?_, fun hsh => ?_⟩⟩⟩
  · have hlong : n < bs.length := by have := of_decide_eq_true hlong; omega
    have e1 : pad1 n (bs, 0) = (bs, 2) := by simp [pad1]; omega
    rw [e1] at hR
    refine ⟨blk g, rfl, blk_wr hO.obj (by simp), ?_⟩
    exact hR l _ ⟨by have := blk_set hO.obj 1 (.int .i64 2); simpa using this, hO.own.keep (fr_set w g 1 _) (fun k hk he => hO.ne (by subst he; exact hk)), hO.ne⟩ ((fr_set w g 1 _).mono (fun k _ hk => .inl hk)) (moved_refl _ _)
  have hsh : bs.length ≤ n := by have := of_decide_eq_false hsh; omega
  have e1 : pad1 n (bs, 0) = (padTo n bs, 0) := by simp [pad1, hsh]
  rw [e1] at hR
  have e2 : w64 ((n : Int) - ((l.len : Nat) : Int)) = ((n - bs.length : Nat) : Int) := by rw [w64_id (by omega) (by omega)]; omega
  intro w3
  have hO3 : OutAt w3 g l bs 0 := hO.keep (Fr.drew no w) id (fun _ _ => id)
  have hF3 : Fr no w w3 := Fr.drew no w
  clear_value w3
  refine ⟨blk g, rfl, l, by rw [blk_cell0 hO3.obj]; rfl, blk g, rfl, l, by rw [blk_cell0 hO3.obj]; rfl, ?_⟩
  rw [e2]
  refine runT_append_zeros8 und_bytes und_int und_str hi hz hs1 hby hO3.own (by omega) fun l4 w4 ho4 hl4 hf4 hm4 => ?_
  have hbv : bv bs ++ strCells (tx (List.replicate (n - bs.length) 0)) = bv (padTo n bs) := by rw [strCells_tx]; simp [bv, padTo]
  rw [hbv] at ho4
  obtain ⟨hwr, hO5, hF5⟩ := hO3.stored ho4 hf4 hm4
  refine ⟨by rw [blk_cell0 (hf4.heap hO3.obj hO3.ne)]; rfl, blk g, rfl, hwr, hR l4 _ hO5 ?_ ?_⟩
  · exact (hF3.mono (S' := outS g l) (fun _ _ h => h.elim)).trans hF5 (fun _ _ h => h)
  · rcases hm4 with h | ⟨g', h, hg'⟩
    · exact .inl h
    · exact .inr ⟨g', h, by have := hF3.size; omega⟩

/-- an Out that was made behind w0 -/
structure OutB (w0 w : World) (g : Nat) (l : Sl) (bs : List UInt8) (e : Int) : Prop where
  out : OutAt w g l bs e
  lo : w0.heap.size ≤ g
  row : ∀ k, l.bk k → w0.heap.size ≤ k
  below : Below w0.heap.size w0 w

theorem OutB.step {w0 w w' : World} {g : Nat} {l l' : Sl} {bs bs' : List UInt8} {e e' : Int} (h : OutB w0 w g l bs e) (ho : OutAt w' g l' bs' e') (hf : Fr (outS g l) w w') (hm : Moved w l l') : OutB w0 w' g l' bs' e' where
  out := ho
  lo := h.lo
  row := fun k hk => by
    rcases moved_bk hm hk with h1 | h1
    · exact h.row k h1
    · have := h.below.size; omega
  below := h.below.trans (hf.toBelow (fun k hk => by
    rcases hk with hk | hk
    · have := h.lo; omega
    · exact h.row k hk) h.below.size)

theorem OutB.no {w0 w w' : World} {g : Nat} {l : Sl} {bs : List UInt8} {e : Int} (h : OutB w0 w g l bs e) (hf : Fr no w w') : OutB w0 w' g l bs e where
  out := h.out.keep hf id (fun _ _ => id)
  lo := h.lo
  row := h.row
  below := h.below.trans ((below_fr hf).mono h.below.size)

theorem OutB.new {w0 w : World} (hB : Below w0.heap.size w0 w) {w' : World} (hF : Fr Go.Vc.no w w') {g : Nat} (hg : w.heap.size ≤ g) (h : w'.heap[g]? = some (.cells ⟨[.slice none 0 0, .int .i64 0]⟩ T.y_bits_Out (0, 0))) : OutB w0 w' g ⟨none, 0, 0⟩ [] 0 where
  out := ⟨h, Own.nil _ _ _, fun hk => bk_nil hk⟩
  lo := by have := hB.size; omega
  row := fun k hk => bk_nil hk
  below := hB.trans ((below_fr hF).mono hB.size)

/-- what is sealed -/
def sealL (n : Nat) (s : List UInt8) : List UInt8 × Int := if s.length ≤ n - 4 then (sealS n s, 0) else ([], 2)

theorem Seal_spec {n : Nat} (h4 : 4 ≤ n) (hn : n ≤ 65536) {w : World} {h : Nat} {s : List UInt8} (hh : w.heap[h]? = some (.cells ⟨[.string (tx s)]⟩ T.y_string (0, 0))) (hs : s.length ≤ 1000000000) {R : ByteArray → Int → World → Prop}
    (hR : ∀ w', Below w.heap.size w w' → R (tx (sealL n s).1) (sealL n s).2 w') : F.crc_Seal (n : Int) ⟨some (blk h), 1, 1⟩ w R := by
  apply E.crc_Seal
  unfold V.crc_Seal
  refine ⟨fun h => by have := of_decide_eq_true h; omega, fun _ => ⟨fun h => by have := of_decide_eq_true h; omega, fun _ => ?_⟩⟩
  intro w1
  have hO1 : OutB w w1 w.heap.size ⟨none, 0, 0⟩ [] 0 := OutB.new (Below.refl _ _) (Fr.alloc Go.Vc.no w _) (Nat.le_refl _) (heap_new w _)
  have hh1 := (fr_below hO1.below).heap hh id
  clear_value w1
  refine Out_Raw hO1.out hh1 (by simp) (by omega) fun l2 w2 hO2 hF2 hM2 => ?_
  have hr1 : raw1 s ([], 0) = (s, 0) := by simp [raw1]
  rw [hr1] at hO2
  have hO2 := hO1.step hO2 hF2 hM2
  have e2 : w64 ((n : Int) - 4) = ((n - 4 : Nat) : Int) := by rw [w64_id (by omega) (by omega)]; omega
  rw [e2]
  refine Out_Pad hO2.out (by omega) (by simp only; omega) fun l3 w3 hO3 hF3 hM3 => ?_
  have hO3 := hO2.step hO3 hF3 hM3
  refine Out_End hO3.out fun w4 hF4 => ?_
  have hB4 := hO3.below.trans ((below_fr hF4).mono hO3.below.size)
  by_cases hsl : s.length ≤ n - 4
  · have ep : pad1 (n - 4) (s, 0) = (padTo (n - 4) s, 0) := by simp [pad1, hsl]
    have es : sealL n s = (sealS n s, 0) := by simp [sealL, hsl]
    rw [ep]
    rw [es] at hR
    refine ⟨fun h => by simp at h, fun _ => ?_⟩
    have e0 : (if (0 : Int) ≠ 0 then ([] : List UInt8) else padTo (n - 4) s) = padTo (n - 4) s := by simp
    rw [e0]
    have hpl := padTo_len hsl
    generalize hP : padTo (n - 4) s = ps at hpl
    intro w5
    have hF5 : Fr Go.Vc.no w4 w5 := Fr.alloc Go.Vc.no w4 _
    have h5 : w5.heap[w4.heap.size]? = some (.cells ⟨[.slice none 0 0, .int .i64 0]⟩ T.y_bits_Out (0, 0)) := heap_new w4 _
    have hO5 := OutB.new hB4 hF5 (Nat.le_refl _) h5
    clear_value w5
    intro w6
    have hO6 : OutB w w6 _ _ _ _ := hO5.no (Fr.alloc Go.Vc.no w5 _)
    have h6 : w6.heap[w5.heap.size]? = some (.cells ⟨[.string (tx ps)]⟩ T.y_string (0, 0)) := heap_new w5 _
    clear_value w6
    refine Out_Raw hO6.out h6 (by simp) (by omega) fun l7 w7 hO7 hF7 hM7 => ?_
    have hr2 : raw1 ps ([], 0) = (ps, 0) := by simp [raw1]
    rw [hr2] at hO7
    have hO7 := hO6.step hO7 hF7 hM7
    intro w8
    have hO8 : OutB w w8 _ _ _ _ := hO7.no (Fr.alloc Go.Vc.no w7 _)
    have h8 : w8.heap[w7.heap.size]? = some (.cells ⟨[.string (tx ps)]⟩ T.y_string (0, 0)) := heap_new w7 _
    clear_value w8
    refine Of_spec h8 (by omega) fun w9 hB9 => ?_
    have hO9 := hO8.no (fr_below hB9)
    have hc := crcL_lt ps
    have ec : w64 ((crcL ps : Nat) : Int) = ((crcL ps : Nat) : Int) := w64_id (by omega) (by omega)
    rw [ec]
    intro w10
    have hO10 : OutB w w10 _ _ _ _ := hO9.no (Fr.alloc Go.Vc.no w9 _)
    have h10 : w10.heap[w9.heap.size]? = some (.cells ⟨[.int .i64 ((crcL ps : Nat) : Int)]⟩ T.y_int (0, 0)) := heap_new w9 _
    clear_value w10
    refine Out_Word hO10.out h10 (by omega) (by simp only; omega) fun l11 w11 hO11 hF11 hM11 => ?_
    have hfit : fitsN 4 ((crcL ps : Nat) : Int) = true := by simp [fitsN]; omega
    rw [lay1_ok hfit] at hO11
    have hO11 := hO10.step hO11 hF11 hM11
    refine Out_End hO11.out fun w12 hF12 => ?_
    have e1 : (if (0 : Int) ≠ 0 then ([] : List UInt8) else ps ++ leBytes 4 ((crcL ps : Nat) : Int)) = sealS n s := by rw [if_neg (by simp), sealS, hP]
    rw [e1]
    exact hR w12 (hO11.below.trans ((below_fr hF12).mono hO11.below.size))
  · have ep : pad1 (n - 4) (s, 0) = (s, 2) := by simp [pad1, hsl]
    have es : sealL n s = ([], 2) := by simp [sealL, hsl]
    rw [ep]
    rw [es] at hR
    exact ⟨fun _ => hR w4 hB4, fun h => by simp at h⟩

theorem In_Word {w : World} {g : Nat} {l : List UInt8} {e : Int} (hI : InAt w g l e) (hl : l.length ≤ 1099511627776) {R : Int → World → Prop}
    (hR : ∀ w', InAt w' g (lowIn 4 l e).2.1 (lowIn 4 l e).2.2 → Fr (· = g) w w' → R (lowIn 4 l e).1 w') : F.bits_In_Word (some (blk g)) w R := by
  apply E.bits_In_Word
  exact In_low hI hl (size := 4) (by decide) hR
theorem In_Byte {w : World} {g : Nat} {l : List UInt8} {e : Int} (hI : InAt w g l e) (hl : l.length ≤ 1099511627776) {R : Int → World → Prop}
    (hR : ∀ w', InAt w' g (lowIn 1 l e).2.1 (lowIn 1 l e).2.2 → Fr (· = g) w w' → R (lowIn 1 l e).1 w') : F.bits_In_Byte (some (blk g)) w R := by
  apply E.bits_In_Byte
  exact In_low hI hl (size := 1) (by decide) hR
theorem In_Half {w : World} {g : Nat} {l : List UInt8} {e : Int} (hI : InAt w g l e) (hl : l.length ≤ 1099511627776) {R : Int → World → Prop}
    (hR : ∀ w', InAt w' g (lowIn 2 l e).2.1 (lowIn 2 l e).2.2 → Fr (· = g) w w' → R (lowIn 2 l e).1 w') : F.bits_In_Half (some (blk g)) w R := by
  apply E.bits_In_Half
  exact In_low hI hl (size := 2) (by decide) hR
theorem In_Long {w : World} {g : Nat} {l : List UInt8} {e : Int} (hI : InAt w g l e) (hl : l.length ≤ 1099511627776) {R : Int → World → Prop}
    (hR : ∀ w', InAt w' g (lowIn 8 l e).2.1 (lowIn 8 l e).2.2 → Fr (· = g) w w' → R (lowIn 8 l e).1 w') : F.bits_In_Long (some (blk g)) w R := by
  apply E.bits_In_Long
  exact In_low hI hl (size := 8) (by decide) hR

theorem lowIn_all {l : List UInt8} (h : l.length = 4) : (lowIn 4 l 0).1 = ((leVal l : Nat) : Int) := by
  have hr : rawIn 4 l 0 = (l, [], 0) := by
    unfold rawIn
    rw [if_neg (by simp), if_neg (by decide), if_neg (by omega)]
    have e : ((4 : Int)).toNat = 4 := rfl
    rw [e, List.take_of_length_le (by omega), List.drop_of_length_le (by omega)]
  have hlt := leVal_lt l
  rw [h] at hlt
  have h2 : (256 : Nat) ^ 4 = 4294967296 := by decide
  unfold lowIn
  have hr' : rawIn ((4 : Nat) : Int) l 0 = (l, [], 0) := hr
  rw [hr']
  simp only
  rw [if_pos (by omega)]

theorem Open_spec {w : World} {b : List UInt8} (hb : b.length ≤ 1000000000) {R : ByteArray → Int → World → Prop} (hR : ∀ w', Below w.heap.size w w' → R (tx (openB b).1) (openB b).2 w') : F.crc_Open (tx b) w R := by
  apply E.crc_Open
  unfold V.crc_Open
  rw [tx_size]
  have e1 : w64 ((b.length : Int) - 4) = (b.length : Int) - 4 := w64_id (by omega) (by omega)
  rw [e1]
  refine ⟨fun h => ?_, fun h => ?_⟩
  · have h := of_decide_eq_true h
    have : openB b = ([], 5) := by unfold openB; rw [if_pos (by omega)]
    rw [this] at hR
    exact hR w (Below.refl _ _)
  have h := of_decide_eq_false h
  have e2 : ((b.length : Int) - 4).toNat = b.length - 4 := by omega
  rw [e2]
  intro w1
  have hB1 : Below w.heap.size w w1 := (Below.refl _ _).drew
  clear_value w1
  refine ⟨by omega, by omega, by omega, by omega, fun w2 hB2 => ?_⟩
  have hx1 : (tx b).extract (b.length - 4) b.length = tx (b.drop (b.length - 4)) := by rw [tx_ext, List.take_of_length_le (by simp)]
  have hx2 : (tx b).extract 0 (b.length - 4) = tx (b.take (b.length - 4)) := by rw [tx_ext]; simp
  rw [hx1, hx2]
  refine On_spec fun w3 hI3 hF3 hlt3 => ⟨Keep.of hF3 (fun g hg _ => ⟨id, by simp only [inIv, or_false] at hg; omega⟩), fun w4 hB4 => ?_⟩
  have hI4 := hI3.keep (fr_below hB4) id
  have s2 := hB2.size
  have s3 := hF3.size
  have s4 := hB4.size
  have s1 := hB1.size
  have hg3 := heap_lt hI3.obj
  refine In_Word hI4 (by simp; omega) fun w5 hI5 hF5 => ⟨Keep.of hF5 (fun g hg _ => ⟨fun he => by simp only [inIv, or_false] at hg; omega, by simp only [inIv, or_false] at hg; omega⟩), fun w6 g hB6 _ _ hgo w7 hB7 => ?_⟩
  rw [lowIn_all (by simp; omega)]
  have hgo7 := (fr_below hB7).heap hgo id
  refine Of_spec hgo7 (by simp; omega) fun w8 hB8 => ?_
  have s5 := hF5.size
  have s6 := hB6.size
  have s7 := hB7.size
  refine ⟨Keep.of (fr_below hB8) (fun g hg _ => ⟨id, by simp only [inIv, or_false] at hg; omega⟩), fun w9 hB9 => ?_⟩
  have hBall : Below w.heap.size w w9 := by
    have a1 := hB1.trans (hB2.mono s1)
    have a2 := a1.trans ((below_fr hF3).mono a1.size)
    have a3 := a2.trans (hB4.mono a2.size)
    have a4 := a3.trans (hF5.toBelow (B := w.heap.size) (fun k hk => by have : k = w2.heap.size := hk; omega) a3.size)
    have a5 := a4.trans (hB6.mono a4.size)
    have a6 := a5.trans (hB7.mono a5.size)
    have a7 := a6.trans (hB8.mono a6.size)
    exact a7.trans (hB9.mono a7.size)
  have hc := crcL_lt (b.take (b.length - 4))
  have ec : w64 ((crcL (b.take (b.length - 4)) : Nat) : Int) = ((crcL (b.take (b.length - 4)) : Nat) : Int) := w64_id (by omega) (by omega)
  rw [ec]
  have eo : openB b = if leVal (b.drop (b.length - 4)) = crcL (b.take (b.length - 4)) then (b.take (b.length - 4), 0) else ([], 7) := by
    unfold openB; rw [if_neg (by omega)]
  refine ⟨fun hne => ?_, fun heq => ?_⟩
  · have hne : leVal (b.drop (b.length - 4)) ≠ crcL (b.take (b.length - 4)) := fun hh => by rw [hh] at hne; simp at hne
    rw [eo, if_neg hne] at hR
    exact hR w9 hBall
  · have heq : leVal (b.drop (b.length - 4)) = crcL (b.take (b.length - 4)) := by
      have h : ((leVal (b.drop (b.length - 4)) : Nat) : Int) = ((crcL (b.take (b.length - 4)) : Nat) : Int) := by simpa using heq
      omega
    rw [eo, if_pos heq] at hR
    exact ⟨by omega, by omega, hR w9 hBall⟩

end Go.Proofs.YtmokmbhhnbcelaaGreatDoor
