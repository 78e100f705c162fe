/- crc.half and crc.Of: the table of four shifts, the sum of a text. -/
import Derived.Test.YtggachhkcmfijaaGreatDoorOu
import Derived.Test.YtggachhkcmfijaaGreatDoorHn
import Derived.Laws.BitsAllLaws
set_option linter.unusedVariables false
namespace Go.Proofs.YtggachhkcmfijaaGreatDoor
open Go Go.Vc Go.RowKit Go.Lib
def stepn : Nat → Nat → Nat
 | 0, x => x
 | c + 1, x => step (stepn c x)
theorem stepn_lt : ∀ (c : Nat) {x : Nat}, x < 4294967296 → stepn c x < 4294967296
 | 0, _, h => h
 | c + 1, _, h => step_lt (stepn_lt c h)
/-- the table, of which the first m places are filled -/
def tabTo (m : Nat) : List Value := (List.range 16).map fun i => .int .u32 (((if i < m then step4 i else 0 : Nat)) : Int)
def tabC : List Value := (List.range 16).map fun i => .int .u32 ((step4 i : Nat) : Int)
theorem tabTo_get (m j : Nat) (hj : j < 16) : (tabTo m)[j]? = some (.int .u32 (((if j < m then step4 j else 0 : Nat)) : Int)) := by
 simp [tabTo, hj]
theorem tabC_get (j : Nat) (hj : j < 16) : tabC[j]? = some (.int .u32 ((step4 j : Nat) : Int)) := by simp [tabC, hj]
theorem tabTo_set (m : Nat) (hm : m < 16) : (tabTo m).set m (.int .u32 ((step4 m : Nat) : Int)) = tabTo (m + 1) := by
 apply List.ext_getElem?
 intro j
 by_cases hj : j < 16
 · by_cases h : m = j
   · subst h
     rw [List.getElem?_set, if_pos rfl, if_pos (by simp [tabTo]; exact hm), tabTo_get _ _ hj, if_pos (by omega)]
   · rw [List.getElem?_set, if_neg h, tabTo_get _ _ hj, tabTo_get _ _ hj]
     have : (j < m) ↔ (j < m + 1) := by omega
     simp [this]
 · rw [List.getElem?_eq_none (by simp [tabTo]; omega), List.getElem?_eq_none (by simp [tabTo]; omega)]
theorem tabTo_all : tabTo 16 = tabC := by
 apply List.ext_getElem?
 intro j
 by_cases hj : j < 16
 · rw [tabTo_get _ _ hj, tabC_get _ hj, if_pos hj]
 · rw [List.getElem?_eq_none (by simp [tabTo]; omega), List.getElem?_eq_none (by simp [tabC]; omega)]
theorem wr32_id {x : Nat} (h : x < 4294967296) : wr .u32 (x : Int) = (x : Int) := by
 have e : wr .u32 (x : Int) = (x : Int) % 4294967296 := by simp [wr, IntKind.wrap, IntKind.bits, IntKind.signed]
 rw [e]; omega
theorem shr32 (x k : Nat) (hk : k ≤ 32) : shr .u32 (x : Int) (k : Int) = ((x / 2 ^ k : Nat) : Int) := by
 unfold shr
 have e : (min (k : Int).toNat (IntKind.bits .u32)) = k := by
   show min (k : Int).toNat 32 = k
   omega
 rw [e]
 have e2 : ((2 : Int) ^ k) = ((2 ^ k : Nat) : Int) := by rw [Int.natCast_pow]; rfl
 rw [e2, Int.fdiv_eq_ediv_of_nonneg _ (Int.natCast_nonneg _)]
 rfl
theorem and1 (x : Nat) (h : x < 4294967296) : (bits .and .u32 (x : Int) 1 == 1) = decide (x % 2 = 1) := by
 have e := u32_and_nat x 1 h (by decide)
 have e1 : ((1 : Nat) : Int) = 1 := rfl
 rw [e1] at e
 rw [e, Nat.and_one_is_mod]
 rw [Bool.eq_iff_iff]
 simp
 omega
set_option maxRecDepth 20000 in
theorem half_spec {w : World} {R : Int → Int → Int → Int → Int → Int → Int → Int → Int → Int → Int → Int → Int → Int → Int → Int → World → Prop}
   (hR : ∀ w', Below w.heap.size w w' → R ((step4 0 : Nat) : Int) ((step4 1 : Nat) : Int) ((step4 2 : Nat) : Int) ((step4 3 : Nat) : Int) ((step4 4 : Nat) : Int) ((step4 5 : Nat) : Int) ((step4 6 : Nat) : Int) ((step4 7 : Nat) : Int) ((step4 8 : Nat) : Int) ((step4 9 : Nat) : Int) ((step4 10 : Nat) : Int) ((step4 11 : Nat) : Int) ((step4 12 : Nat) : Int) ((step4 13 : Nat) : Int) ((step4 14 : Nat) : Int) ((step4 15 : Nat) : Int) w') : F.crc_half w R := by
 apply E.crc_half
 unfold V.crc_half
 try simp -zeta only [ldC, soC, brC, bkA, slC, stC, alC, drC]
 intro w0 w1
 have h0 : w1.heap[w.heap.size]? = some (.cells ⟨tabTo 0⟩ T.y_16_uint32 (0, 0)) := (Fr.alloc no w0 _).heap (heap_new w _) id
 have h1 : w1.heap[w0.heap.size]? = some (.cells ⟨tabTo 0⟩ T.y_16_uint32 (0, 0)) := heap_new w0 _
 have hs0 : w0.heap.size = w.heap.size + 1 := by simp [w0]
 have hB : Below w.heap.size w w1 := (below_fr (Fr.alloc no w _)).trans ((below_fr (Fr.alloc no w0 _)).mono (by omega))
 clear_value w1
 refine ⟨fun n w' => ∃ m : Nat, n = m ∧ m ≤ 16 ∧ w'.heap[w0.heap.size]? = some (.cells ⟨tabTo m⟩ T.y_16_uint32 (0, 0)) ∧ w'.heap[w.heap.size]? = some (.cells ⟨tabTo 0⟩ T.y_16_uint32 (0, 0)) ∧ Below w.heap.size w w', fun n _ => (16 - n).toNat,
   ⟨0, rfl, Nat.zero_le _, h1, h0, hB⟩, ?_⟩
 rintro n w2 ⟨m, rfl, hm, ho, hr, hB2⟩
 refine ⟨fun hlt => ?_, fun hge => ?_⟩
 · have hlt : m < 16 := by have := of_decide_eq_true hlt; omega
   rw [wr32_id (by omega)]
   refine ⟨fun x c w' => ∃ k : Nat, c = k ∧ k ≤ 4 ∧ x = ((stepn k m : Nat) : Int) ∧ w' = w2, fun _ c _ => (4 - c).toNat, ⟨0, rfl, Nat.zero_le _, rfl, rfl⟩, ?_⟩
   rintro x c w3 ⟨k, rfl, hk, rfl, rfl⟩
   have hx := stepn_lt k (show m < 4294967296 by omega)
   refine ⟨fun hlt2 => ⟨by decide, ?_⟩, fun hge2 => ?_⟩
   · have hlt2 : k < 4 := by have := of_decide_eq_true hlt2; omega
     have e1 : w64 ((k : Int) + 1) = ((k + 1 : Nat) : Int) := by rw [w64_id (by omega) (by omega)]; omega
     have hmeas : ((4 : Int) - w64 ((k : Int) + 1)).toNat < ((4 : Int) - (k : Int)).toNat := by rw [e1]; omega
     have es : shr .u32 ((stepn k m : Nat) : Int) 1 = ((stepn k m / 2 : Nat) : Int) := by
       have := shr32 (stepn k m) 1 (by decide)
       simpa using this
     rw [and1 _ hx, es]
     refine ⟨fun ho => ⟨⟨k + 1, e1, hlt2, ?_, rfl⟩, hmeas⟩, fun he => ⟨⟨k + 1, e1, hlt2, ?_, rfl⟩, hmeas⟩⟩
     · have ho := of_decide_eq_true ho
       have e2 : stepn (k + 1) m = (stepn k m / 2) ^^^ 3988292384 := by simp [stepn, step, ho]
       rw [e2]
       exact u32_xor_nat _ _ (by omega) (by decide)
     · have he := of_decide_eq_false he
       have e2 : stepn (k + 1) m = stepn k m / 2 := by simp [stepn, step, he]
       rw [e2]
   · have hk4 : k = 4 := by have := of_decide_eq_false hge2; omega
     subst hk4
     have e1 : w64 ((m : Int) + 1) = ((m + 1 : Nat) : Int) := by rw [w64_id (by omega) (by omega)]; omega
     have e4 : stepn 4 m = step4 m := rfl
     rw [e4, Nat.mul_one, Int.toNat_natCast]
     refine ⟨by omega, by omega, blk_wr ho (by simp [tabTo]; omega), ?_⟩
     intro w4
     have h4 : w4.heap[w0.heap.size]? = some (.cells ⟨tabTo (m + 1)⟩ T.y_16_uint32 (0, 0)) := by
       have := blk_set ho m (.int .u32 ((step4 m : Nat) : Int))
       rw [tabTo_set m hlt] at this
       exact this
     have hF4 : Fr (· = w0.heap.size) w3 w4 := fr_set w3 _ m _
     clear_value w4
     refine ⟨⟨m + 1, e1, hlt, h4, hF4.heap hr (fun h => by have : w.heap.size = w0.heap.size := h; omega), hB2.trans (hF4.toBelow (fun k hk => by have : k = w0.heap.size := hk; omega) hB2.size)⟩, ?_⟩
     show ((16 : Int) - w64 ((m : Int) + 1)).toNat < ((16 : Int) - (m : Int)).toNat
     rw [e1]; omega
 · have hm16 : m = 16 := by have := of_decide_eq_false hge; omega
   subst hm16
   rw [tabTo_all] at ho
   refine ⟨_, by rw [blk_cell0 ho]; rfl, _, by rw [blk_cell ho]; rfl, _, by rw [blk_cell ho]; rfl, _, by rw [blk_cell ho]; rfl, _, by rw [blk_cell ho]; rfl, _, by rw [blk_cell ho]; rfl, _, by rw [blk_cell ho]; rfl, _, by rw [blk_cell ho]; rfl, _, by rw [blk_cell ho]; rfl, _, by rw [blk_cell ho]; rfl, _, by rw [blk_cell ho]; rfl, _, by rw [blk_cell ho]; rfl, _, by rw [blk_cell ho]; rfl, _, by rw [blk_cell ho]; rfl, _, by rw [blk_cell ho]; rfl, _, by rw [blk_cell ho]; rfl, ?_⟩
   have f0 : Below w.heap.size w w2 := hB2
   refine ⟨blk_wr0 hr (by decide), ?_⟩
   intro x0
   have r0 : x0.heap[w.heap.size]? = some (.cells ⟨[.int .u32 ((step4 0 : Nat) : Int), .int .u32 0, .int .u32 0, .int .u32 0, .int .u32 0, .int .u32 0, .int .u32 0, .int .u32 0, .int .u32 0, .int .u32 0, .int .u32 0, .int .u32 0, .int .u32 0, .int .u32 0, .int .u32 0, .int .u32 0]⟩ T.y_16_uint32 (0, 0)) := blk_set0 hr _
   have f1 : Below w.heap.size w x0 := f0.trans ((fr_set0 w2 w.heap.size (.int .u32 ((step4 0 : Nat) : Int))).toBelow (fun k hk => by have : k = w.heap.size := hk; omega) f0.size)
   clear_value x0
   refine ⟨blk_wr r0 (by decide), ?_⟩
   intro x1
   have r1 : x1.heap[w.heap.size]? = some (.cells ⟨[.int .u32 ((step4 0 : Nat) : Int), .int .u32 ((step4 1 : Nat) : Int), .int .u32 0, .int .u32 0, .int .u32 0, .int .u32 0, .int .u32 0, .int .u32 0, .int .u32 0, .int .u32 0, .int .u32 0, .int .u32 0, .int .u32 0, .int .u32 0, .int .u32 0, .int .u32 0]⟩ T.y_16_uint32 (0, 0)) := blk_set r0 1 _
   have f2 : Below w.heap.size w x1 := f1.trans ((fr_set x0 w.heap.size 1 (.int .u32 ((step4 1 : Nat) : Int))).toBelow (fun k hk => by have : k = w.heap.size := hk; omega) f1.size)
   clear_value x1
   refine ⟨blk_wr r1 (by decide), ?_⟩
   intro x2
   have r2 : x2.heap[w.heap.size]? = some (.cells ⟨[.int .u32 ((step4 0 : Nat) : Int), .int .u32 ((step4 1 : Nat) : Int), .int .u32 ((step4 2 : Nat) : Int), .int .u32 0, .int .u32 0, .int .u32 0, .int .u32 0, .int .u32 0, .int .u32 0, .int .u32 0, .int .u32 0, .int .u32 0, .int .u32 0, .int .u32 0, .int .u32 0, .int .u32 0]⟩ T.y_16_uint32 (0, 0)) := blk_set r1 2 _
   have f3 : Below w.heap.size w x2 := f2.trans ((fr_set x1 w.heap.size 2 (.int .u32 ((step4 2 : Nat) : Int))).toBelow (fun k hk => by have : k = w.heap.size := hk; omega) f2.size)
   clear_value x2
   refine ⟨blk_wr r2 (by decide), ?_⟩
   intro x3
   have r3 : x3.heap[w.heap.size]? = some (.cells ⟨[.int .u32 ((step4 0 : Nat) : Int), .int .u32 ((step4 1 : Nat) : Int), .int .u32 ((step4 2 : Nat) : Int), .int .u32 ((step4 3 : Nat) : Int), .int .u32 0, .int .u32 0, .int .u32 0, .int .u32 0, .int .u32 0, .int .u32 0, .int .u32 0, .int .u32 0, .int .u32 0, .int .u32 0, .int .u32 0, .int .u32 0]⟩ T.y_16_uint32 (0, 0)) := blk_set r2 3 _
   have f4 : Below w.heap.size w x3 := f3.trans ((fr_set x2 w.heap.size 3 (.int .u32 ((step4 3 : Nat) : Int))).toBelow (fun k hk => by have : k = w.heap.size := hk; omega) f3.size)
   clear_value x3
   refine ⟨blk_wr r3 (by decide), ?_⟩
   intro x4
   have r4 : x4.heap[w.heap.size]? = some (.cells ⟨[.int .u32 ((step4 0 : Nat) : Int), .int .u32 ((step4 1 : Nat) : Int), .int .u32 ((step4 2 : Nat) : Int), .int .u32 ((step4 3 : Nat) : Int), .int .u32 ((step4 4 : Nat) : Int), .int .u32 0, .int .u32 0, .int .u32 0, .int .u32 0, .int .u32 0, .int .u32 0, .int .u32 0, .int .u32 0, .int .u32 0, .int .u32 0, .int .u32 0]⟩ T.y_16_uint32 (0, 0)) := blk_set r3 4 _
   have f5 : Below w.heap.size w x4 := f4.trans ((fr_set x3 w.heap.size 4 (.int .u32 ((step4 4 : Nat) : Int))).toBelow (fun k hk => by have : k = w.heap.size := hk; omega) f4.size)
   clear_value x4
   refine ⟨blk_wr r4 (by decide), ?_⟩
   intro x5
   have r5 : x5.heap[w.heap.size]? = some (.cells ⟨[.int .u32 ((step4 0 : Nat) : Int), .int .u32 ((step4 1 : Nat) : Int), .int .u32 ((step4 2 : Nat) : Int), .int .u32 ((step4 3 : Nat) : Int), .int .u32 ((step4 4 : Nat) : Int), .int .u32 ((step4 5 : Nat) : Int), .int .u32 0, .int .u32 0, .int .u32 0, .int .u32 0, .int .u32 0, .int .u32 0, .int .u32 0, .int .u32 0, .int .u32 0, .int .u32 0]⟩ T.y_16_uint32 (0, 0)) := blk_set r4 5 _
   have f6 : Below w.heap.size w x5 := f5.trans ((fr_set x4 w.heap.size 5 (.int .u32 ((step4 5 : Nat) : Int))).toBelow (fun k hk => by have : k = w.heap.size := hk; omega) f5.size)
   clear_value x5
   refine ⟨blk_wr r5 (by decide), ?_⟩
   intro x6
   have r6 : x6.heap[w.heap.size]? = some (.cells ⟨[.int .u32 ((step4 0 : Nat) : Int), .int .u32 ((step4 1 : Nat) : Int), .int .u32 ((step4 2 : Nat) : Int), .int .u32 ((step4 3 : Nat) : Int), .int .u32 ((step4 4 : Nat) : Int), .int .u32 ((step4 5 : Nat) : Int), .int .u32 ((step4 6 : Nat) : Int), .int .u32 0, .int .u32 0, .int .u32 0, .int .u32 0, .int .u32 0, .int .u32 0, .int .u32 0, .int .u32 0, .int .u32 0]⟩ T.y_16_uint32 (0, 0)) := blk_set r5 6 _
   have f7 : Below w.heap.size w x6 := f6.trans ((fr_set x5 w.heap.size 6 (.int .u32 ((step4 6 : Nat) : Int))).toBelow (fun k hk => by have : k = w.heap.size := hk; omega) f6.size)
   clear_value x6
   refine ⟨blk_wr r6 (by decide), ?_⟩
   intro x7
   have r7 : x7.heap[w.heap.size]? = some (.cells ⟨[.int .u32 ((step4 0 : Nat) : Int), .int .u32 ((step4 1 : Nat) : Int), .int .u32 ((step4 2 : Nat) : Int), .int .u32 ((step4 3 : Nat) : Int), .int .u32 ((step4 4 : Nat) : Int), .int .u32 ((step4 5 : Nat) : Int), .int .u32 ((step4 6 : Nat) : Int), .int .u32 ((step4 7 : Nat) : Int), .int .u32 0, .int .u32 0, .int .u32 0, .int .u32 0, .int .u32 0, .int .u32 0, .int .u32 0, .int .u32 0]⟩ T.y_16_uint32 (0, 0)) := blk_set r6 7 _
   have f8 : Below w.heap.size w x7 := f7.trans ((fr_set x6 w.heap.size 7 (.int .u32 ((step4 7 : Nat) : Int))).toBelow (fun k hk => by have : k = w.heap.size := hk; omega) f7.size)
   clear_value x7
   refine ⟨blk_wr r7 (by decide), ?_⟩
   intro x8
   have r8 : x8.heap[w.heap.size]? = some (.cells ⟨[.int .u32 ((step4 0 : Nat) : Int), .int .u32 ((step4 1 : Nat) : Int), .int .u32 ((step4 2 : Nat) : Int), .int .u32 ((step4 3 : Nat) : Int), .int .u32 ((step4 4 : Nat) : Int), .int .u32 ((step4 5 : Nat) : Int), .int .u32 ((step4 6 : Nat) : Int), .int .u32 ((step4 7 : Nat) : Int), .int .u32 ((step4 8 : Nat) : Int), .int .u32 0, .int .u32 0, .int .u32 0, .int .u32 0, .int .u32 0, .int .u32 0, .int .u32 0]⟩ T.y_16_uint32 (0, 0)) := blk_set r7 8 _
   have f9 : Below w.heap.size w x8 := f8.trans ((fr_set x7 w.heap.size 8 (.int .u32 ((step4 8 : Nat) : Int))).toBelow (fun k hk => by have : k = w.heap.size := hk; omega) f8.size)
   clear_value x8
   refine ⟨blk_wr r8 (by decide), ?_⟩
   intro x9
   have r9 : x9.heap[w.heap.size]? = some (.cells ⟨[.int .u32 ((step4 0 : Nat) : Int), .int .u32 ((step4 1 : Nat) : Int), .int .u32 ((step4 2 : Nat) : Int), .int .u32 ((step4 3 : Nat) : Int), .int .u32 ((step4 4 : Nat) : Int), .int .u32 ((step4 5 : Nat) : Int), .int .u32 ((step4 6 : Nat) : Int), .int .u32 ((step4 7 : Nat) : Int), .int .u32 ((step4 8 : Nat) : Int), .int .u32 ((step4 9 : Nat) : Int), .int .u32 0, .int .u32 0, .int .u32 0, .int .u32 0, .int .u32 0, .int .u32 0]⟩ T.y_16_uint32 (0, 0)) := blk_set r8 9 _
   have f10 : Below w.heap.size w x9 := f9.trans ((fr_set x8 w.heap.size 9 (.int .u32 ((step4 9 : Nat) : Int))).toBelow (fun k hk => by have : k = w.heap.size := hk; omega) f9.size)
   clear_value x9
   refine ⟨blk_wr r9 (by decide), ?_⟩
   intro x10
   have r10 : x10.heap[w.heap.size]? = some (.cells ⟨[.int .u32 ((step4 0 : Nat) : Int), .int .u32 ((step4 1 : Nat) : Int), .int .u32 ((step4 2 : Nat) : Int), .int .u32 ((step4 3 : Nat) : Int), .int .u32 ((step4 4 : Nat) : Int), .int .u32 ((step4 5 : Nat) : Int), .int .u32 ((step4 6 : Nat) : Int), .int .u32 ((step4 7 : Nat) : Int), .int .u32 ((step4 8 : Nat) : Int), .int .u32 ((step4 9 : Nat) : Int), .int .u32 ((step4 10 : Nat) : Int), .int .u32 0, .int .u32 0, .int .u32 0, .int .u32 0, .int .u32 0]⟩ T.y_16_uint32 (0, 0)) := blk_set r9 10 _
   have f11 : Below w.heap.size w x10 := f10.trans ((fr_set x9 w.heap.size 10 (.int .u32 ((step4 10 : Nat) : Int))).toBelow (fun k hk => by have : k = w.heap.size := hk; omega) f10.size)
   clear_value x10
   refine ⟨blk_wr r10 (by decide), ?_⟩
   intro x11
   have r11 : x11.heap[w.heap.size]? = some (.cells ⟨[.int .u32 ((step4 0 : Nat) : Int), .int .u32 ((step4 1 : Nat) : Int), .int .u32 ((step4 2 : Nat) : Int), .int .u32 ((step4 3 : Nat) : Int), .int .u32 ((step4 4 : Nat) : Int), .int .u32 ((step4 5 : Nat) : Int), .int .u32 ((step4 6 : Nat) : Int), .int .u32 ((step4 7 : Nat) : Int), .int .u32 ((step4 8 : Nat) : Int), .int .u32 ((step4 9 : Nat) : Int), .int .u32 ((step4 10 : Nat) : Int), .int .u32 ((step4 11 : Nat) : Int), .int .u32 0, .int .u32 0, .int .u32 0, .int .u32 0]⟩ T.y_16_uint32 (0, 0)) := blk_set r10 11 _
   have f12 : Below w.heap.size w x11 := f11.trans ((fr_set x10 w.heap.size 11 (.int .u32 ((step4 11 : Nat) : Int))).toBelow (fun k hk => by have : k = w.heap.size := hk; omega) f11.size)
   clear_value x11
   refine ⟨blk_wr r11 (by decide), ?_⟩
   intro x12
   have r12 : x12.heap[w.heap.size]? = some (.cells ⟨[.int .u32 ((step4 0 : Nat) : Int), .int .u32 ((step4 1 : Nat) : Int), .int .u32 ((step4 2 : Nat) : Int), .int .u32 ((step4 3 : Nat) : Int), .int .u32 ((step4 4 : Nat) : Int), .int .u32 ((step4 5 : Nat) : Int), .int .u32 ((step4 6 : Nat) : Int), .int .u32 ((step4 7 : Nat) : Int), .int .u32 ((step4 8 : Nat) : Int), .int .u32 ((step4 9 : Nat) : Int), .int .u32 ((step4 10 : Nat) : Int), .int .u32 ((step4 11 : Nat) : Int), .int .u32 ((step4 12 : Nat) : Int), .int .u32 0, .int .u32 0, .int .u32 0]⟩ T.y_16_uint32 (0, 0)) := blk_set r11 12 _
   have f13 : Below w.heap.size w x12 := f12.trans ((fr_set x11 w.heap.size 12 (.int .u32 ((step4 12 : Nat) : Int))).toBelow (fun k hk => by have : k = w.heap.size := hk; omega) f12.size)
   clear_value x12
   refine ⟨blk_wr r12 (by decide), ?_⟩
   intro x13
   have r13 : x13.heap[w.heap.size]? = some (.cells ⟨[.int .u32 ((step4 0 : Nat) : Int), .int .u32 ((step4 1 : Nat) : Int), .int .u32 ((step4 2 : Nat) : Int), .int .u32 ((step4 3 : Nat) : Int), .int .u32 ((step4 4 : Nat) : Int), .int .u32 ((step4 5 : Nat) : Int), .int .u32 ((step4 6 : Nat) : Int), .int .u32 ((step4 7 : Nat) : Int), .int .u32 ((step4 8 : Nat) : Int), .int .u32 ((step4 9 : Nat) : Int), .int .u32 ((step4 10 : Nat) : Int), .int .u32 ((step4 11 : Nat) : Int), .int .u32 ((step4 12 : Nat) : Int), .int .u32 ((step4 13 : Nat) : Int), .int .u32 0, .int .u32 0]⟩ T.y_16_uint32 (0, 0)) := blk_set r12 13 _
   have f14 : Below w.heap.size w x13 := f13.trans ((fr_set x12 w.heap.size 13 (.int .u32 ((step4 13 : Nat) : Int))).toBelow (fun k hk => by have : k = w.heap.size := hk; omega) f13.size)
   clear_value x13
   refine ⟨blk_wr r13 (by decide), ?_⟩
   intro x14
   have r14 : x14.heap[w.heap.size]? = some (.cells ⟨[.int .u32 ((step4 0 : Nat) : Int), .int .u32 ((step4 1 : Nat) : Int), .int .u32 ((step4 2 : Nat) : Int), .int .u32 ((step4 3 : Nat) : Int), .int .u32 ((step4 4 : Nat) : Int), .int .u32 ((step4 5 : Nat) : Int), .int .u32 ((step4 6 : Nat) : Int), .int .u32 ((step4 7 : Nat) : Int), .int .u32 ((step4 8 : Nat) : Int), .int .u32 ((step4 9 : Nat) : Int), .int .u32 ((step4 10 : Nat) : Int), .int .u32 ((step4 11 : Nat) : Int), .int .u32 ((step4 12 : Nat) : Int), .int .u32 ((step4 13 : Nat) : Int), .int .u32 ((step4 14 : Nat) : Int), .int .u32 0]⟩ T.y_16_uint32 (0, 0)) := blk_set r13 14 _
   have f15 : Below w.heap.size w x14 := f14.trans ((fr_set x13 w.heap.size 14 (.int .u32 ((step4 14 : Nat) : Int))).toBelow (fun k hk => by have : k = w.heap.size := hk; omega) f14.size)
   clear_value x14
   refine ⟨blk_wr r14 (by decide), ?_⟩
   intro x15
   have r15 : x15.heap[w.heap.size]? = some (.cells ⟨[.int .u32 ((step4 0 : Nat) : Int), .int .u32 ((step4 1 : Nat) : Int), .int .u32 ((step4 2 : Nat) : Int), .int .u32 ((step4 3 : Nat) : Int), .int .u32 ((step4 4 : Nat) : Int), .int .u32 ((step4 5 : Nat) : Int), .int .u32 ((step4 6 : Nat) : Int), .int .u32 ((step4 7 : Nat) : Int), .int .u32 ((step4 8 : Nat) : Int), .int .u32 ((step4 9 : Nat) : Int), .int .u32 ((step4 10 : Nat) : Int), .int .u32 ((step4 11 : Nat) : Int), .int .u32 ((step4 12 : Nat) : Int), .int .u32 ((step4 13 : Nat) : Int), .int .u32 ((step4 14 : Nat) : Int), .int .u32 ((step4 15 : Nat) : Int)]⟩ T.y_16_uint32 (0, 0)) := blk_set r14 15 _
   have f16 : Below w.heap.size w x15 := f15.trans ((fr_set x14 w.heap.size 15 (.int .u32 ((step4 15 : Nat) : Int))).toBelow (fun k hk => by have : k = w.heap.size := hk; omega) f15.size)
   clear_value x15
   exact ⟨_, by rw [blk_cell0 r15]; rfl, _, by rw [blk_cell r15]; rfl, _, by rw [blk_cell r15]; rfl, _, by rw [blk_cell r15]; rfl, _, by rw [blk_cell r15]; rfl, _, by rw [blk_cell r15]; rfl, _, by rw [blk_cell r15]; rfl, _, by rw [blk_cell r15]; rfl, _, by rw [blk_cell r15]; rfl, _, by rw [blk_cell r15]; rfl, _, by rw [blk_cell r15]; rfl, _, by rw [blk_cell r15]; rfl, _, by rw [blk_cell r15]; rfl, _, by rw [blk_cell r15]; rfl, _, by rw [blk_cell r15]; rfl, _, by rw [blk_cell r15]; rfl, hR _ f16⟩
/-- one byte more -/
theorem crcB_eq (x : Nat) (b : UInt8) : crcB x b = ((((x ^^^ b.toNat) / 16) ^^^ step4 ((x ^^^ b.toNat) % 16)) / 16) ^^^ step4 ((((x ^^^ b.toNat) / 16) ^^^ step4 ((x ^^^ b.toNat) % 16)) % 16) := by
 unfold crcB
 rw [← step4_split (x ^^^ b.toNat), ← step4_split]
theorem and15 (x : Nat) (h : x < 4294967296) : bits .and .u32 (x : Int) 15 = ((x % 16 : Nat) : Int) := by
 have e := u32_and_nat x 15 h (by decide)
 have e1 : ((15 : Nat) : Int) = 15 := rfl
 rw [e1] at e
 rw [e]
 have : x &&& 15 = x % 2 ^ 4 := Nat.and_two_pow_sub_one_eq_mod x 4
 rw [this]
set_option maxRecDepth 20000 in
theorem Of_spec {w : World} {h : Nat} {s : List UInt8} (hh : w.heap[h]? = some (.cells ⟨[.string (tx s)]⟩ T.y_string (0, 0))) (hs : s.length ≤ 1099511627776) {R : Int → World → Prop} (hR : ∀ w', Below w.heap.size w w' → R ((crcL s : Nat) : Int) w') : F.crc_Of ⟨some (blk h), 1, 1⟩ w R := by
 apply E.crc_Of
 unfold V.crc_Of
 try simp -zeta only [ldC, soC, brC, bkA, slC, stC, alC, drC]
 refine half_spec fun w0 hB0 => ?_
 intro w1
 have hb : Below w.heap.size w w1 := hB0.trans ((below_fr (Fr.alloc no w0 _)).mono hB0.size)
 have hr : w1.heap[w0.heap.size]? = some (.cells ⟨[.int .u32 0, .int .u32 0, .int .u32 0, .int .u32 0, .int .u32 0, .int .u32 0, .int .u32 0, .int .u32 0, .int .u32 0, .int .u32 0, .int .u32 0, .int .u32 0, .int .u32 0, .int .u32 0, .int .u32 0, .int .u32 0]⟩ T.y_16_uint32 (0, 0)) := heap_new w0 _
 have s0 := hB0.size
 clear_value w1
 have f0 : Below w.heap.size w w1 := hb
 refine ⟨blk_wr0 hr (by decide), ?_⟩
 intro x0
 have r0 : x0.heap[w0.heap.size]? = some (.cells ⟨[.int .u32 ((step4 0 : Nat) : Int), .int .u32 0, .int .u32 0, .int .u32 0, .int .u32 0, .int .u32 0, .int .u32 0, .int .u32 0, .int .u32 0, .int .u32 0, .int .u32 0, .int .u32 0, .int .u32 0, .int .u32 0, .int .u32 0, .int .u32 0]⟩ T.y_16_uint32 (0, 0)) := blk_set0 hr _
 have f1 : Below w.heap.size w x0 := f0.trans ((fr_set0 w1 w0.heap.size (.int .u32 ((step4 0 : Nat) : Int))).toBelow (fun k hk => by have : k = w0.heap.size := hk; omega) f0.size)
 clear_value x0
 refine ⟨blk_wr r0 (by decide), ?_⟩
 intro x1
 have r1 : x1.heap[w0.heap.size]? = some (.cells ⟨[.int .u32 ((step4 0 : Nat) : Int), .int .u32 ((step4 1 : Nat) : Int), .int .u32 0, .int .u32 0, .int .u32 0, .int .u32 0, .int .u32 0, .int .u32 0, .int .u32 0, .int .u32 0, .int .u32 0, .int .u32 0, .int .u32 0, .int .u32 0, .int .u32 0, .int .u32 0]⟩ T.y_16_uint32 (0, 0)) := blk_set r0 1 _
 have f2 : Below w.heap.size w x1 := f1.trans ((fr_set x0 w0.heap.size 1 (.int .u32 ((step4 1 : Nat) : Int))).toBelow (fun k hk => by have : k = w0.heap.size := hk; omega) f1.size)
 clear_value x1
 refine ⟨blk_wr r1 (by decide), ?_⟩
 intro x2
 have r2 : x2.heap[w0.heap.size]? = some (.cells ⟨[.int .u32 ((step4 0 : Nat) : Int), .int .u32 ((step4 1 : Nat) : Int), .int .u32 ((step4 2 : Nat) : Int), .int .u32 0, .int .u32 0, .int .u32 0, .int .u32 0, .int .u32 0, .int .u32 0, .int .u32 0, .int .u32 0, .int .u32 0, .int .u32 0, .int .u32 0, .int .u32 0, .int .u32 0]⟩ T.y_16_uint32 (0, 0)) := blk_set r1 2 _
 have f3 : Below w.heap.size w x2 := f2.trans ((fr_set x1 w0.heap.size 2 (.int .u32 ((step4 2 : Nat) : Int))).toBelow (fun k hk => by have : k = w0.heap.size := hk; omega) f2.size)
 clear_value x2
 refine ⟨blk_wr r2 (by decide), ?_⟩
 intro x3
 have r3 : x3.heap[w0.heap.size]? = some (.cells ⟨[.int .u32 ((step4 0 : Nat) : Int), .int .u32 ((step4 1 : Nat) : Int), .int .u32 ((step4 2 : Nat) : Int), .int .u32 ((step4 3 : Nat) : Int), .int .u32 0, .int .u32 0, .int .u32 0, .int .u32 0, .int .u32 0, .int .u32 0, .int .u32 0, .int .u32 0, .int .u32 0, .int .u32 0, .int .u32 0, .int .u32 0]⟩ T.y_16_uint32 (0, 0)) := blk_set r2 3 _
 have f4 : Below w.heap.size w x3 := f3.trans ((fr_set x2 w0.heap.size 3 (.int .u32 ((step4 3 : Nat) : Int))).toBelow (fun k hk => by have : k = w0.heap.size := hk; omega) f3.size)
 clear_value x3
 refine ⟨blk_wr r3 (by decide), ?_⟩
 intro x4
 have r4 : x4.heap[w0.heap.size]? = some (.cells ⟨[.int .u32 ((step4 0 : Nat) : Int), .int .u32 ((step4 1 : Nat) : Int), .int .u32 ((step4 2 : Nat) : Int), .int .u32 ((step4 3 : Nat) : Int), .int .u32 ((step4 4 : Nat) : Int), .int .u32 0, .int .u32 0, .int .u32 0, .int .u32 0, .int .u32 0, .int .u32 0, .int .u32 0, .int .u32 0, .int .u32 0, .int .u32 0, .int .u32 0]⟩ T.y_16_uint32 (0, 0)) := blk_set r3 4 _
 have f5 : Below w.heap.size w x4 := f4.trans ((fr_set x3 w0.heap.size 4 (.int .u32 ((step4 4 : Nat) : Int))).toBelow (fun k hk => by have : k = w0.heap.size := hk; omega) f4.size)
 clear_value x4
 refine ⟨blk_wr r4 (by decide), ?_⟩
 intro x5
 have r5 : x5.heap[w0.heap.size]? = some (.cells ⟨[.int .u32 ((step4 0 : Nat) : Int), .int .u32 ((step4 1 : Nat) : Int), .int .u32 ((step4 2 : Nat) : Int), .int .u32 ((step4 3 : Nat) : Int), .int .u32 ((step4 4 : Nat) : Int), .int .u32 ((step4 5 : Nat) : Int), .int .u32 0, .int .u32 0, .int .u32 0, .int .u32 0, .int .u32 0, .int .u32 0, .int .u32 0, .int .u32 0, .int .u32 0, .int .u32 0]⟩ T.y_16_uint32 (0, 0)) := blk_set r4 5 _
 have f6 : Below w.heap.size w x5 := f5.trans ((fr_set x4 w0.heap.size 5 (.int .u32 ((step4 5 : Nat) : Int))).toBelow (fun k hk => by have : k = w0.heap.size := hk; omega) f5.size)
 clear_value x5
 refine ⟨blk_wr r5 (by decide), ?_⟩
 intro x6
 have r6 : x6.heap[w0.heap.size]? = some (.cells ⟨[.int .u32 ((step4 0 : Nat) : Int), .int .u32 ((step4 1 : Nat) : Int), .int .u32 ((step4 2 : Nat) : Int), .int .u32 ((step4 3 : Nat) : Int), .int .u32 ((step4 4 : Nat) : Int), .int .u32 ((step4 5 : Nat) : Int), .int .u32 ((step4 6 : Nat) : Int), .int .u32 0, .int .u32 0, .int .u32 0, .int .u32 0, .int .u32 0, .int .u32 0, .int .u32 0, .int .u32 0, .int .u32 0]⟩ T.y_16_uint32 (0, 0)) := blk_set r5 6 _
 have f7 : Below w.heap.size w x6 := f6.trans ((fr_set x5 w0.heap.size 6 (.int .u32 ((step4 6 : Nat) : Int))).toBelow (fun k hk => by have : k = w0.heap.size := hk; omega) f6.size)
 clear_value x6
 refine ⟨blk_wr r6 (by decide), ?_⟩
 intro x7
 have r7 : x7.heap[w0.heap.size]? = some (.cells ⟨[.int .u32 ((step4 0 : Nat) : Int), .int .u32 ((step4 1 : Nat) : Int), .int .u32 ((step4 2 : Nat) : Int), .int .u32 ((step4 3 : Nat) : Int), .int .u32 ((step4 4 : Nat) : Int), .int .u32 ((step4 5 : Nat) : Int), .int .u32 ((step4 6 : Nat) : Int), .int .u32 ((step4 7 : Nat) : Int), .int .u32 0, .int .u32 0, .int .u32 0, .int .u32 0, .int .u32 0, .int .u32 0, .int .u32 0, .int .u32 0]⟩ T.y_16_uint32 (0, 0)) := blk_set r6 7 _
 have f8 : Below w.heap.size w x7 := f7.trans ((fr_set x6 w0.heap.size 7 (.int .u32 ((step4 7 : Nat) : Int))).toBelow (fun k hk => by have : k = w0.heap.size := hk; omega) f7.size)
 clear_value x7
 refine ⟨blk_wr r7 (by decide), ?_⟩
 intro x8
 have r8 : x8.heap[w0.heap.size]? = some (.cells ⟨[.int .u32 ((step4 0 : Nat) : Int), .int .u32 ((step4 1 : Nat) : Int), .int .u32 ((step4 2 : Nat) : Int), .int .u32 ((step4 3 : Nat) : Int), .int .u32 ((step4 4 : Nat) : Int), .int .u32 ((step4 5 : Nat) : Int), .int .u32 ((step4 6 : Nat) : Int), .int .u32 ((step4 7 : Nat) : Int), .int .u32 ((step4 8 : Nat) : Int), .int .u32 0, .int .u32 0, .int .u32 0, .int .u32 0, .int .u32 0, .int .u32 0, .int .u32 0]⟩ T.y_16_uint32 (0, 0)) := blk_set r7 8 _
 have f9 : Below w.heap.size w x8 := f8.trans ((fr_set x7 w0.heap.size 8 (.int .u32 ((step4 8 : Nat) : Int))).toBelow (fun k hk => by have : k = w0.heap.size := hk; omega) f8.size)
 clear_value x8
 refine ⟨blk_wr r8 (by decide), ?_⟩
 intro x9
 have r9 : x9.heap[w0.heap.size]? = some (.cells ⟨[.int .u32 ((step4 0 : Nat) : Int), .int .u32 ((step4 1 : Nat) : Int), .int .u32 ((step4 2 : Nat) : Int), .int .u32 ((step4 3 : Nat) : Int), .int .u32 ((step4 4 : Nat) : Int), .int .u32 ((step4 5 : Nat) : Int), .int .u32 ((step4 6 : Nat) : Int), .int .u32 ((step4 7 : Nat) : Int), .int .u32 ((step4 8 : Nat) : Int), .int .u32 ((step4 9 : Nat) : Int), .int .u32 0, .int .u32 0, .int .u32 0, .int .u32 0, .int .u32 0, .int .u32 0]⟩ T.y_16_uint32 (0, 0)) := blk_set r8 9 _
 have f10 : Below w.heap.size w x9 := f9.trans ((fr_set x8 w0.heap.size 9 (.int .u32 ((step4 9 : Nat) : Int))).toBelow (fun k hk => by have : k = w0.heap.size := hk; omega) f9.size)
 clear_value x9
 refine ⟨blk_wr r9 (by decide), ?_⟩
 intro x10
 have r10 : x10.heap[w0.heap.size]? = some (.cells ⟨[.int .u32 ((step4 0 : Nat) : Int), .int .u32 ((step4 1 : Nat) : Int), .int .u32 ((step4 2 : Nat) : Int), .int .u32 ((step4 3 : Nat) : Int), .int .u32 ((step4 4 : Nat) : Int), .int .u32 ((step4 5 : Nat) : Int), .int .u32 ((step4 6 : Nat) : Int), .int .u32 ((step4 7 : Nat) : Int), .int .u32 ((step4 8 : Nat) : Int), .int .u32 ((step4 9 : Nat) : Int), .int .u32 ((step4 10 : Nat) : Int), .int .u32 0, .int .u32 0, .int .u32 0, .int .u32 0, .int .u32 0]⟩ T.y_16_uint32 (0, 0)) := blk_set r9 10 _
 have f11 : Below w.heap.size w x10 := f10.trans ((fr_set x9 w0.heap.size 10 (.int .u32 ((step4 10 : Nat) : Int))).toBelow (fun k hk => by have : k = w0.heap.size := hk; omega) f10.size)
 clear_value x10
 refine ⟨blk_wr r10 (by decide), ?_⟩
 intro x11
 have r11 : x11.heap[w0.heap.size]? = some (.cells ⟨[.int .u32 ((step4 0 : Nat) : Int), .int .u32 ((step4 1 : Nat) : Int), .int .u32 ((step4 2 : Nat) : Int), .int .u32 ((step4 3 : Nat) : Int), .int .u32 ((step4 4 : Nat) : Int), .int .u32 ((step4 5 : Nat) : Int), .int .u32 ((step4 6 : Nat) : Int), .int .u32 ((step4 7 : Nat) : Int), .int .u32 ((step4 8 : Nat) : Int), .int .u32 ((step4 9 : Nat) : Int), .int .u32 ((step4 10 : Nat) : Int), .int .u32 ((step4 11 : Nat) : Int), .int .u32 0, .int .u32 0, .int .u32 0, .int .u32 0]⟩ T.y_16_uint32 (0, 0)) := blk_set r10 11 _
 have f12 : Below w.heap.size w x11 := f11.trans ((fr_set x10 w0.heap.size 11 (.int .u32 ((step4 11 : Nat) : Int))).toBelow (fun k hk => by have : k = w0.heap.size := hk; omega) f11.size)
 clear_value x11
 refine ⟨blk_wr r11 (by decide), ?_⟩
 intro x12
 have r12 : x12.heap[w0.heap.size]? = some (.cells ⟨[.int .u32 ((step4 0 : Nat) : Int), .int .u32 ((step4 1 : Nat) : Int), .int .u32 ((step4 2 : Nat) : Int), .int .u32 ((step4 3 : Nat) : Int), .int .u32 ((step4 4 : Nat) : Int), .int .u32 ((step4 5 : Nat) : Int), .int .u32 ((step4 6 : Nat) : Int), .int .u32 ((step4 7 : Nat) : Int), .int .u32 ((step4 8 : Nat) : Int), .int .u32 ((step4 9 : Nat) : Int), .int .u32 ((step4 10 : Nat) : Int), .int .u32 ((step4 11 : Nat) : Int), .int .u32 ((step4 12 : Nat) : Int), .int .u32 0, .int .u32 0, .int .u32 0]⟩ T.y_16_uint32 (0, 0)) := blk_set r11 12 _
 have f13 : Below w.heap.size w x12 := f12.trans ((fr_set x11 w0.heap.size 12 (.int .u32 ((step4 12 : Nat) : Int))).toBelow (fun k hk => by have : k = w0.heap.size := hk; omega) f12.size)
 clear_value x12
 refine ⟨blk_wr r12 (by decide), ?_⟩
 intro x13
 have r13 : x13.heap[w0.heap.size]? = some (.cells ⟨[.int .u32 ((step4 0 : Nat) : Int), .int .u32 ((step4 1 : Nat) : Int), .int .u32 ((step4 2 : Nat) : Int), .int .u32 ((step4 3 : Nat) : Int), .int .u32 ((step4 4 : Nat) : Int), .int .u32 ((step4 5 : Nat) : Int), .int .u32 ((step4 6 : Nat) : Int), .int .u32 ((step4 7 : Nat) : Int), .int .u32 ((step4 8 : Nat) : Int), .int .u32 ((step4 9 : Nat) : Int), .int .u32 ((step4 10 : Nat) : Int), .int .u32 ((step4 11 : Nat) : Int), .int .u32 ((step4 12 : Nat) : Int), .int .u32 ((step4 13 : Nat) : Int), .int .u32 0, .int .u32 0]⟩ T.y_16_uint32 (0, 0)) := blk_set r12 13 _
 have f14 : Below w.heap.size w x13 := f13.trans ((fr_set x12 w0.heap.size 13 (.int .u32 ((step4 13 : Nat) : Int))).toBelow (fun k hk => by have : k = w0.heap.size := hk; omega) f13.size)
 clear_value x13
 refine ⟨blk_wr r13 (by decide), ?_⟩
 intro x14
 have r14 : x14.heap[w0.heap.size]? = some (.cells ⟨[.int .u32 ((step4 0 : Nat) : Int), .int .u32 ((step4 1 : Nat) : Int), .int .u32 ((step4 2 : Nat) : Int), .int .u32 ((step4 3 : Nat) : Int), .int .u32 ((step4 4 : Nat) : Int), .int .u32 ((step4 5 : Nat) : Int), .int .u32 ((step4 6 : Nat) : Int), .int .u32 ((step4 7 : Nat) : Int), .int .u32 ((step4 8 : Nat) : Int), .int .u32 ((step4 9 : Nat) : Int), .int .u32 ((step4 10 : Nat) : Int), .int .u32 ((step4 11 : Nat) : Int), .int .u32 ((step4 12 : Nat) : Int), .int .u32 ((step4 13 : Nat) : Int), .int .u32 ((step4 14 : Nat) : Int), .int .u32 0]⟩ T.y_16_uint32 (0, 0)) := blk_set r13 14 _
 have f15 : Below w.heap.size w x14 := f14.trans ((fr_set x13 w0.heap.size 14 (.int .u32 ((step4 14 : Nat) : Int))).toBelow (fun k hk => by have : k = w0.heap.size := hk; omega) f14.size)
 clear_value x14
 refine ⟨blk_wr r14 (by decide), ?_⟩
 intro x15
 have r15 : x15.heap[w0.heap.size]? = some (.cells ⟨[.int .u32 ((step4 0 : Nat) : Int), .int .u32 ((step4 1 : Nat) : Int), .int .u32 ((step4 2 : Nat) : Int), .int .u32 ((step4 3 : Nat) : Int), .int .u32 ((step4 4 : Nat) : Int), .int .u32 ((step4 5 : Nat) : Int), .int .u32 ((step4 6 : Nat) : Int), .int .u32 ((step4 7 : Nat) : Int), .int .u32 ((step4 8 : Nat) : Int), .int .u32 ((step4 9 : Nat) : Int), .int .u32 ((step4 10 : Nat) : Int), .int .u32 ((step4 11 : Nat) : Int), .int .u32 ((step4 12 : Nat) : Int), .int .u32 ((step4 13 : Nat) : Int), .int .u32 ((step4 14 : Nat) : Int), .int .u32 ((step4 15 : Nat) : Int)]⟩ T.y_16_uint32 (0, 0)) := blk_set r14 15 _
 have f16 : Below w.heap.size w x15 := f15.trans ((fr_set x14 w0.heap.size 15 (.int .u32 ((step4 15 : Nat) : Int))).toBelow (fun k hk => by have : k = w0.heap.size := hk; omega) f15.size)
 clear_value x15
 have ht : x15.heap[w0.heap.size]? = some (.cells ⟨tabC⟩ T.y_16_uint32 (0, 0)) := r15
 clear r0 r1 r2 r3 r4 r5 r6 r7 r8 r9 r10 r11 r12 r13 r14 r15
 have ht15 := (fr_below f16).heap hh id
 refine ⟨fun x n w' => w' = x15 ∧ ((n = 0 ∧ x = 4294967295) ∨ (n = 1 ∧ x = ((s.foldl crcB 4294967295 : Nat) : Int))), fun _ n _ => (1 - n).toNat, ⟨rfl, .inl ⟨rfl, rfl⟩⟩, ?_⟩
 rintro x n w2 ⟨rfl, ⟨rfl, rfl⟩ | ⟨rfl, rfl⟩⟩
 · refine ⟨fun _ => ?_, fun hf => by simp at hf⟩
   have hc : w2.cell? ((blk h).add ((0 : Int).toNat * 1)) = some (.string (tx s)) := by have := blk_cell ht15 0; simpa using this
   refine ⟨blk h, rfl, by decide, by show (0 : Int) < 1; decide, tx s, hc, ?_⟩
   rw [tx_size]
   refine ⟨fun x n w' => w' = w2 ∧ ∃ m : Nat, n = m ∧ m ≤ s.length ∧ x = (((s.take m).foldl crcB 4294967295 : Nat) : Int), fun _ n _ => (s.length - n).toNat, ⟨rfl, 0, rfl, Nat.zero_le _, rfl⟩, ?_⟩
   rintro x n w3 ⟨rfl, m, rfl, hm, rfl⟩
   refine ⟨fun hlt => ?_, fun hge => ?_⟩
   · have hlt : m < s.length := by have := of_decide_eq_true hlt; omega
     have e1 : w64 ((m : Int) + 1) = ((m + 1 : Nat) : Int) := by rw [w64_id (by omega) (by omega)]; omega
     have hx := crcF_lt (s.take m) (x := 4294967295) (by decide)
     generalize hX : (s.take m).foldl crcB 4294967295 = X at hx
     have hbt := s[m].toNat_lt
     have ea : wr .u32 (sAt (tx s) (m : Int)) = ((s[m].toNat : Nat) : Int) := by
       rw [tx_at]
       have : s.getD m 0 = s[m] := by simp [hlt]
       rw [this]
       exact wr32_id (by omega)
     have ex : bits .xor .u32 (X : Int) (((s[m].toNat : Nat) : Int)) = ((X ^^^ s[m].toNat : Nat) : Int) := u32_xor_nat _ _ hx (by omega)
     have hy : X ^^^ s[m].toNat < 4294967296 := Nat.xor_lt_two_pow (n := 32) hx (by omega)
     generalize hY : X ^^^ s[m].toNat = Y at ex hy
     have hy1 : step4 (Y % 16) < 4294967296 := step4_lt (by omega)
     have es : shr .u32 (Y : Int) 4 = ((Y / 16 : Nat) : Int) := shr32 Y 4 (by decide)
     have ez : bits .xor .u32 ((Y / 16 : Nat) : Int) ((step4 (Y % 16) : Nat) : Int) = (((Y / 16) ^^^ step4 (Y % 16) : Nat) : Int) := u32_xor_nat _ _ (by omega) hy1
     have hz : (Y / 16) ^^^ step4 (Y % 16) < 4294967296 := Nat.xor_lt_two_pow (n := 32) (by omega) hy1
     generalize hZ : (Y / 16) ^^^ step4 (Y % 16) = Z at ez hz
     have es2 : shr .u32 (Z : Int) 4 = ((Z / 16 : Nat) : Int) := shr32 Z 4 (by decide)
     have hz1 : step4 (Z % 16) < 4294967296 := step4_lt (by omega)
     have ez2 : bits .xor .u32 ((Z / 16 : Nat) : Int) ((step4 (Z % 16) : Nat) : Int) = (((Z / 16) ^^^ step4 (Z % 16) : Nat) : Int) := u32_xor_nat _ _ (by omega) hz1
     have hcr : crcB X s[m] = (Z / 16) ^^^ step4 (Z % 16) := by rw [crcB_eq, hY, hZ]
     rw [ea, ex, and15 _ hy]
     refine ⟨by omega, by omega, by decide, by omega, by omega, ((step4 (Y % 16) : Nat) : Int), ?_, by decide, ?_⟩
     · rw [Int.toNat_natCast, Nat.mul_one, blk_cell ht, tabC_get _ (by omega)]
     rw [es, ez, and15 _ hz]
     refine ⟨by omega, by omega, ((step4 (Z % 16) : Nat) : Int), ?_, ⟨rfl, m + 1, e1, hlt, ?_⟩, ?_⟩
     · rw [Int.toNat_natCast, Nat.mul_one, blk_cell ht, tabC_get _ (by omega)]
     · rw [es2, ez2, List.take_succ_eq_append_getElem hlt, List.foldl_append, hX]
       show _ = ((crcB X s[m] : Nat) : Int)
       rw [hcr]
     · show ((s.length : Int) - w64 ((m : Int) + 1)).toNat < ((s.length : Int) - (m : Int)).toNat
       rw [e1]; omega
   · have hmm : m = s.length := by have := of_decide_eq_false hge; omega
     subst hmm
     rw [List.take_length]
     have e1 : w64 ((0 : Int) + 1) = 1 := w64_id (by decide) (by decide)
     refine ⟨⟨rfl, .inr ⟨e1, rfl⟩⟩, ?_⟩
     show ((1 : Int) - w64 (0 + 1)).toNat < ((1 : Int) - 0).toNat
     rw [e1]; decide
 · refine ⟨fun ht => by simp at ht, fun _ => ?_⟩
   have ex : bits .xor .u32 ((s.foldl crcB 4294967295 : Nat) : Int) 4294967295 = ((crcL s : Nat) : Int) := u32_xor_nat _ _ (crcF_lt s (by decide)) (by decide)
   rw [ex]
   exact hR _ f16
end Go.Proofs.YtggachhkcmfijaaGreatDoor
