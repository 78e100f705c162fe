/- masonryref1.In: reading, the document's own. -/
import Derived.Test.YtepclihkniaieaaDoorRb
set_option linter.unusedVariables false
namespace Go.Proofs.YtepclihkniaieaaDoor
open Go Go.Vc Go.RowKit Go.Lib

structure RefIn (w : World) (g : Nat) (l : List UInt8) (e : Int) : Prop where
  obj : w.heap[g]? = some (.cells ⟨[.string (tx l), .int .i64 e]⟩ T.y_masonryref1_In (0, 0))

theorem RefIn.keep {w w' : World} {g : Nat} {l : List UInt8} {e : Int} (h : RefIn w g l e) {S : Nat → Prop} (hf : Fr S w w') (hg : ¬ S g) : RefIn w' g l e := ⟨hf.heap h.obj hg⟩

theorem RefIn_Raw {w : World} {g : Nat} {l : List UInt8} {e : Int} (hI : RefIn w g l e) {n : Int} {R : ByteArray → World → Prop}
    (hR : ∀ w', RefIn w' g (rawIn n l e).2.1 (rawIn n l e).2.2 → Fr (· = g) w w' → R (tx (rawIn n l e).1) w') : F.masonryref1_In_Raw (some (blk g)) n w R := by
  apply E.masonryref1_In_Raw
  unfold V.masonryref1_In_Raw
  refine ⟨blk g, rfl, e, by rw [blk_cell hI.obj]; rfl, fun hne => ?_, fun heq => ?_⟩
  · have hne : e ≠ 0 := by simpa using hne
    have e1 : rawIn n l e = ([], l, e) := by simp [rawIn, hne]
    rw [e1] at hR
    exact hR w hI (Fr.refl _ _)
  have heq : e = 0 := by simpa using heq
  subst heq
  have set : ∀ u : Int, RefIn (w.setCell ((blk g).add 1) (.int .i64 u)) g l u := fun u => ⟨by have := blk_set hI.obj 1 (.int .i64 u); simpa using this⟩
  refine ⟨fun hneg => ?_, fun hpos => ?_⟩
  · have hneg : n < 0 := by simpa using hneg
    have e1 : rawIn n l 0 = ([], l, 1) := by simp [rawIn, hneg]
    rw [e1] at hR
    exact ⟨blk g, rfl, blk_wr hI.obj (by simp), hR _ (set 1) (fr_set w g 1 _)⟩
  have hpos : 0 ≤ n := by simpa using hpos
  refine ⟨blk g, rfl, tx l, by rw [blk_cell0 hI.obj]; rfl, fun hbig => ?_, fun hsm => ?_⟩
  · have hbig : (l.length : Int) < n := by simp only [tx_size, gt_iff_lt, decide_eq_true_eq] at hbig; exact hbig
    have e1 : rawIn n l 0 = ([], l, 5) := by simp [rawIn, hbig]; omega
    rw [e1] at hR
    exact ⟨blk g, rfl, blk_wr hI.obj (by simp), hR _ (set 5) (fr_set w g 1 _)⟩
  have hsm : n ≤ (l.length : Int) := by simp only [tx_size, gt_iff_lt, decide_eq_false_iff_not] at hsm; omega
  have e1 : rawIn n l 0 = (l.take n.toNat, l.drop n.toNat, 0) := by
    unfold rawIn
    rw [if_neg (by simp), if_neg (by omega), if_neg (by omega)]
  rw [e1] at hR
  refine ⟨blk g, rfl, tx l, by rw [blk_cell0 hI.obj]; rfl, hpos, by rw [tx_size]; exact hsm, blk g, rfl, tx l, by rw [blk_cell0 hI.obj]; rfl, hpos, by rw [tx_size]; exact hsm, blk g, rfl, blk_wr0 hI.obj (by simp), ?_⟩
  rw [tx_ext, tx_ext, tx_size]
  have e2 : List.take (n.toNat - 0) (List.drop 0 l) = l.take n.toNat := by simp
  have e3 : List.take (l.length - n.toNat) (List.drop n.toNat l) = l.drop n.toNat := List.take_of_length_le (by simp)
  rw [e2, e3]
  exact hR _ ⟨by have := blk_set0 hI.obj (.string (tx (l.drop n.toNat))); simpa using this⟩ (fr_set0 w g _)

theorem RefIn_Num {w : World} {g : Nat} {l : List UInt8} {e : Int} (hI : RefIn w g l e) {size : Nat} (hsz : size ≤ 7) {R : Int → World → Prop}
    (hR : ∀ w', RefIn w' g (lowIn size l e).2.1 (lowIn size l e).2.2 → Fr (· = g) w w' → R (lowIn size l e).1 w') : F.masonryref1_In_Num (some (blk g)) size w R := by
  apply E.masonryref1_In_Num
  unfold V.masonryref1_In_Num
  refine RefIn_Raw hI fun w1 hI1 hF1 => ?_
  have hlen := rawIn_len size l e
  have hlt := leVal_lt (rawIn size l e).1
  have h2 : 256 ^ (rawIn size l e).1.length ≤ 256 ^ 7 := Nat.pow_le_pow_right (by decide) (by omega)
  have h4 : (256 : Nat) ^ 7 = 72057594037927936 := by decide
  have el : lowIn size l e = ((leVal (rawIn size l e).1 : Int), (rawIn size l e).2.1, (rawIn size l e).2.2) := by simp only [lowIn]; rw [if_pos (by omega)]
  rw [el] at hR
  refine Num_spec (by omega) ⟨fun h => ?_, fun _ => ?_⟩
  · exfalso; have := of_decide_eq_true h; omega
  · rw [w64_id (by omega) (by omega)]
    exact hR w1 hI1 hF1

end Go.Proofs.YtepclihkniaieaaDoor
