/- numbers in order, each once: sorting and compacting is the same as putting one by one. -/
import Derived.Test.YtmokmbhhnbcelaaGreatDoorHn
import Derived.Lib.SlicesCompact
set_option linter.unusedVariables false
namespace Go.Proofs.YtmokmbhhnbcelaaGreatDoor
open Go Go.Vc Go.RowKit Go.Lib

abbrev Up (l : List Int) : Prop := l.Pairwise fun a b => a < b

theorem up_ext : ∀ {a b : List Int}, Up a → Up b → (∀ x, x ∈ a ↔ x ∈ b) → a = b
  | [], [], _, _, _ => rfl
  | [], y :: b, _, _, h => by have := (h y).2 (by simp); simp at this
  | x :: a, [], _, _, h => by have := (h x).1 (by simp); simp at this
  | x :: a, y :: b, ha, hb, h => by
    obtain ⟨a1, a2⟩ := List.pairwise_cons.1 ha
    obtain ⟨b1, b2⟩ := List.pairwise_cons.1 hb
    have hxy : x = y := by
      have h1 := (h x).1 (by simp)
      have h2 := (h y).2 (by simp)
      rcases List.mem_cons.1 h1 with h1 | h1
      · exact h1
      · rcases List.mem_cons.1 h2 with h2 | h2
        · exact h2.symm
        · have := a1 y h2; have := b1 x h1; omega
    subst hxy
    have : a = b := up_ext a2 b2 fun z => ⟨fun hz => by
      rcases List.mem_cons.1 ((h z).1 (by simp [hz])) with h1 | h1
      · subst h1; have := a1 z hz; omega
      · exact h1, fun hz => by
      rcases List.mem_cons.1 ((h z).2 (by simp [hz])) with h1 | h1
      · subst h1; have := b1 z hz; omega
      · exact h1⟩
    rw [this]

theorem compactUpTo_up (zs : List Int) (h : zs.Pairwise fun a b => a ≤ b) : ∀ m, m ≤ zs.length →
    Up (compactUpTo zs.toArray m) ∧ (∀ x, x ∈ compactUpTo zs.toArray m ↔ x ∈ zs.take m)
  | 0, _ => by simp [compactUpTo]
  | m + 1, hm => by
    obtain ⟨h1, h2⟩ := compactUpTo_up zs h m (by omega)
    have hlt : m < zs.length := by omega
    have e : zs.toArray[m]! = zs[m] := by simp [hlt]
    have ord : ∀ i j, (hi : i < zs.length) → (hj : j < zs.length) → i < j → zs[i] ≤ zs[j] := fun i j hi hj hij => List.pairwise_iff_getElem.1 h i j hi hj hij
    rw [compactUpTo_succ, List.take_succ_eq_append_getElem hlt, e]
    by_cases hk : keeps zs.toArray m = true
    · rw [if_pos hk]
      refine ⟨List.pairwise_append.2 ⟨h1, List.pairwise_singleton _ _, fun a ha b hb => ?_⟩, fun x => by rw [List.mem_append, List.mem_append, h2]⟩
      rw [List.mem_singleton] at hb
      subst hb
      obtain ⟨i, hi, rfl⟩ := List.mem_iff_getElem.1 ((h2 a).1 ha)
      simp only [List.length_take] at hi
      rw [List.getElem_take]
      have hne : zs[m - 1]'(by omega) ≠ zs[m] := by
        have e2 : zs.toArray[m - 1]! = zs[m - 1]'(by omega) := by simp [show m - 1 < zs.length by omega]
        intro hc
        rw [keeps_neg (by omega) (by rw [e, e2, hc])] at hk
        cases hk
      have h3 := ord (m - 1) m (by omega) hlt (by omega)
      rcases Nat.lt_or_ge i (m - 1) with h4 | h4
      · have := ord i (m - 1) (by omega) (by omega) h4; omega
      · have : i = m - 1 := by omega
        subst this; omega
    · have hk' : keeps zs.toArray m = false := by simpa using hk
      rw [if_neg hk, List.append_nil]
      refine ⟨h1, fun x => ?_⟩
      rw [h2, List.mem_append, List.mem_singleton]
      refine ⟨.inl, ?_⟩
      rintro (hx | rfl)
      · exact hx
      · have hm0 : 0 < m := by
          rcases Nat.eq_zero_or_pos m with h0 | h0
          · subst h0; exact absurd (keeps_lt_one zs.toArray 0 (by decide)) hk
          · exact h0
        have e2 : zs.toArray[m - 1]! = zs[m - 1]'(by omega) := by simp [show m - 1 < zs.length by omega]
        have heq : zs[m] = zs[m - 1]'(by omega) := by
          by_cases hc : zs[m] = zs[m - 1]'(by omega)
          · exact hc
          · exact absurd (keeps_pos (d := zs.toArray) (m := m) (by rw [e, e2]; exact hc)) hk
        rw [heq, List.mem_iff_getElem]
        exact ⟨m - 1, by simp; omega, by rw [List.getElem_take]⟩

theorem compact_up {zs : List Int} (h : zs.Pairwise fun a b => a ≤ b) : Up (compact zs) ∧ ∀ x, x ∈ compact zs ↔ x ∈ zs := by
  obtain ⟨h1, h2⟩ := compactUpTo_up zs h zs.length (Nat.le_refl _)
  refine ⟨h1, fun x => ?_⟩
  have := h2 x
  rwa [List.take_length] at this

/-- the targets of the next head -/
def nextT (zs : List Int) : List Int := compact (zs.mergeSort fun x y => decide (x ≤ y))

theorem nextT_up (zs : List Int) : Up (nextT zs) ∧ ∀ x, x ∈ nextT zs ↔ x ∈ zs := by
  have hs : (zs.mergeSort fun x y => decide (x ≤ y)).Pairwise fun a b => a ≤ b := by
    have := List.pairwise_mergeSort (le := fun x y : Int => decide (x ≤ y)) (fun a b c h1 h2 => by simp only [decide_eq_true_eq] at *; omega) (fun a b => by simp only [Bool.or_eq_true, decide_eq_true_eq]; omega) zs
    exact this.imp fun h => by simpa using h
  obtain ⟨h1, h2⟩ := compact_up hs
  exact ⟨h1, fun x => by rw [nextT, h2, (List.mergeSort_perm zs _).mem_iff]⟩

theorem nextT_len (zs : List Int) : (nextT zs).length ≤ zs.length := by
  have h : ∀ m, (compactUpTo (zs.mergeSort fun x y => decide (x ≤ y)).toArray m).length ≤ m := by
    intro m
    unfold compactUpTo
    rw [List.length_map]
    have := List.length_filter_le (keeps (zs.mergeSort fun x y => decide (x ≤ y)).toArray) (List.range m)
    simpa using this
  have := h (zs.mergeSort fun x y => decide (x ≤ y)).length
  rw [List.length_mergeSort] at this
  simpa [nextT, compact] using this

end Go.Proofs.YtmokmbhhnbcelaaGreatDoor
