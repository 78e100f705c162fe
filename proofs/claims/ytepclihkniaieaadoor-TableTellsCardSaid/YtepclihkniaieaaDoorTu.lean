/- names in order: what table.Lay takes is in order; the place that a loop finds; what is set at a place. -/
import Derived.Test.YtepclihkniaieaaDoorSu
set_option linter.unusedVariables false
namespace Go.Proofs.YtepclihkniaieaaDoor
open Go Go.Vc Go.RowKit Go.Lib

theorem sorted_adj {ns : List Nm} (h : ∀ j, (hj : j + 1 < ns.length) → ns[j].1 < ns[j + 1].1) : Sorted ns := by
  refine List.pairwise_iff_getElem.2 fun i j hi hj hij => ?_
  induction j with
  | zero => omega
  | succ j ih =>
    rcases Nat.lt_succ_iff_lt_or_eq.1 hij with h1 | h1
    · exact List.lt_trans (ih (by omega) h1) (h j hj)
    · subst h1; exact h i hj

theorem sorted_lay {ns : List Nm} (h : (layNames ns).2 = 0) : Sorted ns := by
  have hall : (List.range ns.length).all (okAt ns) = true := by
    unfold layNames at h
    split at h
    · assumption
    · simp at h
  refine sorted_adj fun j hj => ?_
  have h1 := List.all_eq_true.1 hall (j + 1) (List.mem_range.2 hj)
  have e : ns[j + 1]? = some ns[j + 1] := by simp [hj]
  have e0 : (ns.getD j ([], 0)).1 = ns[j].1 := by simp [show j < ns.length by omega]
  unfold okAt at h1
  rw [e] at h1
  simp only [Bool.and_eq_true, Bool.or_eq_true, decide_eq_true_eq, Bool.not_eq_true', Bool.or_eq_false_iff, decide_eq_false_iff_not, Nat.add_sub_cancel, e0, less_lt] at h1
  rcases h1.2.2.2 with h2 | h2
  · omega
  · exact lt_of_not h2.1 h2.2

theorem found_loop {ns : List Nm} (hs : Sorted ns) {name : List UInt8} {k k' : Nat} (hk : k ≤ ns.length) (hlo : ∀ i, (hi : i < ns.length) → i < k → ns[i].1 < name) (hhi : ∀ h : k < ns.length, ¬ ns[k].1 < name) (hf : Found (nameP ns name) ns.length k') : k' = k := by
  rcases Nat.lt_trichotomy k' k with h | h | h
  · have h2 : k' < ns.length := by omega
    exact absurd (hlo k' h2 h) (found_hi hs hf (Nat.le_refl _) h2)
  · exact h
  · have h2 : k < ns.length := by have := hf.1; omega
    exact absurd (found_lo hs hf h h2) (hhi h2)

theorem setAt_is {ns : List Nm} {n : Nm} {k : Nat} (hk : k < ns.length) (he : ns[k].1 = n.1) : setAt ns n k = ns.take k ++ [n] ++ ns.drop (k + 1) := by
  unfold setAt
  rw [if_pos ⟨hk, by simpa [hk] using he⟩, List.set_eq_take_append_cons_drop, if_pos hk]
  simp

theorem setAt_not {ns : List Nm} {n : Nm} {k : Nat} (h : ∀ hk : k < ns.length, ns[k].1 ≠ n.1) : setAt ns n k = ns.take k ++ [n] ++ ns.drop k := by
  unfold setAt
  rw [if_neg]
  rintro ⟨hk, he⟩
  exact h hk (by simpa [hk] using he)

end Go.Proofs.YtepclihkniaieaaDoor
