/- lists of names in order: the plain law of a place, of setting, of cutting. -/
import Derived.Test.YtepclihkniaieaaDoorSd
set_option linter.unusedVariables false
namespace Go.Proofs.YtepclihkniaieaaDoor
open Go Go.Vc Go.RowKit Go.Lib

abbrev Nm := List UInt8 × Int

theorem less_lt : ∀ (x y : List UInt8), Op.bytesLess x y = decide (x < y)
  | x, [] => by cases x <;> simp [Op.bytesLess]
  | [], b :: y => by simp [Op.bytesLess]
  | a :: x, b :: y => by
    rw [Op.bytesLess, less_lt x y, Bool.eq_iff_iff]
    simp [List.cons_lt_cons_iff]

abbrev Sorted (ns : List Nm) : Prop := ns.Pairwise fun a b => a.1 < b.1

theorem nameP_false {ns : List Nm} {name : List UInt8} {i : Nat} (h : i < ns.length) : nameP ns name i = false ↔ ns[i].1 < name := by
  simp [nameP, h, less_lt]

theorem Sorted.at {ns : List Nm} (hs : Sorted ns) {i j : Nat} (hij : i < j) (hj : j < ns.length) : ns[i].1 < ns[j].1 := List.pairwise_iff_getElem.1 hs i j (by omega) hj hij

theorem found_lo {ns : List Nm} (hs : Sorted ns) {name : List UInt8} {k : Nat} (hf : Found (nameP ns name) ns.length k) {i : Nat} (hi : i < k) (hl : i < ns.length) : ns[i].1 < name := by
  obtain ⟨hk, h1, _⟩ := hf
  have h1 := h1.resolve_left (by omega)
  have hk1 : k - 1 < ns.length := by omega
  have h2 := (nameP_false hk1).1 h1
  rcases Nat.lt_or_ge i (k - 1) with h | h
  · exact List.lt_trans (hs.at h hk1) h2
  · have : i = k - 1 := by omega
    subst this; exact h2

theorem found_hi {ns : List Nm} (hs : Sorted ns) {name : List UInt8} {k : Nat} (hf : Found (nameP ns name) ns.length k) {i : Nat} (hi : k ≤ i) (hl : i < ns.length) : ¬ ns[i].1 < name := by
  obtain ⟨hk, _, h1⟩ := hf
  have h1 := h1.resolve_left (by omega)
  have hkl : k < ns.length := by omega
  have h2 : ¬ ns[k].1 < name := fun h => by
    have := (nameP_false (ns := ns) (name := name) hkl).2 h
    rw [h1] at this; cases this
  rcases Nat.lt_or_ge k i with h | h
  · exact fun h' => h2 (List.lt_trans (hs.at h hl) h')
  · have : i = k := by omega
    subst this; exact h2

/-- who is there stands at the place that is found -/
theorem found_mem {ns : List Nm} (hs : Sorted ns) {name : List UInt8} {k : Nat} (hf : Found (nameP ns name) ns.length k) {e : Nm} (he : e ∈ ns) (hn : e.1 = name) : k < ns.length ∧ ns[k]? = some e := by
  obtain ⟨i, hi, rfl⟩ := List.mem_iff_getElem.1 he
  have h1 : ¬ i < k := fun h => by
    have := found_lo hs hf h hi
    rw [hn] at this; exact List.lt_irrefl _ this
  have h2 : ¬ k < i := fun h => by
    have h3 := found_hi hs hf (Nat.le_refl k) (by omega)
    have h4 := hs.at h hi
    rw [hn] at h4; exact h3 h4
  have : i = k := by omega
  subst this
  exact ⟨hi, by simp [hi]⟩

theorem lt_of_not : ∀ {a b : List UInt8}, ¬ a < b → a ≠ b → b < a
  | [], [], _, h => absurd rfl h
  | [], y :: b, h, _ => absurd (by simp) h
  | x :: a, [], _, _ => by simp
  | x :: a, y :: b, h, hne => by
    rw [List.cons_lt_cons_iff] at h ⊢
    by_cases h1 : y < x
    · exact .inl h1
    · have h2 : ¬ x < y := fun hh => h (.inl hh)
      have h3 : x = y := by
        apply UInt8.toNat.inj
        rw [UInt8.lt_iff_toNat_lt] at h1 h2
        omega
      subst h3
      exact .inr ⟨rfl, lt_of_not (fun hh => h (.inr ⟨rfl, hh⟩)) (fun hh => hne (by rw [hh]))⟩

theorem setAt_mem {ns : List Nm} {n : Nm} {k : Nat} (hk : k ≤ ns.length) : n ∈ setAt ns n k := by
  unfold setAt
  split
  · rename_i h; exact List.mem_set h.1 n
  · simp

theorem setAt_keep {ns : List Nm} {n e : Nm} {k : Nat} (he : e ∈ ns) (hne : e.1 ≠ n.1) : e ∈ setAt ns n k := by
  unfold setAt
  split
  · rename_i h
    obtain ⟨i, hi, rfl⟩ := List.mem_iff_getElem.1 he
    have hik : k ≠ i := fun hh => by
      subst hh
      have h2 : (ns.getD k ([], 0)).1 = ns[k].1 := by simp [hi]
      exact hne (h2 ▸ h.2)
    rw [List.mem_iff_getElem]
    exact ⟨i, by simpa using hi, by simp [List.getElem_set, hik]⟩
  · have h1 : e ∈ ns.take k ++ ns.drop k := by rw [List.take_append_drop]; exact he
    rcases List.mem_append.1 h1 with h | h
    · simp [h]
    · simp [h]

theorem setAt_sorted {ns : List Nm} (hs : Sorted ns) {n : Nm} {k : Nat} (hf : Found (nameP ns n.1) ns.length k) : Sorted (setAt ns n k) := by
  unfold setAt
  split
  · rename_i h
    obtain ⟨hk, he⟩ := h
    have he : ns[k].1 = n.1 := by simpa [hk] using he
    refine List.pairwise_iff_getElem.2 fun i j hi hj hij => ?_
    simp only [List.length_set] at hi hj
    have h1 := hs.at hij hj
    rw [List.getElem_set, List.getElem_set]
    by_cases hik : k = i
    · by_cases hjk : k = j
      · omega
      · rw [if_pos hik, if_neg hjk, ← he]; subst hik; exact h1
    · by_cases hjk : k = j
      · rw [if_neg hik, if_pos hjk, ← he]; subst hjk; exact h1
      · rw [if_neg hik, if_neg hjk]; exact h1
  · rename_i h
    have hlo : ∀ a ∈ ns.take k, a.1 < n.1 := fun a ha => by
      obtain ⟨i, hi, rfl⟩ := List.mem_iff_getElem.1 ha
      simp only [List.length_take] at hi
      rw [List.getElem_take]
      exact found_lo hs hf (by omega) (by omega)
    have hhi : ∀ a ∈ ns.drop k, n.1 < a.1 := fun a ha => by
      obtain ⟨i, hi, rfl⟩ := List.mem_iff_getElem.1 ha
      simp only [List.length_drop] at hi
      rw [List.getElem_drop]
      have hk : k < ns.length := by omega
      have h1 := found_hi hs hf (Nat.le_refl k) hk
      have h2 : ns[k].1 ≠ n.1 := fun hh => h ⟨hk, by simpa [hk] using hh⟩
      have h3 := lt_of_not h1 h2
      rcases Nat.eq_zero_or_pos i with h4 | h4
      · subst h4; exact h3
      · exact List.lt_trans h3 (hs.at (by omega) (by omega))
    have hsp : Sorted (ns.take k ++ ns.drop k) := by rw [List.take_append_drop]; exact hs
    obtain ⟨s1, s2, s3⟩ := List.pairwise_append.1 hsp
    refine List.pairwise_append.2 ⟨List.pairwise_append.2 ⟨s1, List.pairwise_singleton _ _, fun a ha b hb => ?_⟩, s2, fun a ha b hb => ?_⟩
    · rw [List.mem_singleton] at hb; subst hb; exact hlo a ha
    · rcases List.mem_append.1 ha with h' | h'
      · exact s3 a h' b hb
      · rw [List.mem_singleton] at h'; subst h'; exact hhi b hb

theorem setAt_len {ns : List Nm} {n : Nm} {k : Nat} (hk : k ≤ ns.length) : (setAt ns n k).length ≤ ns.length + 1 := by
  unfold setAt
  split
  · simp
  · simp; omega

theorem setAt_from {ns : List Nm} {n e : Nm} {k : Nat} (he : e ∈ setAt ns n k) : e = n ∨ e ∈ ns := by
  unfold setAt at he
  split at he
  · exact (List.mem_or_eq_of_mem_set he).symm
  · rcases List.mem_append.1 he with h | h
    · rcases List.mem_append.1 h with h | h
      · exact .inr (List.mem_of_mem_take h)
      · exact .inl (List.mem_singleton.1 h)
    · exact .inr (List.mem_of_mem_drop h)

end Go.Proofs.YtepclihkniaieaaDoor
