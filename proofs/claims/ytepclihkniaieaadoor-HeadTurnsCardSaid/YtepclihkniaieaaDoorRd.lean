/- masonryref1.ReadNames: the same answer as table.Read. -/
import Derived.Test.YtepclihkniaieaaDoorRc
set_option linter.unusedVariables false
namespace Go.Proofs.YtepclihkniaieaaDoor
open Go Go.Vc Go.RowKit Go.Lib

theorem rawIn_err {n : Int} {l : List UInt8} {e : Int} (h : e ≠ 0) : rawIn n l e = ([], l, e) := by simp [rawIn, h]
theorem lowIn_err {n : Nat} {l : List UInt8} {e : Int} (h : e ≠ 0) : lowIn n l e = (0, l, e) := by simp [lowIn, rawIn_err h, leVal]
theorem name1In_err {l : List UInt8} {e : Int} (h : e ≠ 0) : (name1In l e).2 = (l, e) := by simp [name1In, lowIn_err h, rawIn_err h]

/-- behind an error nothing turns -/
theorem namesIn_err {n m : Nat} {x : List UInt8 × Int} (h : (namesIn n x).2.2 ≠ 0) (hm : n ≤ m) : (namesIn m x).2 = (namesIn n x).2 := by
  induction m with
  | zero => have : n = 0 := by omega
            subst this; rfl
  | succ k ih =>
    rcases Nat.lt_or_ge k n with h' | h'
    · have : n = k + 1 := by omega
      subst this; rfl
    · have hk := ih h'
      have e1 : (namesIn (k + 1) x).2 = (name1In (namesIn k x).2.1 (namesIn k x).2.2).2 := rfl
      rw [e1, hk]
      exact name1In_err h

/-- how much a raw read takes -/
theorem rawIn_took {n : Int} {l : List UInt8} {e : Int} (h : (rawIn n l e).2.2 = 0) : (rawIn n l e).1.length + (rawIn n l e).2.1.length = l.length ∧ e = 0 ∧ ((rawIn n l e).1.length : Int) = n := by
  unfold rawIn at h ⊢
  split at h
  · rename_i he; exact absurd h he
  · rename_i he
    have he : e = 0 := by simpa using he
    rw [if_neg (by simp [he])]
    split at h
    · cases h
    · rename_i h1
      rw [if_neg h1]
      split at h
      · cases h
      · rename_i h2
        rw [if_neg h2]
        simp only [List.length_take, List.length_drop]
        omega

theorem lowIn_took {size : Nat} (hs : size ≤ 7) {l : List UInt8} {e : Int} (h : (lowIn size l e).2.2 = 0) : size + (lowIn size l e).2.1.length = l.length ∧ e = 0 := by
  have hlen := rawIn_len size l e
  have hlt := leVal_lt (rawIn size l e).1
  have h2 : 256 ^ (rawIn size l e).1.length ≤ 256 ^ 7 := Nat.pow_le_pow_right (by decide) (by omega)
  have h4 : (256 : Nat) ^ 7 = 72057594037927936 := by decide
  have el : lowIn size l e = ((leVal (rawIn size l e).1 : Int), (rawIn size l e).2.1, (rawIn size l e).2.2) := by simp only [lowIn]; rw [if_pos (by omega)]
  rw [el] at h ⊢
  obtain ⟨a1, a2, a3⟩ := rawIn_took h
  exact ⟨by simp only; omega, a2⟩

theorem name1In_took {l : List UInt8} {e : Int} (h : (name1In l e).2.2 = 0) : 3 + (name1In l e).1.1.length + (name1In l e).2.1.length = l.length ∧ e = 0 := by
  simp only [name1In] at h ⊢
  have h3 := lowIn_took (size := 2) (by decide) h
  have h2 := rawIn_took h3.2
  have h1 := lowIn_took (size := 1) (by decide) h2.2.1
  exact ⟨by omega, h1.2⟩

theorem namesIn_took : ∀ (n : Nat) (x : List UInt8 × Int), (namesIn n x).2.2 = 0 → ((namesIn n x).1.flatMap name1).length + (namesIn n x).2.1.length = x.1.length ∧ x.2 = 0
  | 0, x, h => ⟨by simp [namesIn], h⟩
  | n + 1, x, h => by
    have e1 : namesIn (n + 1) x = ((namesIn n x).1 ++ [(name1In (namesIn n x).2.1 (namesIn n x).2.2).1], (name1In (namesIn n x).2.1 (namesIn n x).2.2).2.1, (name1In (namesIn n x).2.1 (namesIn n x).2.2).2.2) := rfl
    rw [e1] at h ⊢
    have h1 := name1In_took h
    have h2 := namesIn_took n x h1.2
    refine ⟨?_, h2.2⟩
    rw [List.flatMap_append, List.length_append, List.flatMap_cons, List.flatMap_nil, List.append_nil]
    have hn : (name1 (name1In (namesIn n x).2.1 (namesIn n x).2.2).1).length = 3 + (name1In (namesIn n x).2.1 (namesIn n x).2.2).1.1.length := by
      simp only [name1, List.length_append, leBytes_len]; omega
    rw [hn]
    have := h1.1
    have := h2.1
    simp only
    omega

end Go.Proofs.YtepclihkniaieaaDoor
