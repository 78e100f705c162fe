/- masonryref1.ReadNames: the same answer as table.Read. -/
import Derived.Test.YtepclihkniaieaaDoorRd
set_option linter.unusedVariables false
namespace Go.Proofs.YtepclihkniaieaaDoor
open Go Go.Vc Go.RowKit Go.Lib

theorem readNames_err {b : List UInt8} {n : Nat} {b1 : List UInt8} {e1 : Int} (h : lowIn 1 b 0 = ((n : Int), b1, e1)) (he : (namesIn n (b1, e1)).2.2 ≠ 0) : readNames b = ([], (namesIn n (b1, e1)).2.2) := by
  have e2 : endIn (namesIn n (b1, e1)).2.1 (namesIn n (b1, e1)).2.2 = (namesIn n (b1, e1)).2.2 := by simp [endIn, he]
  simp only [readNames, h, Int.toNat_natCast, e2]
  rw [if_pos he]

/-- where all was read without an error, what is left is told by comparing -/
theorem readNames_ok {b : List UInt8} {n : Nat} {b1 : List UInt8} {e1 : Int} (h : lowIn 1 b 0 = ((n : Int), b1, e1)) (he : (namesIn n (b1, e1)).2.2 = 0) :
    readNames b = if (layNames (namesIn n (b1, e1)).1).2 ≠ 0 then ([], 6) else if (layNames (namesIn n (b1, e1)).1).1 ≠ b then ([], 6) else ((namesIn n (b1, e1)).1, 0) := by
  obtain ⟨t1, t2⟩ := namesIn_took n (b1, e1) he
  have t2 : e1 = 0 := t2
  have h0 : (lowIn 1 b 0).2.2 = 0 := by rw [h]; exact t2
  have t3 := (lowIn_took (size := 1) (by decide) h0).1
  rw [h] at t3
  simp only at t3 t1
  simp only [readNames, h, Int.toNat_natCast, he]
  rcases endIn_cases (namesIn n (b1, e1)).2.1 with ⟨q1, q2⟩ | ⟨q1, q2⟩
  · rw [q2]; simp
  · rw [q2]
    rw [if_pos (by decide)]
    split
    · rfl
    · rename_i hl
      split
      · rfl
      · rename_i hb
        exfalso
        have hb : (layNames (namesIn n (b1, e1)).1).1 = b := by simpa using hb
        have hl : (layNames (namesIn n (b1, e1)).1).2 = 0 := by simpa using hl
        have hlen : (layNames (namesIn n (b1, e1)).1).1.length = 1 + ((namesIn n (b1, e1)).1.flatMap name1).length := by
          unfold layNames at hl ⊢
          split
          · rename_i h1
            rw [if_pos h1] at hl
            split
            · rename_i h2
              rw [if_pos h2] at hl; cases hl
            · rw [List.length_append, leBytes_len]
          · rename_i h1
            rw [if_neg h1] at hl; cases hl
        rw [hb] at hlen
        have : (namesIn n (b1, e1)).2.1 = [] := List.eq_nil_of_length_eq_zero (by omega)
        rw [this] at q1
        exact q1 rfl

end Go.Proofs.YtepclihkniaieaaDoor
