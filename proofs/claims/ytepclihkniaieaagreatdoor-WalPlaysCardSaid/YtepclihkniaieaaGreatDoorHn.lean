/- the sum of bytes by halves of bytes: four shifts at once are a look into a table. -/
import Derived.Test.YtepclihkniaieaaGreatDoorHm
set_option linter.unusedVariables false
namespace Go.Proofs.YtepclihkniaieaaGreatDoor
open Go Go.Vc Go.RowKit Go.Lib

theorem step_xor (a b : Nat) : step (2 * a ^^^ b) = a ^^^ step b := by
  have h1 : (2 * a ^^^ b) % 2 = b % 2 := by
    have h := Nat.xor_mod_two_pow (a := 2 * a) (b := b) (n := 1)
    rw [Nat.pow_one, Nat.mul_mod_right, Nat.zero_xor] at h
    exact h
  have h2 : (2 * a ^^^ b) / 2 = a ^^^ b / 2 := by
    have h := Nat.xor_div_two_pow (a := 2 * a) (b := b) (n := 1)
    rw [Nat.pow_one] at h
    rw [h]; congr 1; omega
  unfold step
  rw [h1, h2]
  split
  · rw [Nat.xor_assoc]
  · rfl

theorem split16 (x : Nat) : (2 * (2 * (2 * (2 * (x / 16))))) ^^^ (x % 16) = x := by
  have e1 : 2 * (2 * (2 * (2 * (x / 16)))) = (x >>> 4) <<< 4 := by rw [Nat.shiftLeft_eq, Nat.shiftRight_eq_div_pow]; omega
  have e2 : x % 16 = x % 2 ^ 4 := rfl
  rw [e1, e2]
  apply Nat.eq_of_testBit_eq
  intro i
  rw [Nat.testBit_xor, Nat.testBit_mod_two_pow, Nat.testBit_shiftLeft, Nat.testBit_shiftRight]
  by_cases h : i < 4
  · have h' : ¬ i ≥ 4 := by omega
    simp [h, h']
  · have h' : i ≥ 4 := by omega
    have e : 4 + (i - 4) = i := by omega
    simp [h, h', e]

theorem step4_split (x : Nat) : step4 x = (x / 16) ^^^ step4 (x % 16) := by
  have h : step4 x = step4 ((2 * (2 * (2 * (2 * (x / 16))))) ^^^ (x % 16)) := by rw [split16]
  rw [h]
  unfold step4
  rw [step_xor, step_xor, step_xor, step_xor]

end Go.Proofs.YtepclihkniaieaaGreatDoor
