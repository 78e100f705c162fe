/- ChainSizes: the walk. -/
import Derived.Test.YtmokmbhhnbcelaaGreatDoorCq
set_option linter.unusedVariables false
namespace Go.Proofs.YtmokmbhhnbcelaaGreatDoor
open Go Go.Vc Go.RowKit Go.Lib

theorem giveL_get (bs : List Bool) {i : Nat} (hi : i < bs.length) (zs : List Int) : (giveL bs zs).getD i false = (bs.getD i false && decide ((i : Int) ∉ zs)) := by
  refine snoc_ind (P := fun zs => (giveL bs zs).getD i false = (bs.getD i false && decide ((i : Int) ∉ zs))) (by simp [giveL]) (fun l x ih => ?_) zs
  have hl := giveL_len bs l
  rw [giveL_app]
  by_cases hx : x = (i : Int)
  · have e : decide ((i : Int) ∉ l ++ [x]) = false := by simp [hx]
    rw [e, Bool.and_false]
    split
    · have : x.toNat = i := by omega
      rw [this]; simp [hl, hi]
    · rename_i hu
      simp only [usedB, Bool.and_eq_true, decide_eq_true_eq, not_and, Bool.not_eq_true] at hu
      have := hu (by omega) (by omega)
      have e2 : x.toNat = i := by omega
      rw [e2] at this; exact this
  · have e : decide ((i : Int) ∉ l ++ [x]) = decide ((i : Int) ∉ l) := by
      have : ¬ (i : Int) = x := fun h => hx h.symm
      simp [this]
    rw [e]
    split
    · rename_i hu
      simp only [usedB, Bool.and_eq_true, decide_eq_true_eq] at hu
      have : x.toNat ≠ i := by omega
      rw [← ih]
      simp only [List.getD_eq_getElem?_getD]
      rw [List.getElem?_set_ne this]
    · exact ih

theorem place_ok {D : DkV} {n : Nat} (hn : n ≤ freeN D.bs) (h0 : D.bs.getD 0 false = true) (h1 : D.bs.getD 1 false = true) {i : Nat} (hi : i < n) : 2 ≤ placeP D n i := by
  have h := (place_used hi hn).2
  have hr := (placeP_range D n i).1
  rcases Int.lt_or_le (placeP D n i) 2 with h2 | h2
  · have : (placeP D n i).toNat = 0 ∨ (placeP D n i).toNat = 1 := by omega
    rcases this with e | e <;> rw [e] at h
    · rw [h0] at h; cases h
    · rw [h1] at h; cases h
  · exact h2

section
variable {w : World} {X : List As}
theorem Ints.take {sl : Sl} {zs : List Int} (hT : Ints w sl zs) {m : Nat} (hm : m ≤ zs.length) (c : Nat) : Ints w ⟨sl.a, m, c⟩ (zs.take m) :=
  ⟨by simp [hm], fun j v hj => by
    rw [List.getElem?_take] at hj
    split at hj
    · exact hT.2 j v hj
    · cases hj⟩

end
end Go.Proofs.YtmokmbhhnbcelaaGreatDoor

/- chain.Refs, whole. -/
set_option linter.unusedVariables false
namespace Go.Proofs.YtmokmbhhnbcelaaGreatDoor
open Go Go.Vc Go.RowKit Go.Lib

section
variable {w : World} {X : List As} {k g c : Nat} {D : DkV}
end
end Go.Proofs.YtmokmbhhnbcelaaGreatDoor
