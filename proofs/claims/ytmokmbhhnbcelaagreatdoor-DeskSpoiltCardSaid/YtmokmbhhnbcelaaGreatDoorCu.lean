/- chain: calls on a chain that is there; masonrylaw12.Fresh, alive. -/
import Derived.Test.YtmokmbhhnbcelaaGreatDoorCp
import Derived.Test.YtmokmbhhnbcelaaGreatDoorSs
set_option linter.unusedVariables false
namespace Go.Proofs.YtmokmbhhnbcelaaGreatDoor
open Go Go.Vc Go.RowKit Go.Lib

theorem put_has {D : DkV} {gen tag : Int} {b : Bs} (hf : needN b.length ≤ freeN D.bs) : HasC (putS D gen tag b (needN b.length) (needN b.length)).1 (linkP D gen tag b (needN b.length)) (placeP D (needN b.length)) (needN b.length) :=
  fun i hi => (putS_get (needN b.length) (Nat.le_refl _) hf).1 i (by omega) hi
theorem put_else {D : DkV} {gen tag : Int} {b : Bs} (hf : needN b.length ≤ freeN D.bs) {a : Int} (ha : ∀ i, i < needN b.length → placeP D (needN b.length) i ≠ a) : getE (putS D gen tag b (needN b.length) (needN b.length)).1 a = getE D a ∧ getD (putS D gen tag b (needN b.length) (needN b.length)).1 a = getD D a :=
  (putS_get (needN b.length) (Nat.le_refl _) hf).2 a fun i _ hi => ha i hi
theorem dataOf_put {D : DkV} {gen tag : Int} {b : Bs} (hb : b.length ≤ 9440) {n : Nat} : dataOf ((List.range (needN b.length)).map (linkP D gen tag b n)) = b := by
  have : (List.range (needN b.length)).map (fun i => (linkP D gen tag b n i).data) = (List.range (needN b.length)).map (partB b) := rfl
  unfold dataOf
  rw [List.map_map]
  show ((List.range (needN b.length)).map (fun i => (linkP D gen tag b n i).data)).flatten = b
  rw [this, partB_whole hb]
/-- the places that Put takes are in use behind it, and were free -/
theorem place_used {D : DkV} {n i : Nat} (hi : i < n) (hn : n ≤ freeN D.bs) : usedB (takeN D.bs n) (placeP D n i) = true ∧ D.bs.getD (placeP D n i).toNat false = false := by
  unfold placeP
  rw [if_pos hi]
  have h1 := take_lt (bs := D.bs) (j := n - 1 - i) (by omega)
  have h2 := (take_get D.bs n _ h1).2 (.inr ⟨n - 1 - i, by omega, rfl⟩)
  refine ⟨?_, ?_⟩
  · unfold usedB
    rw [takeN_len, decide_eq_true (by omega), decide_eq_true (by omega), Int.toNat_natCast, h2]; rfl
  · rw [Int.toNat_natCast]; exact take_was (by omega)

section
variable {w : World} {X : List As} {k g c : Nat} {D : DkV} {n : Nat} {L : Nat → Lk} {P : Nat → Int}
end
end Go.Proofs.YtmokmbhhnbcelaaGreatDoor

/- ChainSizes: the walk. -/
set_option linter.unusedVariables false
namespace Go.Proofs.YtmokmbhhnbcelaaGreatDoor
open Go Go.Vc Go.RowKit Go.Lib

theorem giveL_get (bs : List Bool) {i : Nat} (hi : i < bs.length) (zs : List Int) : (giveL bs zs).getD i false = (bs.getD i false && decide ((i : Int) ∉ zs)) := by
  refine snoc_ind (P := fun zs => (giveL bs zs).getD i false = (bs.getD i false && decide ((i : Int) ∉ zs))) (by simp [giveL]) (fun l x ih => ?_) zs
  have hl := giveL_len bs l
  rw [giveL_app]
  by_cases hx : x = (i : Int)
  · have e : decide ((i : Int) ∉ l ++ [x]) = false := by simp [hx]
    rw [e, Bool.and_false]
    split
    · have : x.toNat = i := by omega
      rw [this]; simp [hl, hi]
    · rename_i hu
      simp only [usedB, Bool.and_eq_true, decide_eq_true_eq, not_and, Bool.not_eq_true] at hu
      have := hu (by omega) (by omega)
      have e2 : x.toNat = i := by omega
      rw [e2] at this; exact this
  · have e : decide ((i : Int) ∉ l ++ [x]) = decide ((i : Int) ∉ l) := by
      have : ¬ (i : Int) = x := fun h => hx h.symm
      simp [this]
    rw [e]
    split
    · rename_i hu
      simp only [usedB, Bool.and_eq_true, decide_eq_true_eq] at hu
      have : x.toNat ≠ i := by omega
      rw [← ih]
      simp only [List.getD_eq_getElem?_getD]
      rw [List.getElem?_set_ne this]
    · exact ih

theorem place_ok {D : DkV} {n : Nat} (hn : n ≤ freeN D.bs) (h0 : D.bs.getD 0 false = true) (h1 : D.bs.getD 1 false = true) {i : Nat} (hi : i < n) : 2 ≤ placeP D n i := by
  have h := (place_used hi hn).2
  have hr := (placeP_range D n i).1
  rcases Int.lt_or_le (placeP D n i) 2 with h2 | h2
  · have : (placeP D n i).toNat = 0 ∨ (placeP D n i).toNat = 1 := by omega
    rcases this with e | e <;> rw [e] at h
    · rw [h0] at h; cases h
    · rw [h1] at h; cases h
  · exact h2

section
variable {w : World} {X : List As}
theorem Ints.take {sl : Sl} {zs : List Int} (hT : Ints w sl zs) {m : Nat} (hm : m ≤ zs.length) (c : Nat) : Ints w ⟨sl.a, m, c⟩ (zs.take m) :=
  ⟨by simp [hm], fun j v hj => by
    rw [List.getElem?_take] at hj
    split at hj
    · exact hT.2 j v hj
    · cases hj⟩

end
end Go.Proofs.YtmokmbhhnbcelaaGreatDoor
