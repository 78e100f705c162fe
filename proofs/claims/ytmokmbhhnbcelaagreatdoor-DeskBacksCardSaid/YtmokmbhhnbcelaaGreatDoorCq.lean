/- chain: Need, Put, Sectors, Get, Refs, Drop. -/
import Derived.Test.YtmokmbhhnbcelaaGreatDoorCo
import Derived.Test.YtmokmbhhnbcelaaGreatDoorShelh
set_option linter.unusedVariables false
namespace Go.Proofs.YtmokmbhhnbcelaaGreatDoor
open Go Go.Vc Go.RowKit Go.Lib

section
variable {w : World} {X : List As} {k g c : Nat} {D : DkV}
theorem placeP_range (D : DkV) (n i : Nat) : 0 ≤ placeP D n i ∧ placeP D n i ≤ D.bs.length := by
  unfold placeP
  split
  · have : freeAt (takeN D.bs (n - 1 - i)) ≤ (takeN D.bs (n - 1 - i)).length := List.findIdx_le_length
    rw [takeN_len] at this
    omega
  · omega

def dataOf (xs : List Lk) : Bs := (xs.map (·.data)).flatten
end
end Go.Proofs.YtmokmbhhnbcelaaGreatDoor

/- chain: calls on a chain that is there; masonrylaw12.Fresh, alive. -/
set_option linter.unusedVariables false
namespace Go.Proofs.YtmokmbhhnbcelaaGreatDoor
open Go Go.Vc Go.RowKit Go.Lib

theorem put_has {D : DkV} {gen tag : Int} {b : Bs} (hf : needN b.length ≤ freeN D.bs) : HasC (putS D gen tag b (needN b.length) (needN b.length)).1 (linkP D gen tag b (needN b.length)) (placeP D (needN b.length)) (needN b.length) :=
  fun i hi => (putS_get (needN b.length) (Nat.le_refl _) hf).1 i (by omega) hi
theorem put_else {D : DkV} {gen tag : Int} {b : Bs} (hf : needN b.length ≤ freeN D.bs) {a : Int} (ha : ∀ i, i < needN b.length → placeP D (needN b.length) i ≠ a) : getE (putS D gen tag b (needN b.length) (needN b.length)).1 a = getE D a ∧ getD (putS D gen tag b (needN b.length) (needN b.length)).1 a = getD D a :=
  (putS_get (needN b.length) (Nat.le_refl _) hf).2 a fun i _ hi => ha i hi
theorem dataOf_put {D : DkV} {gen tag : Int} {b : Bs} (hb : b.length ≤ 9440) {n : Nat} : dataOf ((List.range (needN b.length)).map (linkP D gen tag b n)) = b := by
  have : (List.range (needN b.length)).map (fun i => (linkP D gen tag b n i).data) = (List.range (needN b.length)).map (partB b) := rfl
  unfold dataOf
  rw [List.map_map]
  show ((List.range (needN b.length)).map (fun i => (linkP D gen tag b n i).data)).flatten = b
  rw [this, partB_whole hb]
/-- the places that Put takes are in use behind it, and were free -/
theorem place_used {D : DkV} {n i : Nat} (hi : i < n) (hn : n ≤ freeN D.bs) : usedB (takeN D.bs n) (placeP D n i) = true ∧ D.bs.getD (placeP D n i).toNat false = false := by
  unfold placeP
  rw [if_pos hi]
  have h1 := take_lt (bs := D.bs) (j := n - 1 - i) (by omega)
  have h2 := (take_get D.bs n _ h1).2 (.inr ⟨n - 1 - i, by omega, rfl⟩)
  refine ⟨?_, ?_⟩
  · unfold usedB
    rw [takeN_len, decide_eq_true (by omega), decide_eq_true (by omega), Int.toNat_natCast, h2]; rfl
  · rw [Int.toNat_natCast]; exact take_was (by omega)

section
variable {w : World} {X : List As} {k g c : Nat} {D : DkV} {n : Nat} {L : Nat → Lk} {P : Nat → Int}
end
end Go.Proofs.YtmokmbhhnbcelaaGreatDoor
