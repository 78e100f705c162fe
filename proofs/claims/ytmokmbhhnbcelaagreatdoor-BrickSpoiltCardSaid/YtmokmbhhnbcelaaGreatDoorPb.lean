/- plan: which pieces of a range; in plain words. -/
import Derived.Test.YtmokmbhhnbcelaaGreatDoorSq
set_option linter.unusedVariables false
namespace Go.Proofs.YtmokmbhhnbcelaaGreatDoor
open Go Go.Vc Go.RowKit Go.Lib

/-- a piece: where, how long -/
abbrev Pc := Int × Int
structure CutV where
  at_ : Int
  out : List Pc
  ahead : Int
  behind : Int
def LenOk (l : List Pc) : Prop := ∀ p ∈ l, 1 ≤ p.2 ∧ p.2 ≤ 128

theorem LenOk.app {a b : List Pc} (h : LenOk (a ++ b)) : LenOk a ∧ LenOk b := ⟨fun p hp => h p (List.mem_append.2 (.inl hp)), fun p hp => h p (List.mem_append.2 (.inr hp))⟩

end Go.Proofs.YtmokmbhhnbcelaaGreatDoor

/- plan: pieces as bytes, and back; in plain words. -/
set_option linter.unusedVariables false
namespace Go.Proofs.YtmokmbhhnbcelaaGreatDoor
open Go Go.Vc Go.RowKit Go.Lib

end Go.Proofs.YtmokmbhhnbcelaaGreatDoor
