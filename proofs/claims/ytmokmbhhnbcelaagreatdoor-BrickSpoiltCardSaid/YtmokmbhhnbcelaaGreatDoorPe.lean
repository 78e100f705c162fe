/- plan: Size, Cut, may; masonrybook.SamePieces. -/
import Derived.Test.YtmokmbhhnbcelaaGreatDoorPb
set_option linter.unusedVariables false
namespace Go.Proofs.YtmokmbhhnbcelaaGreatDoor
open Go Go.Vc Go.RowKit Go.Lib

theorem LenOk.take {l : List Pc} (h : LenOk l) (m : Nat) : LenOk (l.take m) := fun p hp => h p (List.mem_of_mem_take hp)

section
variable {w : World} {X : List As}
end
end Go.Proofs.YtmokmbhhnbcelaaGreatDoor

/- plan: may; masonrybook.SamePieces. -/
set_option linter.unusedVariables false
namespace Go.Proofs.YtmokmbhhnbcelaaGreatDoor
open Go Go.Vc Go.RowKit Go.Lib

section
variable {w : World} {X : List As}
end
end Go.Proofs.YtmokmbhhnbcelaaGreatDoor
