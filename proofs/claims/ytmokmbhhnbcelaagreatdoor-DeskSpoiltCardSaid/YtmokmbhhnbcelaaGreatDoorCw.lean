/- chain.Refs, whole. -/
import Derived.Test.YtmokmbhhnbcelaaGreatDoorCu
import Derived.Test.YtmokmbhhnbcelaaGreatDoorSq
set_option linter.unusedVariables false
namespace Go.Proofs.YtmokmbhhnbcelaaGreatDoor
open Go Go.Vc Go.RowKit Go.Lib

section
variable {w : World} {X : List As} {k g c : Nat} {D : DkV}
end
end Go.Proofs.YtmokmbhhnbcelaaGreatDoor

/- crc: one byte that is another one is found. -/
set_option linter.unusedVariables false
namespace Go.Proofs.YtmokmbhhnbcelaaGreatDoor
open Go Go.Vc Go.RowKit Go.Lib

end Go.Proofs.YtmokmbhhnbcelaaGreatDoor
