/- chain.Refs, whole. -/
import Derived.Test.YtmokmbhhnbcelaaGreatDoorCu
set_option linter.unusedVariables false
namespace Go.Proofs.YtmokmbhhnbcelaaGreatDoor
open Go Go.Vc Go.RowKit Go.Lib

section
variable {w : World} {X : List As} {k g c : Nat} {D : DkV}
end
end Go.Proofs.YtmokmbhhnbcelaaGreatDoor
