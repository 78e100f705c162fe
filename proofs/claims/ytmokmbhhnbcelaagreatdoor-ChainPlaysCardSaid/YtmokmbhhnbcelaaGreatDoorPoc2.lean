/- 'masonrylaw12.ChainPlays' returns true whatever the input, and leaves what it was handed as it was; the listed tables of Go's library are tied to the program's text. -/
import Derived.Test.YtmokmbhhnbcelaaGreatDoorPoc1
import Derived.Test.YtmokmbhhnbcelaaGreatDoorRows
import Derived.Test.YtmokmbhhnbcelaaGreatDoorCards
import Derived.Test.YtmokmbhhnbcelaaGreatDoorTie
import Derived.WalkKit
import Derived.ProofKit
import Derived.OpenShut
import Derived.Lay
import Derived.SevenTiedAt
set_option linter.unusedVariables false
namespace Go.Proofs.YtmokmbhhnbcelaaGreatDoor
namespace ChainPlaysDoor
open Go.ChangeShapes Go.WideShapes Go.ChangeAt Go.RowKit Go.Vc
open Go.ChangeMaps (open_string shut_string)

theorem k2 : laidOutB Tryz.prog = true := by kernel_rfl
theorem k10 : (Rows.chainPlaysRow.inPlace == Tryz.prog.inPlace 11) = true := by kernel_rfl
theorem k11 : (Rows.chainPlaysRow.unfollowed == Tryz.prog.unfollowed 11) = true := by kernel_rfl
theorem k12 : (Rows.chainPlaysRow.recurses == Tryz.prog.recurses 11) = true := by kernel_rfl
theorem k13 : (Rows.chainPlaysRow.named == Tryz.prog.varsNamed 11) = true := by kernel_rfl
theorem closed : joinedFacts Tryz.prog 11 Tryz.f11 Rows.chainPlaysSpec Rows.chainPlaysRow = true := by
  unfold joinedFacts
  rw [k2, k10, k11, k12, k13]
  kernel_rfl
theorem inst : Tryz.f11.isInstance Tryz.prog Rows.chainPlaysRow.origin Rows.chainPlaysRow.targs := of_decide_eq_true (by kernel_rfl)
theorem wraps : Tryz.f11.isWrapper Tryz.prog Rows.chainPlaysRow.wrapper Rows.chainPlaysRow.mainSum := by unfold Func.isWrapper; first | (rw [if_pos (by decide +kernel)]; kernel_rfl) | (rw [if_neg (by decide +kernel)]; exact ⟨rfl, rfl⟩)
theorem fnamed : Tryz.prog.funcNamed Rows.chainPlaysRow.func = some 11 := by kernel_rfl
theorem holds : Rows.ChainPlaysSaid :=
  OpenClaim.holds_of_wide 11 Tryz.f11 rfl rfl rfl rfl rfl rfl rfl ⟨rfl, rfl, rfl, rfl, rfl⟩ rfl rfl rfl rfl rfl fnamed Tryz.func11 closed inst wraps
    (fun os started H enc _ => lifted os started H enc)

end ChainPlaysDoor
end Go.Proofs.YtmokmbhhnbcelaaGreatDoor
