/- 'masonrylaw16.BrickSpoilt' returns true whatever the input, and leaves what it was handed as it was; the listed tables of Go's library are tied to the program's text. -/
import Derived.Test.YtmokmbhhnbcelaaGreatDoorGkc1
import Derived.Test.YtmokmbhhnbcelaaGreatDoorRows
import Derived.Test.YtmokmbhhnbcelaaGreatDoorCards
import Derived.Test.YtmokmbhhnbcelaaGreatDoorTie
import Derived.WalkKit
import Derived.ProofKit
import Derived.OpenShut
import Derived.Lay
import Derived.SevenTiedAt
set_option linter.unusedVariables false
namespace Go.Proofs.YtmokmbhhnbcelaaGreatDoor
namespace BrickSpoiltDoor
open Go.ChangeShapes Go.WideShapes Go.ChangeAt Go.RowKit Go.Vc
open Go.ChangeMaps (open_string shut_string)

theorem k2 : laidOutB Tryz.prog = true := by kernel_rfl
theorem k10 : (Rows.brickSpoiltRow.inPlace == Tryz.prog.inPlace 12) = true := by kernel_rfl
theorem k11 : (Rows.brickSpoiltRow.unfollowed == Tryz.prog.unfollowed 12) = true := by kernel_rfl
theorem k12 : (Rows.brickSpoiltRow.recurses == Tryz.prog.recurses 12) = true := by kernel_rfl
theorem k13 : (Rows.brickSpoiltRow.named == Tryz.prog.varsNamed 12) = true := by kernel_rfl
theorem closed : joinedFacts Tryz.prog 12 Tryz.f12 Rows.brickSpoiltSpec Rows.brickSpoiltRow = true := by
  unfold joinedFacts
  rw [k2, k10, k11, k12, k13]
  kernel_rfl
theorem inst : Tryz.f12.isInstance Tryz.prog Rows.brickSpoiltRow.origin Rows.brickSpoiltRow.targs := of_decide_eq_true (by kernel_rfl)
theorem wraps : Tryz.f12.isWrapper Tryz.prog Rows.brickSpoiltRow.wrapper Rows.brickSpoiltRow.mainSum := by unfold Func.isWrapper; first | (rw [if_pos (by decide +kernel)]; kernel_rfl) | (rw [if_neg (by decide +kernel)]; exact ⟨rfl, rfl⟩)
theorem fnamed : Tryz.prog.funcNamed Rows.brickSpoiltRow.func = some 12 := by kernel_rfl
theorem holds : Rows.BrickSpoiltSaid :=
  OpenClaim.holds_of_wide 12 Tryz.f12 rfl rfl rfl rfl rfl rfl rfl ⟨rfl, rfl, rfl, rfl, rfl⟩ rfl rfl rfl rfl rfl fnamed Tryz.func12 closed inst wraps
    (fun os started H enc _ => lifted os started H enc)

end BrickSpoiltDoor
end Go.Proofs.YtmokmbhhnbcelaaGreatDoor
