/- 'masonrylaw12.ChainSpoilt' returns true whatever the input, and leaves what it was handed as it was; the listed tables of Go's library are tied to the program's text. -/
import Derived.Test.YtmokmbhhnbcelaaGreatDoorCzc1
import Derived.Test.YtmokmbhhnbcelaaGreatDoorRows
import Derived.Test.YtmokmbhhnbcelaaGreatDoorCards
import Derived.Test.YtmokmbhhnbcelaaGreatDoorTie
import Derived.WalkKit
import Derived.ProofKit
import Derived.OpenShut
import Derived.Lay
import Derived.SevenTiedAt
set_option linter.unusedVariables false
namespace Go.Proofs.YtmokmbhhnbcelaaGreatDoor
namespace ChainSpoiltDoor
open Go.ChangeShapes Go.WideShapes Go.ChangeAt Go.RowKit Go.Vc
open Go.ChangeMaps (open_string shut_string)

theorem k2 : laidOutB Tryz.prog = true := by kernel_rfl
theorem k10 : (Rows.chainSpoiltRow.inPlace == Tryz.prog.inPlace 3) = true := by kernel_rfl
theorem k11 : (Rows.chainSpoiltRow.unfollowed == Tryz.prog.unfollowed 3) = true := by kernel_rfl
theorem k12 : (Rows.chainSpoiltRow.recurses == Tryz.prog.recurses 3) = true := by kernel_rfl
theorem k13 : (Rows.chainSpoiltRow.named == Tryz.prog.varsNamed 3) = true := by kernel_rfl
theorem closed : joinedFacts Tryz.prog 3 Tryz.f3 Rows.chainSpoiltSpec Rows.chainSpoiltRow = true := by
  unfold joinedFacts
  rw [k2, k10, k11, k12, k13]
  kernel_rfl
theorem inst : Tryz.f3.isInstance Tryz.prog Rows.chainSpoiltRow.origin Rows.chainSpoiltRow.targs := of_decide_eq_true (by kernel_rfl)
theorem wraps : Tryz.f3.isWrapper Tryz.prog Rows.chainSpoiltRow.wrapper Rows.chainSpoiltRow.mainSum := by unfold Func.isWrapper; first | (rw [if_pos (by decide +kernel)]; kernel_rfl) | (rw [if_neg (by decide +kernel)]; exact ⟨rfl, rfl⟩)
theorem fnamed : Tryz.prog.funcNamed Rows.chainSpoiltRow.func = some 3 := by kernel_rfl
theorem holds : Rows.ChainSpoiltSaid :=
  OpenClaim.holds_of_wide 3 Tryz.f3 rfl rfl rfl rfl rfl rfl rfl ⟨rfl, rfl, rfl, rfl, rfl⟩ rfl rfl rfl rfl rfl fnamed Tryz.func3 closed inst wraps
    (fun os started H enc _ => lifted os started H enc)

end ChainSpoiltDoor
end Go.Proofs.YtmokmbhhnbcelaaGreatDoor
