/- 'masonrylaw20.PlanSpoilt' returns true whatever the input, and leaves what it was handed as it was; the listed tables of Go's library are tied to the program's text. -/
import Derived.Test.YtmokmbhhnbcelaaGreatDoorPqc1
import Derived.Test.YtmokmbhhnbcelaaGreatDoorRows
import Derived.Test.YtmokmbhhnbcelaaGreatDoorCards
import Derived.Test.YtmokmbhhnbcelaaGreatDoorTie
import Derived.WalkKit
import Derived.ProofKit
import Derived.OpenShut
import Derived.Lay
import Derived.SevenTiedAt
set_option linter.unusedVariables false
namespace Go.Proofs.YtmokmbhhnbcelaaGreatDoor
namespace PlanSpoiltDoor
open Go.ChangeShapes Go.WideShapes Go.ChangeAt Go.RowKit Go.Vc
open Go.ChangeMaps (open_string shut_string)

theorem k2 : laidOutB Tryz.prog = true := by kernel_rfl
theorem k10 : (Rows.planSpoiltRow.inPlace == Tryz.prog.inPlace 6) = true := by kernel_rfl
theorem k11 : (Rows.planSpoiltRow.unfollowed == Tryz.prog.unfollowed 6) = true := by kernel_rfl
theorem k12 : (Rows.planSpoiltRow.recurses == Tryz.prog.recurses 6) = true := by kernel_rfl
theorem k13 : (Rows.planSpoiltRow.named == Tryz.prog.varsNamed 6) = true := by kernel_rfl
theorem closed : joinedFacts Tryz.prog 6 Tryz.f6 Rows.planSpoiltSpec Rows.planSpoiltRow = true := by
  unfold joinedFacts
  rw [k2, k10, k11, k12, k13]
  kernel_rfl
theorem inst : Tryz.f6.isInstance Tryz.prog Rows.planSpoiltRow.origin Rows.planSpoiltRow.targs := of_decide_eq_true (by kernel_rfl)
theorem wraps : Tryz.f6.isWrapper Tryz.prog Rows.planSpoiltRow.wrapper Rows.planSpoiltRow.mainSum := by unfold Func.isWrapper; first | (rw [if_pos (by decide +kernel)]; kernel_rfl) | (rw [if_neg (by decide +kernel)]; exact ⟨rfl, rfl⟩)
theorem fnamed : Tryz.prog.funcNamed Rows.planSpoiltRow.func = some 6 := by kernel_rfl
theorem holds : Rows.PlanSpoiltSaid :=
  OpenClaim.holds_of_wide 6 Tryz.f6 rfl rfl rfl rfl rfl rfl rfl ⟨rfl, rfl, rfl, rfl, rfl⟩ rfl rfl rfl rfl rfl fnamed Tryz.func6 closed inst wraps
    (fun os started H enc _ => lifted os started H enc)

end PlanSpoiltDoor
end Go.Proofs.YtmokmbhhnbcelaaGreatDoor
