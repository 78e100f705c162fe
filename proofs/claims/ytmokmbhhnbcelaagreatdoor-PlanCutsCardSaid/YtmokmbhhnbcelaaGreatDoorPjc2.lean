/- 'masonrylaw20.PlanCuts' returns true whatever the input, and leaves what it was handed as it was; the listed tables of Go's library are tied to the program's text. -/
import Derived.Test.YtmokmbhhnbcelaaGreatDoorPjc1
import Derived.Test.YtmokmbhhnbcelaaGreatDoorRows
import Derived.Test.YtmokmbhhnbcelaaGreatDoorCards
import Derived.Test.YtmokmbhhnbcelaaGreatDoorTie
import Derived.WalkKit
import Derived.ProofKit
import Derived.OpenShut
import Derived.Lay
import Derived.SevenTiedAt
set_option linter.unusedVariables false
namespace Go.Proofs.YtmokmbhhnbcelaaGreatDoor
namespace PlanCutsDoor
open Go.ChangeShapes Go.WideShapes Go.ChangeAt Go.RowKit Go.Vc
open Go.ChangeMaps (open_string shut_string)

theorem k2 : laidOutB Tryz.prog = true := by kernel_rfl
theorem k10 : (Rows.planCutsRow.inPlace == Tryz.prog.inPlace 4) = true := by kernel_rfl
theorem k11 : (Rows.planCutsRow.unfollowed == Tryz.prog.unfollowed 4) = true := by kernel_rfl
theorem k12 : (Rows.planCutsRow.recurses == Tryz.prog.recurses 4) = true := by kernel_rfl
theorem k13 : (Rows.planCutsRow.named == Tryz.prog.varsNamed 4) = true := by kernel_rfl
theorem closed : joinedFacts Tryz.prog 4 Tryz.f4 Rows.planCutsSpec Rows.planCutsRow = true := by
  unfold joinedFacts
  rw [k2, k10, k11, k12, k13]
  kernel_rfl
theorem inst : Tryz.f4.isInstance Tryz.prog Rows.planCutsRow.origin Rows.planCutsRow.targs := of_decide_eq_true (by kernel_rfl)
theorem wraps : Tryz.f4.isWrapper Tryz.prog Rows.planCutsRow.wrapper Rows.planCutsRow.mainSum := by unfold Func.isWrapper; first | (rw [if_pos (by decide +kernel)]; kernel_rfl) | (rw [if_neg (by decide +kernel)]; exact ⟨rfl, rfl⟩)
theorem fnamed : Tryz.prog.funcNamed Rows.planCutsRow.func = some 4 := by kernel_rfl
theorem holds : Rows.PlanCutsSaid :=
  OpenClaim.holds_of_wide 4 Tryz.f4 rfl rfl rfl rfl rfl rfl rfl ⟨rfl, rfl, rfl, rfl, rfl⟩ rfl rfl rfl rfl rfl fnamed Tryz.func4 closed inst wraps
    (fun os started H enc _ => lifted os started H enc)

end PlanCutsDoor
end Go.Proofs.YtmokmbhhnbcelaaGreatDoor
