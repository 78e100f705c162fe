/- 'masonrylaw20.PlanTells' returns true whatever the input, and leaves what it was handed as it was; the listed tables of Go's library are tied to the program's text. -/
import Derived.Test.YtmokmbhhnbcelaaGreatDoorPtc1
import Derived.Test.YtmokmbhhnbcelaaGreatDoorRows
import Derived.Test.YtmokmbhhnbcelaaGreatDoorCards
import Derived.Test.YtmokmbhhnbcelaaGreatDoorTie
import Derived.WalkKit
import Derived.ProofKit
import Derived.OpenShut
import Derived.Lay
import Derived.SevenTiedAt
set_option linter.unusedVariables false
namespace Go.Proofs.YtmokmbhhnbcelaaGreatDoor
namespace PlanTellsDoor
open Go.ChangeShapes Go.WideShapes Go.ChangeAt Go.RowKit Go.Vc
open Go.ChangeMaps (open_string shut_string)

theorem k2 : laidOutB Tryz.prog = true := by kernel_rfl
theorem k10 : (Rows.planTellsRow.inPlace == Tryz.prog.inPlace 14) = true := by kernel_rfl
theorem k11 : (Rows.planTellsRow.unfollowed == Tryz.prog.unfollowed 14) = true := by kernel_rfl
theorem k12 : (Rows.planTellsRow.recurses == Tryz.prog.recurses 14) = true := by kernel_rfl
theorem k13 : (Rows.planTellsRow.named == Tryz.prog.varsNamed 14) = true := by kernel_rfl
theorem closed : joinedFacts Tryz.prog 14 Tryz.f14 Rows.planTellsSpec Rows.planTellsRow = true := by
  unfold joinedFacts
  rw [k2, k10, k11, k12, k13]
  kernel_rfl
theorem inst : Tryz.f14.isInstance Tryz.prog Rows.planTellsRow.origin Rows.planTellsRow.targs := of_decide_eq_true (by kernel_rfl)
theorem wraps : Tryz.f14.isWrapper Tryz.prog Rows.planTellsRow.wrapper Rows.planTellsRow.mainSum := by unfold Func.isWrapper; first | (rw [if_pos (by decide +kernel)]; kernel_rfl) | (rw [if_neg (by decide +kernel)]; exact ⟨rfl, rfl⟩)
theorem fnamed : Tryz.prog.funcNamed Rows.planTellsRow.func = some 14 := by kernel_rfl
theorem holds : Rows.PlanTellsSaid :=
  OpenClaim.holds_of_wide 14 Tryz.f14 rfl rfl rfl rfl rfl rfl rfl ⟨rfl, rfl, rfl, rfl, rfl⟩ rfl rfl rfl rfl rfl fnamed Tryz.func14 closed inst wraps
    (fun os started H enc _ => lifted os started H enc)

end PlanTellsDoor
end Go.Proofs.YtmokmbhhnbcelaaGreatDoor
