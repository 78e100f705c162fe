/- 'masonrylaw11.DeskBacks' returns true whatever the input, and leaves what it was handed as it was; the listed tables of Go's library are tied to the program's text. -/
import Derived.Test.YtmokmbhhnbcelaaGreatDoorKgc1
import Derived.Test.YtmokmbhhnbcelaaGreatDoorRows
import Derived.Test.YtmokmbhhnbcelaaGreatDoorCards
import Derived.Test.YtmokmbhhnbcelaaGreatDoorTie
import Derived.WalkKit
import Derived.ProofKit
import Derived.OpenShut
import Derived.Lay
import Derived.SevenTiedAt
set_option linter.unusedVariables false
namespace Go.Proofs.YtmokmbhhnbcelaaGreatDoor
namespace DeskBacksDoor
open Go.ChangeShapes Go.WideShapes Go.ChangeAt Go.RowKit Go.Vc
open Go.ChangeMaps (open_string shut_string)

theorem k2 : laidOutB Tryz.prog = true := by kernel_rfl
theorem k10 : (Rows.deskBacksRow.inPlace == Tryz.prog.inPlace 7) = true := by kernel_rfl
theorem k11 : (Rows.deskBacksRow.unfollowed == Tryz.prog.unfollowed 7) = true := by kernel_rfl
theorem k12 : (Rows.deskBacksRow.recurses == Tryz.prog.recurses 7) = true := by kernel_rfl
theorem k13 : (Rows.deskBacksRow.named == Tryz.prog.varsNamed 7) = true := by kernel_rfl
theorem closed : joinedFacts Tryz.prog 7 Tryz.f7 Rows.deskBacksSpec Rows.deskBacksRow = true := by
  unfold joinedFacts
  rw [k2, k10, k11, k12, k13]
  kernel_rfl
theorem inst : Tryz.f7.isInstance Tryz.prog Rows.deskBacksRow.origin Rows.deskBacksRow.targs := of_decide_eq_true (by kernel_rfl)
theorem wraps : Tryz.f7.isWrapper Tryz.prog Rows.deskBacksRow.wrapper Rows.deskBacksRow.mainSum := by unfold Func.isWrapper; first | (rw [if_pos (by decide +kernel)]; kernel_rfl) | (rw [if_neg (by decide +kernel)]; exact ⟨rfl, rfl⟩)
theorem fnamed : Tryz.prog.funcNamed Rows.deskBacksRow.func = some 7 := by kernel_rfl
theorem holds : Rows.DeskBacksSaid :=
  OpenClaim.holds_of_wide 7 Tryz.f7 rfl rfl rfl rfl rfl rfl rfl ⟨rfl, rfl, rfl, rfl, rfl⟩ rfl rfl rfl rfl rfl fnamed Tryz.func7 closed inst wraps
    (fun os started H enc _ => lifted os started H enc)

end DeskBacksDoor
end Go.Proofs.YtmokmbhhnbcelaaGreatDoor
