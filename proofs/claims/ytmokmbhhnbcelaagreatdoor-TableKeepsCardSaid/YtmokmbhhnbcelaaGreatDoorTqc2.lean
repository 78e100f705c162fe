/- 'masonrylaw21.TableKeeps' returns true whatever the input, and leaves what it was handed as it was; the listed tables of Go's library are tied to the program's text. -/
import Derived.Test.YtmokmbhhnbcelaaGreatDoorTqc1
import Derived.Test.YtmokmbhhnbcelaaGreatDoorRows
import Derived.Test.YtmokmbhhnbcelaaGreatDoorCards
import Derived.Test.YtmokmbhhnbcelaaGreatDoorTie
import Derived.WalkKit
import Derived.ProofKit
import Derived.OpenShut
import Derived.Lay
import Derived.SevenTiedAt
set_option linter.unusedVariables false
namespace Go.Proofs.YtmokmbhhnbcelaaGreatDoor
namespace TableKeepsDoor
open Go.ChangeShapes Go.WideShapes Go.ChangeAt Go.RowKit Go.Vc
open Go.ChangeMaps (open_string shut_string)

theorem k2 : laidOutB Tryz.prog = true := by kernel_rfl
theorem k10 : (Rows.tableKeepsRow.inPlace == Tryz.prog.inPlace 8) = true := by kernel_rfl
theorem k11 : (Rows.tableKeepsRow.unfollowed == Tryz.prog.unfollowed 8) = true := by kernel_rfl
theorem k12 : (Rows.tableKeepsRow.recurses == Tryz.prog.recurses 8) = true := by kernel_rfl
theorem k13 : (Rows.tableKeepsRow.named == Tryz.prog.varsNamed 8) = true := by kernel_rfl
theorem closed : joinedFacts Tryz.prog 8 Tryz.f8 Rows.tableKeepsSpec Rows.tableKeepsRow = true := by
  unfold joinedFacts
  rw [k2, k10, k11, k12, k13]
  kernel_rfl
theorem inst : Tryz.f8.isInstance Tryz.prog Rows.tableKeepsRow.origin Rows.tableKeepsRow.targs := of_decide_eq_true (by kernel_rfl)
theorem wraps : Tryz.f8.isWrapper Tryz.prog Rows.tableKeepsRow.wrapper Rows.tableKeepsRow.mainSum := by unfold Func.isWrapper; first | (rw [if_pos (by decide +kernel)]; kernel_rfl) | (rw [if_neg (by decide +kernel)]; exact ⟨rfl, rfl⟩)
theorem fnamed : Tryz.prog.funcNamed Rows.tableKeepsRow.func = some 8 := by kernel_rfl
theorem holds : Rows.TableKeepsSaid :=
  OpenClaim.holds_of_wide 8 Tryz.f8 rfl rfl rfl rfl rfl rfl rfl ⟨rfl, rfl, rfl, rfl, rfl⟩ rfl rfl rfl rfl rfl fnamed Tryz.func8 closed inst wraps
    (fun os started H enc _ => lifted os started H enc)

end TableKeepsDoor
end Go.Proofs.YtmokmbhhnbcelaaGreatDoor
