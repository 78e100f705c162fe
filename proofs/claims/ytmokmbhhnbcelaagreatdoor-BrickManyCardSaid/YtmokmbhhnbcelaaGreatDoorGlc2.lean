/- 'masonrylaw16.BrickMany' returns true whatever the input, and leaves what it was handed as it was; the listed tables of Go's library are tied to the program's text. -/
import Derived.Test.YtmokmbhhnbcelaaGreatDoorGlc1
import Derived.Test.YtmokmbhhnbcelaaGreatDoorRows
import Derived.Test.YtmokmbhhnbcelaaGreatDoorCards
import Derived.Test.YtmokmbhhnbcelaaGreatDoorTie
import Derived.WalkKit
import Derived.ProofKit
import Derived.OpenShut
import Derived.Lay
import Derived.SevenTiedAt
set_option linter.unusedVariables false
namespace Go.Proofs.YtmokmbhhnbcelaaGreatDoor
namespace BrickManyDoor
open Go.ChangeShapes Go.WideShapes Go.ChangeAt Go.RowKit Go.Vc
open Go.ChangeMaps (open_string shut_string)
theorem k2 : laidOutB Tryz.prog = true := by kernel_rfl
theorem k10 : (Rows.brickManyRow.inPlace == Tryz.prog.inPlace 13) = true := by kernel_rfl
theorem k11 : (Rows.brickManyRow.unfollowed == Tryz.prog.unfollowed 13) = true := by kernel_rfl
theorem k12 : (Rows.brickManyRow.recurses == Tryz.prog.recurses 13) = true := by kernel_rfl
theorem k13 : (Rows.brickManyRow.named == Tryz.prog.varsNamed 13) = true := by kernel_rfl
theorem closed : joinedFacts Tryz.prog 13 Tryz.f13 Rows.brickManySpec Rows.brickManyRow = true := by
  unfold joinedFacts
  rw [k2, k10, k11, k12, k13]
  kernel_rfl
theorem inst : Tryz.f13.isInstance Tryz.prog Rows.brickManyRow.origin Rows.brickManyRow.targs := of_decide_eq_true (by kernel_rfl)
theorem wraps : Tryz.f13.isWrapper Tryz.prog Rows.brickManyRow.wrapper Rows.brickManyRow.mainSum := by unfold Func.isWrapper; first | (rw [if_pos (by decide +kernel)]; kernel_rfl) | (rw [if_neg (by decide +kernel)]; exact ⟨rfl, rfl⟩)
theorem fnamed : Tryz.prog.funcNamed Rows.brickManyRow.func = some 13 := by kernel_rfl
theorem holds : Rows.BrickManySaid :=
  OpenClaim.holds_of_wide 13 Tryz.f13 rfl rfl rfl rfl rfl rfl rfl ⟨rfl, rfl, rfl, rfl, rfl⟩ rfl rfl rfl rfl rfl fnamed Tryz.func13 closed inst wraps
    (fun os started H enc _ => lifted os started H enc)
end BrickManyDoor
end Go.Proofs.YtmokmbhhnbcelaaGreatDoor
