/- 'masonrylaw16.BrickTells' returns true whatever the input, and leaves what it was handed as it was; the listed tables of Go's library are tied to the program's text. -/
import Derived.Test.YtmokmbhhnbcelaaGreatDoorGmc1
import Derived.Test.YtmokmbhhnbcelaaGreatDoorRows
import Derived.Test.YtmokmbhhnbcelaaGreatDoorCards
import Derived.Test.YtmokmbhhnbcelaaGreatDoorTie
import Derived.WalkKit
import Derived.ProofKit
import Derived.OpenShut
import Derived.Lay
import Derived.SevenTiedAt
set_option linter.unusedVariables false
namespace Go.Proofs.YtmokmbhhnbcelaaGreatDoor
namespace BrickTellsDoor
open Go.ChangeShapes Go.WideShapes Go.ChangeAt Go.RowKit Go.Vc
open Go.ChangeMaps (open_string shut_string)
theorem k2 : laidOutB Tryz.prog = true := by kernel_rfl
theorem k10 : (Rows.brickTellsRow.inPlace == Tryz.prog.inPlace 15) = true := by kernel_rfl
theorem k11 : (Rows.brickTellsRow.unfollowed == Tryz.prog.unfollowed 15) = true := by kernel_rfl
theorem k12 : (Rows.brickTellsRow.recurses == Tryz.prog.recurses 15) = true := by kernel_rfl
theorem k13 : (Rows.brickTellsRow.named == Tryz.prog.varsNamed 15) = true := by kernel_rfl
theorem closed : joinedFacts Tryz.prog 15 Tryz.f15 Rows.brickTellsSpec Rows.brickTellsRow = true := by
 unfold joinedFacts
 rw [k2, k10, k11, k12, k13]
 kernel_rfl
theorem inst : Tryz.f15.isInstance Tryz.prog Rows.brickTellsRow.origin Rows.brickTellsRow.targs := of_decide_eq_true (by kernel_rfl)
theorem wraps : Tryz.f15.isWrapper Tryz.prog Rows.brickTellsRow.wrapper Rows.brickTellsRow.mainSum := by unfold Func.isWrapper; first | (rw [if_pos (by decide +kernel)]; kernel_rfl) | (rw [if_neg (by decide +kernel)]; exact ⟨rfl, rfl⟩)
theorem fnamed : Tryz.prog.funcNamed Rows.brickTellsRow.func = some 15 := by kernel_rfl
theorem holds : Rows.BrickTellsSaid :=
 OpenClaim.holds_of_wide 15 Tryz.f15 rfl rfl rfl rfl rfl rfl rfl ⟨rfl, rfl, rfl, rfl, rfl⟩ rfl rfl rfl rfl rfl fnamed Tryz.func15 closed inst wraps
   (fun os started H enc _ => lifted os started H enc)
end BrickTellsDoor
end Go.Proofs.YtmokmbhhnbcelaaGreatDoor
