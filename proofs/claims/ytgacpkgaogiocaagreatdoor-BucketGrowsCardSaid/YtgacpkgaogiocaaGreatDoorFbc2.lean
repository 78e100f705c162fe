/- 'masonrylaw17.BucketGrows' returns true whatever the input, and leaves what it was handed as it was; the listed tables of Go's library are tied to the program's text. -/
import Derived.Test.YtgacpkgaogiocaaGreatDoorFbc1
import Derived.Test.YtgacpkgaogiocaaGreatDoorRows
import Derived.Test.YtgacpkgaogiocaaGreatDoorCards
import Derived.Test.YtgacpkgaogiocaaGreatDoorTie
import Derived.WalkKit
import Derived.ProofKit
import Derived.OpenShut
import Derived.Lay
import Derived.SevenTiedAt
set_option linter.unusedVariables false
namespace Go.Proofs.YtgacpkgaogiocaaGreatDoor
namespace BucketGrowsDoor
open Go.ChangeShapes Go.WideShapes Go.ChangeAt Go.RowKit Go.Vc
open Go.ChangeMaps (open_string shut_string)
theorem k2 : laidOutB Tryz.prog = true := by kernel_rfl
theorem k10 : (Rows.bucketGrowsRow.inPlace == Tryz.prog.inPlace 4) = true := by kernel_rfl
theorem k11 : (Rows.bucketGrowsRow.unfollowed == Tryz.prog.unfollowed 4) = true := by kernel_rfl
theorem k12 : (Rows.bucketGrowsRow.recurses == Tryz.prog.recurses 4) = true := by kernel_rfl
theorem k13 : (Rows.bucketGrowsRow.named == Tryz.prog.varsNamed 4) = true := by kernel_rfl
theorem closed : joinedFacts Tryz.prog 4 Tryz.f4 Rows.bucketGrowsSpec Rows.bucketGrowsRow = true := by
 unfold joinedFacts
 rw [k2, k10, k11, k12, k13]
 kernel_rfl
theorem inst : Tryz.f4.isInstance Tryz.prog Rows.bucketGrowsRow.origin Rows.bucketGrowsRow.targs := of_decide_eq_true (by kernel_rfl)
theorem wraps : Tryz.f4.isWrapper Tryz.prog Rows.bucketGrowsRow.wrapper Rows.bucketGrowsRow.mainSum := by unfold Func.isWrapper; first | (rw [if_pos (by decide +kernel)]; kernel_rfl) | (rw [if_neg (by decide +kernel)]; exact ⟨rfl, rfl⟩)
theorem fnamed : Tryz.prog.funcNamed Rows.bucketGrowsRow.func = some 4 := by kernel_rfl
theorem holds : Rows.BucketGrowsSaid :=
 OpenClaim.holds_of_wide 4 Tryz.f4 rfl rfl rfl rfl rfl rfl rfl ⟨rfl, rfl, rfl, rfl, rfl⟩ rfl rfl rfl rfl rfl fnamed Tryz.func4 closed inst wraps
   (fun os started H enc _ => lifted os started H enc)
end BucketGrowsDoor
end Go.Proofs.YtgacpkgaogiocaaGreatDoor
