/- 'masonrylaw18.TreeAlike' returns true whatever the input, and leaves what it was handed as it was; the listed tables of Go's library are tied to the program's text. -/
import Derived.Test.YtggachhkcmfijaaGreatDoorQuc1
import Derived.Test.YtggachhkcmfijaaGreatDoorRows
import Derived.Test.YtggachhkcmfijaaGreatDoorCards
import Derived.Test.YtggachhkcmfijaaGreatDoorTie
import Derived.WalkKit
import Derived.ProofKit
import Derived.OpenShut
import Derived.Lay
import Derived.SevenTiedAt
import Derived.Lib.SmallJoins
set_option linter.unusedVariables false
namespace Go.Proofs.YtggachhkcmfijaaGreatDoor
namespace TreeAlikeDoor
open Go.ChangeShapes Go.WideShapes Go.ChangeAt Go.RowKit Go.Vc
open Go.ChangeMaps (open_string shut_string)
open Go.Deep Go.Joins
theorem k2 : laidOutB Tryz.prog = true := by kernel_rfl
theorem k10 : (Rows.treeAlikeRow.inPlace == Tryz.prog.inPlace 3) = true := by kernel_rfl
theorem k11 : (Rows.treeAlikeRow.unfollowed == Tryz.prog.unfollowed 3) = true := by kernel_rfl
theorem k12 : (Rows.treeAlikeRow.recurses == Tryz.prog.recurses 3) = true := by kernel_rfl
theorem k13 : (Rows.treeAlikeRow.named == Tryz.prog.varsNamed 3) = true := by kernel_rfl
theorem closed : joinedFacts Tryz.prog 3 Tryz.f3 Rows.treeAlikeSpec Rows.treeAlikeRow = true := by
 unfold joinedFacts
 rw [k2, k10, k11, k12, k13]
 kernel_rfl
theorem inst : Tryz.f3.isInstance Tryz.prog Rows.treeAlikeRow.origin Rows.treeAlikeRow.targs := of_decide_eq_true (by kernel_rfl)
theorem wraps : Tryz.f3.isWrapper Tryz.prog Rows.treeAlikeRow.wrapper Rows.treeAlikeRow.mainSum := by unfold Func.isWrapper; first | (rw [if_pos (by decide +kernel)]; kernel_rfl) | (rw [if_neg (by decide +kernel)]; exact ⟨rfl, rfl⟩)
theorem fnamed : Tryz.prog.funcNamed Rows.treeAlikeRow.func = some 3 := by kernel_rfl
theorem holds : Rows.TreeAlikeSaid :=
 OpenClaim.holds_of_wide 3 Tryz.f3 rfl rfl rfl rfl rfl rfl rfl ⟨rfl, rfl, rfl, rfl, rfl⟩ rfl rfl rfl rfl rfl fnamed Tryz.func3 closed inst wraps
   (fun os started H enc _ => lifted os started H enc)
end TreeAlikeDoor
end Go.Proofs.YtggachhkcmfijaaGreatDoor
