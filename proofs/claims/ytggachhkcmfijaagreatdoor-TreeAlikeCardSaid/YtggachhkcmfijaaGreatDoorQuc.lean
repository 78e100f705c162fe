/- 'masonrylaw18.TreeAlike' returns true whatever the input, and leaves what it was handed as it was; the listed tables of Go's library are tied to the program's text. -/
import Derived.Test.YtggachhkcmfijaaGreatDoorQuc2
import Derived.Test.YtggachhkcmfijaaGreatDoorRows
import Derived.Test.YtggachhkcmfijaaGreatDoorCards
import Derived.Test.YtggachhkcmfijaaGreatDoorTie
import Derived.WalkKit
import Derived.ProofKit
import Derived.OpenShut
import Derived.Lay
import Derived.SevenTiedAt
import Derived.Lib.SmallJoins
set_option linter.unusedVariables false
namespace Go.Proofs.YtggachhkcmfijaaGreatDoor
namespace TreeAlikeDoor
open Go.ChangeShapes Go.WideShapes Go.ChangeAt Go.RowKit Go.Vc
open Go.ChangeMaps (open_string shut_string)
open Go.Deep Go.Joins
theorem c1 : Rows.treeAlikeRow.wfByText (OpenSpec.ofChange Rows.treeAlikeSpec) = true := by kernel_rfl
theorem c2 : Tryz.prog.mainIs = some (((true, "d8edfaf82ab38fab727053a9856707e728946f951b0725c7fa3984c59529a22e") : Bool × String).1, ((true, "d8edfaf82ab38fab727053a9856707e728946f951b0725c7fa3984c59529a22e") : Bool × String).2.toList) := by kernel_rfl
theorem c3 : true = Tryz.prog.looks [] := by kernel_rfl
theorem c4 : ([3, 23, 23].all fun u => !Tryz.prog.wantsStandIn u) = true := by kernel_rfl
theorem c5 : false = Rows.treeAlikeRow.goesBy Tryz.prog := by kernel_rfl
end TreeAlikeDoor
theorem treeAlike_card : Rows.TreeAlikeCardSaid :=
 Claim7.holds_tied_plain_at .later [] [.data, .pinned] true (true, "d8edfaf82ab38fab727053a9856707e728946f951b0725c7fa3984c59529a22e") true TreeAlikeDoor.holds (fun _ h => by cases h) TreeAlikeDoor.c1 (fun _ h => by cases h) treeAlike_row_tie rfl ⟨rfl, rfl⟩ TreeAlikeDoor.c2 rfl
   (fun f fn hf hfn => by
     obtain rfl : f = 3 := Option.some.inj (TreeAlikeDoor.fnamed.symm.trans hf) |>.symm
     obtain rfl : fn = Tryz.f3 := (Option.some.inj (Tryz.func3.symm.trans hfn)).symm
     exact ⟨TreeAlikeDoor.c3, fun j t ht => by
       rw [Tryz.params3] at ht
       have hm : t ∈ [3, 23, 23] := by simpa using Array.mem_of_getElem? ht
       exact (show Tryz.prog.wantsStandIn t = false by simpa using List.all_eq_true.1 TreeAlikeDoor.c4 t hm)⟩)
   TreeAlikeDoor.c5
#print axioms treeAlike_card
end Go.Proofs.YtggachhkcmfijaaGreatDoor
