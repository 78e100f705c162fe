/- 'masonrylaw16.BrickTells' returns true whatever the input, and leaves what it was handed as it was; the listed tables of Go's library are tied to the program's text. -/
import Derived.Test.YtmokmbhhnbcelaaGreatDoorGmc2
import Derived.Test.YtmokmbhhnbcelaaGreatDoorRows
import Derived.Test.YtmokmbhhnbcelaaGreatDoorCards
import Derived.Test.YtmokmbhhnbcelaaGreatDoorTie
import Derived.WalkKit
import Derived.ProofKit
import Derived.OpenShut
import Derived.Lay
import Derived.SevenTiedAt
set_option linter.unusedVariables false
namespace Go.Proofs.YtmokmbhhnbcelaaGreatDoor
namespace BrickTellsDoor
open Go.ChangeShapes Go.WideShapes Go.ChangeAt Go.RowKit Go.Vc
open Go.ChangeMaps (open_string shut_string)
theorem c1 : Rows.brickTellsRow.wfByText (OpenSpec.ofChange Rows.brickTellsSpec) = true := by kernel_rfl
theorem c2 : Tryz.prog.mainIs = some (((true, "633483f79b2def96fb31029c37a9191047008d14ce8216244f8740af7d961043") : Bool × String).1, ((true, "633483f79b2def96fb31029c37a9191047008d14ce8216244f8740af7d961043") : Bool × String).2.toList) := by kernel_rfl
theorem c3 : true = Tryz.prog.looks [] := by kernel_rfl
theorem c4 : ([3, 100, 3].all fun u => !Tryz.prog.wantsStandIn u) = true := by kernel_rfl
theorem c5 : false = Rows.brickTellsRow.goesBy Tryz.prog := by kernel_rfl
end BrickTellsDoor
theorem brickTells_card : Rows.BrickTellsCardSaid :=
 Claim7.holds_tied_plain_at .later [] [.data, .pinned] true (true, "633483f79b2def96fb31029c37a9191047008d14ce8216244f8740af7d961043") true BrickTellsDoor.holds (fun _ h => by cases h) BrickTellsDoor.c1 (fun _ h => by cases h) brickTells_row_tie rfl ⟨rfl, rfl⟩ BrickTellsDoor.c2 rfl
   (fun f fn hf hfn => by
     obtain rfl : f = 15 := Option.some.inj (BrickTellsDoor.fnamed.symm.trans hf) |>.symm
     obtain rfl : fn = Tryz.f15 := (Option.some.inj (Tryz.func15.symm.trans hfn)).symm
     exact ⟨BrickTellsDoor.c3, fun j t ht => by
       rw [Tryz.params15] at ht
       have hm : t ∈ [3, 100, 3] := by simpa using Array.mem_of_getElem? ht
       exact (show Tryz.prog.wantsStandIn t = false by simpa using List.all_eq_true.1 BrickTellsDoor.c4 t hm)⟩)
   BrickTellsDoor.c5
#print axioms brickTells_card
end Go.Proofs.YtmokmbhhnbcelaaGreatDoor
