/- 'masonrylaw16.BrickMany' returns true whatever the input, and leaves what it was handed as it was; the listed tables of Go's library are tied to the program's text. -/
import Derived.Test.YtmokmbhhnbcelaaGreatDoorGlc2
import Derived.Test.YtmokmbhhnbcelaaGreatDoorRows
import Derived.Test.YtmokmbhhnbcelaaGreatDoorCards
import Derived.Test.YtmokmbhhnbcelaaGreatDoorTie
import Derived.WalkKit
import Derived.ProofKit
import Derived.OpenShut
import Derived.Lay
import Derived.SevenTiedAt
set_option linter.unusedVariables false
namespace Go.Proofs.YtmokmbhhnbcelaaGreatDoor
namespace BrickManyDoor
open Go.ChangeShapes Go.WideShapes Go.ChangeAt Go.RowKit Go.Vc
open Go.ChangeMaps (open_string shut_string)
theorem c1 : Rows.brickManyRow.wfByText (OpenSpec.ofChange Rows.brickManySpec) = true := by kernel_rfl
theorem c2 : Tryz.prog.mainIs = some (((true, "633483f79b2def96fb31029c37a9191047008d14ce8216244f8740af7d961043") : Bool × String).1, ((true, "633483f79b2def96fb31029c37a9191047008d14ce8216244f8740af7d961043") : Bool × String).2.toList) := by kernel_rfl
theorem c3 : true = Tryz.prog.looks [] := by kernel_rfl
theorem c4 : ([3, 100, 29].all fun u => !Tryz.prog.wantsStandIn u) = true := by kernel_rfl
theorem c5 : false = Rows.brickManyRow.goesBy Tryz.prog := by kernel_rfl
end BrickManyDoor
theorem brickMany_card : Rows.BrickManyCardSaid :=
  Claim7.holds_tied_plain_at .later [] [.data, .pinned] true (true, "633483f79b2def96fb31029c37a9191047008d14ce8216244f8740af7d961043") true BrickManyDoor.holds (fun _ h => by cases h) BrickManyDoor.c1 (fun _ h => by cases h) brickMany_row_tie rfl ⟨rfl, rfl⟩ BrickManyDoor.c2 rfl
    (fun f fn hf hfn => by
      obtain rfl : f = 13 := Option.some.inj (BrickManyDoor.fnamed.symm.trans hf) |>.symm
      obtain rfl : fn = Tryz.f13 := (Option.some.inj (Tryz.func13.symm.trans hfn)).symm
      exact ⟨BrickManyDoor.c3, fun j t ht => by
        rw [Tryz.params13] at ht
        have hm : t ∈ [3, 100, 29] := by simpa using Array.mem_of_getElem? ht
        exact (show Tryz.prog.wantsStandIn t = false by simpa using List.all_eq_true.1 BrickManyDoor.c4 t hm)⟩)
    BrickManyDoor.c5
#print axioms brickMany_card
end Go.Proofs.YtmokmbhhnbcelaaGreatDoor
