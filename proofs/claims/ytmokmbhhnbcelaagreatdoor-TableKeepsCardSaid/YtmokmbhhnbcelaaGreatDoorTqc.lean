/- 'masonrylaw21.TableKeeps' returns true whatever the input, and leaves what it was handed as it was; the listed tables of Go's library are tied to the program's text. -/
import Derived.Test.YtmokmbhhnbcelaaGreatDoorTqc2
import Derived.Test.YtmokmbhhnbcelaaGreatDoorRows
import Derived.Test.YtmokmbhhnbcelaaGreatDoorCards
import Derived.Test.YtmokmbhhnbcelaaGreatDoorTie
import Derived.WalkKit
import Derived.ProofKit
import Derived.OpenShut
import Derived.Lay
import Derived.SevenTiedAt
set_option linter.unusedVariables false
namespace Go.Proofs.YtmokmbhhnbcelaaGreatDoor
namespace TableKeepsDoor
open Go.ChangeShapes Go.WideShapes Go.ChangeAt Go.RowKit Go.Vc
open Go.ChangeMaps (open_string shut_string)

theorem c1 : Rows.tableKeepsRow.wfByText (OpenSpec.ofChange Rows.tableKeepsSpec) = true := by kernel_rfl
theorem c2 : Tryz.prog.mainIs = some (((true, "633483f79b2def96fb31029c37a9191047008d14ce8216244f8740af7d961043") : Bool × String).1, ((true, "633483f79b2def96fb31029c37a9191047008d14ce8216244f8740af7d961043") : Bool × String).2.toList) := by kernel_rfl
theorem c3 : true = Tryz.prog.looks [] := by kernel_rfl
theorem c4 : ([3, 79].all fun u => !Tryz.prog.wantsStandIn u) = true := by kernel_rfl
theorem c5 : false = Rows.tableKeepsRow.goesBy Tryz.prog := by kernel_rfl
end TableKeepsDoor

theorem tableKeeps_card : Rows.TableKeepsCardSaid :=
  Claim7.holds_tied_plain_at .later [] [.data, .pinned] true (true, "633483f79b2def96fb31029c37a9191047008d14ce8216244f8740af7d961043") true TableKeepsDoor.holds (fun _ h => by cases h) TableKeepsDoor.c1 (fun _ h => by cases h) tableKeeps_row_tie rfl ⟨rfl, rfl⟩ TableKeepsDoor.c2 rfl
    (fun f fn hf hfn => by
      obtain rfl : f = 8 := Option.some.inj (TableKeepsDoor.fnamed.symm.trans hf) |>.symm
      obtain rfl : fn = Tryz.f8 := (Option.some.inj (Tryz.func8.symm.trans hfn)).symm
      exact ⟨TableKeepsDoor.c3, fun j t ht => by
        rw [Tryz.params8] at ht
        have hm : t ∈ [3, 79] := by simpa using Array.mem_of_getElem? ht
        exact (show Tryz.prog.wantsStandIn t = false by simpa using List.all_eq_true.1 TableKeepsDoor.c4 t hm)⟩)
    TableKeepsDoor.c5
#print axioms tableKeeps_card
end Go.Proofs.YtmokmbhhnbcelaaGreatDoor
