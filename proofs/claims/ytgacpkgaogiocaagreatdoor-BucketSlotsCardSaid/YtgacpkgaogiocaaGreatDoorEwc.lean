/- 'masonrylaw17.BucketSlots' returns true whatever the input, and leaves what it was handed as it was; the listed tables of Go's library are tied to the program's text. -/
import Derived.Test.YtgacpkgaogiocaaGreatDoorEwc2
import Derived.Test.YtgacpkgaogiocaaGreatDoorRows
import Derived.Test.YtgacpkgaogiocaaGreatDoorCards
import Derived.Test.YtgacpkgaogiocaaGreatDoorTie
import Derived.WalkKit
import Derived.ProofKit
import Derived.OpenShut
import Derived.Lay
import Derived.SevenTiedAt
set_option linter.unusedVariables false
namespace Go.Proofs.YtgacpkgaogiocaaGreatDoor
namespace BucketSlotsDoor
open Go.ChangeShapes Go.WideShapes Go.ChangeAt Go.RowKit Go.Vc
open Go.ChangeMaps (open_string shut_string)
theorem c1 : Rows.bucketSlotsRow.wfByText (OpenSpec.ofChange Rows.bucketSlotsSpec) = true := by kernel_rfl
theorem c2 : Tryz.prog.mainIs = some (((true, "627362c5f914925009329a81f7bbcec2dae31265e4fce814ea17976742f7f4e0") : Bool × String).1, ((true, "627362c5f914925009329a81f7bbcec2dae31265e4fce814ea17976742f7f4e0") : Bool × String).2.toList) := by kernel_rfl
theorem c3 : true = Tryz.prog.looks [] := by kernel_rfl
theorem c4 : ([3, 3].all fun u => !Tryz.prog.wantsStandIn u) = true := by kernel_rfl
theorem c5 : false = Rows.bucketSlotsRow.goesBy Tryz.prog := by kernel_rfl
end BucketSlotsDoor
theorem bucketSlots_card : Rows.BucketSlotsCardSaid :=
 Claim7.holds_tied_plain_at .later [] [.data, .pinned] true (true, "627362c5f914925009329a81f7bbcec2dae31265e4fce814ea17976742f7f4e0") true BucketSlotsDoor.holds (fun _ h => by cases h) BucketSlotsDoor.c1 (fun _ h => by cases h) bucketSlots_row_tie rfl ⟨rfl, rfl⟩ BucketSlotsDoor.c2 rfl
   (fun f fn hf hfn => by
     obtain rfl : f = 3 := Option.some.inj (BucketSlotsDoor.fnamed.symm.trans hf) |>.symm
     obtain rfl : fn = Tryz.f3 := (Option.some.inj (Tryz.func3.symm.trans hfn)).symm
     exact ⟨BucketSlotsDoor.c3, fun j t ht => by
       rw [Tryz.params3] at ht
       have hm : t ∈ [3, 3] := by simpa using Array.mem_of_getElem? ht
       exact (show Tryz.prog.wantsStandIn t = false by simpa using List.all_eq_true.1 BucketSlotsDoor.c4 t hm)⟩)
   BucketSlotsDoor.c5
#print axioms bucketSlots_card
end Go.Proofs.YtgacpkgaogiocaaGreatDoor
