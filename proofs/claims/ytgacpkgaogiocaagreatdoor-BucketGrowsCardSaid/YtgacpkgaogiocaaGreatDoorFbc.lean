/- 'masonrylaw17.BucketGrows' returns true whatever the input, and leaves what it was handed as it was; the listed tables of Go's library are tied to the program's text. -/
import Derived.Test.YtgacpkgaogiocaaGreatDoorFbc2
import Derived.Test.YtgacpkgaogiocaaGreatDoorRows
import Derived.Test.YtgacpkgaogiocaaGreatDoorCards
import Derived.Test.YtgacpkgaogiocaaGreatDoorTie
import Derived.WalkKit
import Derived.ProofKit
import Derived.OpenShut
import Derived.Lay
import Derived.SevenTiedAt
set_option linter.unusedVariables false
namespace Go.Proofs.YtgacpkgaogiocaaGreatDoor
namespace BucketGrowsDoor
open Go.ChangeShapes Go.WideShapes Go.ChangeAt Go.RowKit Go.Vc
open Go.ChangeMaps (open_string shut_string)
theorem c1 : Rows.bucketGrowsRow.wfByText (OpenSpec.ofChange Rows.bucketGrowsSpec) = true := by kernel_rfl
theorem c2 : Tryz.prog.mainIs = some (((true, "627362c5f914925009329a81f7bbcec2dae31265e4fce814ea17976742f7f4e0") : Bool × String).1, ((true, "627362c5f914925009329a81f7bbcec2dae31265e4fce814ea17976742f7f4e0") : Bool × String).2.toList) := by kernel_rfl
theorem c3 : true = Tryz.prog.looks [] := by kernel_rfl
theorem c4 : ([3, 3].all fun u => !Tryz.prog.wantsStandIn u) = true := by kernel_rfl
theorem c5 : false = Rows.bucketGrowsRow.goesBy Tryz.prog := by kernel_rfl
end BucketGrowsDoor
theorem bucketGrows_card : Rows.BucketGrowsCardSaid :=
 Claim7.holds_tied_plain_at .later [] [.data, .pinned] true (true, "627362c5f914925009329a81f7bbcec2dae31265e4fce814ea17976742f7f4e0") true BucketGrowsDoor.holds (fun _ h => by cases h) BucketGrowsDoor.c1 (fun _ h => by cases h) bucketGrows_row_tie rfl ⟨rfl, rfl⟩ BucketGrowsDoor.c2 rfl
   (fun f fn hf hfn => by
     obtain rfl : f = 4 := Option.some.inj (BucketGrowsDoor.fnamed.symm.trans hf) |>.symm
     obtain rfl : fn = Tryz.f4 := (Option.some.inj (Tryz.func4.symm.trans hfn)).symm
     exact ⟨BucketGrowsDoor.c3, fun j t ht => by
       rw [Tryz.params4] at ht
       have hm : t ∈ [3, 3] := by simpa using Array.mem_of_getElem? ht
       exact (show Tryz.prog.wantsStandIn t = false by simpa using List.all_eq_true.1 BucketGrowsDoor.c4 t hm)⟩)
   BucketGrowsDoor.c5
#print axioms bucketGrows_card
end Go.Proofs.YtgacpkgaogiocaaGreatDoor
