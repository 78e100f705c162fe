/- 'masonrylaw17.BucketPlays' returns true whatever the input, and leaves what it was handed as it was; the listed tables of Go's library are tied to the program's text. -/
import Derived.Test.YtgacpkgaogiocaaGreatDoorFjc2
import Derived.Test.YtgacpkgaogiocaaGreatDoorRows
import Derived.Test.YtgacpkgaogiocaaGreatDoorCards
import Derived.Test.YtgacpkgaogiocaaGreatDoorTie
import Derived.WalkKit
import Derived.ProofKit
import Derived.OpenShut
import Derived.Lay
import Derived.SevenTiedAt
import Derived.Lib.SmallJoins
set_option linter.unusedVariables false
namespace Go.Proofs.YtgacpkgaogiocaaGreatDoor
namespace BucketPlaysDoor
open Go.ChangeShapes Go.WideShapes Go.ChangeAt Go.RowKit Go.Vc
open Go.ChangeMaps (open_string shut_string)
open Go.Deep Go.Joins
theorem c1:Rows.bucketPlaysRow.wfByText (OpenSpec.ofChange Rows.bucketPlaysSpec)=true:=by kernel_rfl
theorem c2 : Tryz.prog.mainIs = some (((true, "627362c5f914925009329a81f7bbcec2dae31265e4fce814ea17976742f7f4e0") : Bool × String).1, ((true, "627362c5f914925009329a81f7bbcec2dae31265e4fce814ea17976742f7f4e0") : Bool × String).2.toList) := by kernel_rfl
theorem c3:true=Tryz.prog.looks []:=by kernel_rfl
theorem c4:([3,47,30].all fun u=>!Tryz.prog.wantsStandIn u)=true:=by kernel_rfl
theorem c5:false=Rows.bucketPlaysRow.goesBy Tryz.prog:=by kernel_rfl
end BucketPlaysDoor
theorem bucketPlays_card:Rows.BucketPlaysCardSaid:=
 Claim7.holds_tied_plain_at .later [] [.data, .pinned] true (true, "627362c5f914925009329a81f7bbcec2dae31265e4fce814ea17976742f7f4e0") true BucketPlaysDoor.holds (fun _ h => by cases h) BucketPlaysDoor.c1 (fun _ h => by cases h) bucketPlays_row_tie rfl ⟨rfl, rfl⟩ BucketPlaysDoor.c2 rfl
   (fun f fn hf hfn=>by
     obtain rfl:f=5:=Option.some.inj (BucketPlaysDoor.fnamed.symm.trans hf) |>.symm
     obtain rfl:fn=Tryz.f5:=(Option.some.inj (Tryz.func5.symm.trans hfn)).symm
     exact ⟨BucketPlaysDoor.c3,fun j t ht=>by
       rw [Tryz.params5] at ht
       have hm:t∈[3,47,30]:=by simpa using Array.mem_of_getElem? ht
       exact (show Tryz.prog.wantsStandIn t=false by simpa using List.all_eq_true.1 BucketPlaysDoor.c4 t hm)⟩)
   BucketPlaysDoor.c5
#print axioms bucketPlays_card
end Go.Proofs.YtgacpkgaogiocaaGreatDoor
