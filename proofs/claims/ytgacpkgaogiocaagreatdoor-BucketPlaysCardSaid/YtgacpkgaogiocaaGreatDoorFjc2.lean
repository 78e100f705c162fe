/- 'masonrylaw17.BucketPlays' returns true whatever the input, and leaves what it was handed as it was; the listed tables of Go's library are tied to the program's text. -/
import Derived.Test.YtgacpkgaogiocaaGreatDoorFjc1
import Derived.Test.YtgacpkgaogiocaaGreatDoorRows
import Derived.Test.YtgacpkgaogiocaaGreatDoorCards
import Derived.Test.YtgacpkgaogiocaaGreatDoorTie
import Derived.WalkKit
import Derived.ProofKit
import Derived.OpenShut
import Derived.Lay
import Derived.SevenTiedAt
import Derived.Lib.SmallJoins
set_option linter.unusedVariables false
namespace Go.Proofs.YtgacpkgaogiocaaGreatDoor
namespace BucketPlaysDoor
open Go.ChangeShapes Go.WideShapes Go.ChangeAt Go.RowKit Go.Vc
open Go.ChangeMaps (open_string shut_string)
open Go.Deep Go.Joins
theorem k2:laidOutB Tryz.prog=true:=by kernel_rfl
theorem k10:(Rows.bucketPlaysRow.inPlace == Tryz.prog.inPlace 5)=true:=by kernel_rfl
theorem k11:(Rows.bucketPlaysRow.unfollowed == Tryz.prog.unfollowed 5)=true:=by kernel_rfl
theorem k12:(Rows.bucketPlaysRow.recurses == Tryz.prog.recurses 5)=true:=by kernel_rfl
theorem k13:(Rows.bucketPlaysRow.named == Tryz.prog.varsNamed 5)=true:=by kernel_rfl
theorem closed:joinedFacts Tryz.prog 5 Tryz.f5 Rows.bucketPlaysSpec Rows.bucketPlaysRow=true:=by
 unfold joinedFacts
 rw [k2,k10,k11,k12,k13]
 kernel_rfl
theorem inst:Tryz.f5.isInstance Tryz.prog Rows.bucketPlaysRow.origin Rows.bucketPlaysRow.targs:=of_decide_eq_true (by kernel_rfl)
theorem wraps:Tryz.f5.isWrapper Tryz.prog Rows.bucketPlaysRow.wrapper Rows.bucketPlaysRow.mainSum:=by unfold Func.isWrapper; first | (rw [if_pos (by decide +kernel)]; kernel_rfl) | (rw [if_neg (by decide +kernel)]; exact ⟨rfl,rfl⟩)
theorem fnamed:Tryz.prog.funcNamed Rows.bucketPlaysRow.func=some 5:=by kernel_rfl
theorem holds:Rows.BucketPlaysSaid:=
 OpenClaim.holds_of_wide 5 Tryz.f5 rfl rfl rfl rfl rfl rfl rfl ⟨rfl,rfl,rfl,rfl,rfl⟩ rfl rfl rfl rfl rfl fnamed Tryz.func5 closed inst wraps
   (fun os started H enc _=>lifted os started H enc)
end BucketPlaysDoor
end Go.Proofs.YtgacpkgaogiocaaGreatDoor
