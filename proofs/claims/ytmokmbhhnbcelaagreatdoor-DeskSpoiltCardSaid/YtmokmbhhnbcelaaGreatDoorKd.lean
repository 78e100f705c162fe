/- masonryref1.Put: a number more, at its place. -/
import Derived.Test.YtmokmbhhnbcelaaGreatDoorSq
import Derived.Test.YtmokmbhhnbcelaaGreatDoorKc
set_option linter.unusedVariables false
namespace Go.Proofs.YtmokmbhhnbcelaaGreatDoor
open Go Go.Vc Go.RowKit Go.Lib

end Go.Proofs.YtmokmbhhnbcelaaGreatDoor

/- desk: Drop and Keep of lists that came in: whatever they tell, what is committed stays. -/
set_option linter.unusedVariables false
namespace Go.Proofs.YtmokmbhhnbcelaaGreatDoor
open Go Go.Vc Go.RowKit Go.Lib Go.Maps Go.Proofs

/-- the same, but for what is on the desk -/
structure Same (D D' : DkV) : Prop where
  d : D'.d = D.d
  seq : D'.seq = D.seq
  com : D'.commits = D.commits
  syn : D'.syncs = D.syncs
  len : D'.bs.length = D.bs.length
theorem Same.refl (D : DkV) : Same D D := ⟨rfl, rfl, rfl, rfl, rfl⟩
theorem Same.trans {A B C : DkV} (h : Same A B) (k : Same B C) : Same A C := ⟨k.d.trans h.d, k.seq.trans h.seq, k.com.trans h.com, k.syn.trans h.syn, k.len.trans h.len⟩
section
variable {w : World} {X : List As} {k g c : Nat} {D : DkV}
end
end Go.Proofs.YtmokmbhhnbcelaaGreatDoor
