/- chain: link.lay, read. -/
import Derived.Test.YtmokmbhhnbcelaaGreatDoorCl
import Derived.Test.YtmokmbhhnbcelaaGreatDoorSs
set_option linter.unusedVariables false
namespace Go.Proofs.YtmokmbhhnbcelaaGreatDoor
open Go Go.Vc Go.RowKit Go.Lib

section
variable {w : World} {X : List As}
end
end Go.Proofs.YtmokmbhhnbcelaaGreatDoor

/- chain: walk. -/
set_option linter.unusedVariables false
namespace Go.Proofs.YtmokmbhhnbcelaaGreatDoor
open Go Go.Vc Go.RowKit Go.Lib Go.Maps Go.Proofs

/-- may x stand behind these -/
def lkStep (xs : List Lk) (x : Lk) : Bool :=
  decide (x.number = xs.length) && ((match xs with | [] => true | y :: _ => decide (x.gen = y.gen) && (decide (x.tag = y.tag) && (decide (x.refs = 0) && decide (x.data ≠ [])))) && (decide (x.next = 0) || decide (x.data.length = 236)))

def walkC (D : DkV) : Nat → List Lk → List Int → Int → List Lk × List Int × Int
  | 0, _, _, _ => ([], [], 25)
  | n + 1, xs, ps, next =>
    if next ∈ ps ∨ 40 ≤ xs.length then ([], [], 25)
    else if getE D next ≠ 0 then ([], [], getE D next)
    else if (readLk (getD D next)).2 && lkStep xs (readLk (getD D next)).1 then
      if (readLk (getD D next)).1.next = 0 then (xs ++ [(readLk (getD D next)).1], ps ++ [next], 0) else walkC D n (xs ++ [(readLk (getD D next)).1]) (ps ++ [next]) (readLk (getD D next)).1.next
    else ([], [], 25)
def walkD (D : DkV) (a : Int) : List Lk × List Int × Int := walkC D 41 [] [] a

section
variable {w : World} {X : List As} {k g c : Nat} {D : DkV}
end
end Go.Proofs.YtmokmbhhnbcelaaGreatDoor
