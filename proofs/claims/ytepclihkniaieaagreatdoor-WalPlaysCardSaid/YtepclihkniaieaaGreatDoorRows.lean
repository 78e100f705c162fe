/-
  NARROWER THAN 'FOR EVERY INPUT', by the rows' own cells (each row's printed sentence says how): HeadTells: laid · WalNone: laid · WalPlays: laid · WalAll: laid · WalCosts: laid · ChainRings: laid · DeskLarge: laid · ChainSizes: laid.
  DERIVED. THE GIVEN ROWS OF THIS SEAT. 8 by the template 'for every input the law returns true; each argument reads behind the call as it read before'; 0 by the template 'total and deterministic' (their statements: YtepclihkniaieaaGreatDoorTotals.lean).
  GIVEN WITH THE SEED: the statements are not yours to turn. If you find one false, say at which input.
  Laid BY PROGRAM, IN A SANDBOX (cutbox-rows.mjs): the forced cells as the released guide's own fill.sh prints them over the translation 8575937fffff1937… (all of the seat's roots in one cut). By AI agents, Wed Nov 11 2026. No macro, syntax, notation, axiom, sorry.
-/
import Derived.Test.YtepclihkniaieaaGreatDoorChecked
import GoSem.PinnedTables
import GoSem.Claim
import GoSem.ClaimJoined
import GoSem.ClaimMapViews
import Derived.JoinedTies
import Derived.KernelRfl
namespace Go.Proofs.YtepclihkniaieaaGreatDoor
/- THE CELL 'sum', in the pinned program and in every row, IS THE sha256 OF THE DUMP (.gsa) THAT YtepclihkniaieaaGreatDoorProg.lean LOADS. Nothing in Lean hashes anything: it is a label: what it is worth is what the hold of that sum in a sandbox is worth. -/
noncomputable def Tryz.pinned : Pinned := { name := "ytepclihkniaieaagreatdoor", sum := "8575937fffff19377acbe3040f5b7b3d8745066b1621692d1003c3b2da12627c", checked := Tryz.checked }
namespace Rows
def none {H : Type} : Left H := { results := [], args := [] }

/- WHAT THE LISTED PACKAGE-LEVEL VARIABLES READ AS WHEN THE CALL BEGINS. Each datum BY PROGRAM (the guide's laid-datum.mjs) off the statement by which the dump's own 'gosem.cut.vars' lays the variable. In a bare row this is a premise. The card (YtepclihkniaieaaGreatDoorCards.lean) ties it to the program's text. -/
def laid_unicode_utf8_acceptRanges {H : Type} : DataW H := .agg [.agg [.lit (.int .u8 128), .lit (.int .u8 191)], .agg [.lit (.int .u8 160), .lit (.int .u8 191)], .agg [.lit (.int .u8 128), .lit (.int .u8 159)], .agg [.lit (.int .u8 144), .lit (.int .u8 191)], .agg [.lit (.int .u8 128), .lit (.int .u8 143)], .agg [.lit (.int .u8 0), .lit (.int .u8 0)], .agg [.lit (.int .u8 0), .lit (.int .u8 0)], .agg [.lit (.int .u8 0), .lit (.int .u8 0)], .agg [.lit (.int .u8 0), .lit (.int .u8 0)], .agg [.lit (.int .u8 0), .lit (.int .u8 0)], .agg [.lit (.int .u8 0), .lit (.int .u8 0)], .agg [.lit (.int .u8 0), .lit (.int .u8 0)], .agg [.lit (.int .u8 0), .lit (.int .u8 0)], .agg [.lit (.int .u8 0), .lit (.int .u8 0)], .agg [.lit (.int .u8 0), .lit (.int .u8 0)], .agg [.lit (.int .u8 0), .lit (.int .u8 0)]]
/-- One of Go's own tables, pinned by name: the form's constant. -/
def laid_unicode_utf8_first : DataW Unit := Go.Pinned.utf8First

/-- 'masonrylaw8.HeadTells': WHATEVER THE INPUT: true; the input reads as it did. -/
def headTellsSpec : ChangeSpec := { name := "headTells", fn := fun _ => fun
  | [d1, d2, d3, d4, d5, d6] => { results := [.lit (.bool true)], args := [d1, d2, d3, d4, d5, d6] }
  | _ => none }
def headTellsRow : OpenClaim := { program := "ytepclihkniaieaagreatdoor", sum := "8575937fffff19377acbe3040f5b7b3d8745066b1621692d1003c3b2da12627c", func := "masonry/masonrylaw8.HeadTells", spec := "headTells", inPlace := ["internal/bytealg.IndexByteString", "internal/bytealg.IndexString"], recurses := true, named := ["unicode/utf8.first", "unicode/utf8.acceptRanges", "internal/bytealg.MaxLen"], apart := false, laid := [("unicode/utf8.acceptRanges", laid_unicode_utf8_acceptRanges), ("unicode/utf8.first", laid_unicode_utf8_first)] }
def HeadTellsSaid : Prop := headTellsRow.holds Tryz.pinned (OpenSpec.ofChange headTellsSpec)

/-- ITS FALSE NEIGHBOUR: 'it returns false'. Refute it at one input. -/
def headTellsWrong : ChangeSpec := { name := "headTells", fn := fun _ => fun
  | [d1, d2, d3, d4, d5, d6] => { results := [.lit (.bool false)], args := [d1, d2, d3, d4, d5, d6] }
  | _ => none }
def HeadTellsWrongFalsely : Prop := headTellsRow.holds Tryz.pinned (OpenSpec.ofChange headTellsWrong)

/-- 'masonrylaw9.WalNone': WHATEVER THE INPUT: true; the input reads as it did. -/
def walNoneSpec : ChangeSpec := { name := "walNone", fn := fun _ => fun
  | [d1, d2] => { results := [.lit (.bool true)], args := [d1, d2] }
  | _ => none }
def walNoneRow : OpenClaim := { program := "ytepclihkniaieaagreatdoor", sum := "8575937fffff19377acbe3040f5b7b3d8745066b1621692d1003c3b2da12627c", func := "masonry/masonrylaw9.WalNone", spec := "walNone", inPlace := ["internal/abi.NoEscape", "internal/bytealg.MakeNoZero", "internal/bytealg.IndexByteString", "internal/bytealg.IndexString"], unfollowed := true, recurses := true, named := ["unicode/utf8.first", "unicode/utf8.acceptRanges", "internal/bytealg.MaxLen"], apart := false, laid := [("unicode/utf8.acceptRanges", laid_unicode_utf8_acceptRanges), ("unicode/utf8.first", laid_unicode_utf8_first)] }
def WalNoneSaid : Prop := walNoneRow.holds Tryz.pinned (OpenSpec.ofChange walNoneSpec)

/-- ITS FALSE NEIGHBOUR: 'it returns false'. Refute it at one input. -/
def walNoneWrong : ChangeSpec := { name := "walNone", fn := fun _ => fun
  | [d1, d2] => { results := [.lit (.bool false)], args := [d1, d2] }
  | _ => none }
def WalNoneWrongFalsely : Prop := walNoneRow.holds Tryz.pinned (OpenSpec.ofChange walNoneWrong)

/-- 'masonrylaw9.WalPlays': WHATEVER THE INPUT: true; the input reads as it did. -/
def walPlaysSpec : ChangeSpec := { name := "walPlays", fn := fun _ => fun
  | [d1, d2, d3] => { results := [.lit (.bool true)], args := [d1, d2, d3] }
  | _ => none }
def walPlaysRow : OpenClaim := { program := "ytepclihkniaieaagreatdoor", sum := "8575937fffff19377acbe3040f5b7b3d8745066b1621692d1003c3b2da12627c", func := "masonry/masonrylaw9.WalPlays", spec := "walPlays", inPlace := ["internal/abi.NoEscape", "internal/bytealg.MakeNoZero", "internal/bytealg.IndexByteString", "internal/bytealg.IndexString"], unfollowed := true, recurses := true, named := ["unicode/utf8.first", "unicode/utf8.acceptRanges", "internal/bytealg.MaxLen"], apart := false, laid := [("unicode/utf8.acceptRanges", laid_unicode_utf8_acceptRanges), ("unicode/utf8.first", laid_unicode_utf8_first)] }
def WalPlaysSaid : Prop := walPlaysRow.holds Tryz.pinned (OpenSpec.ofChange walPlaysSpec)

/-- ITS FALSE NEIGHBOUR: 'it returns false'. Refute it at one input. -/
def walPlaysWrong : ChangeSpec := { name := "walPlays", fn := fun _ => fun
  | [d1, d2, d3] => { results := [.lit (.bool false)], args := [d1, d2, d3] }
  | _ => none }
def WalPlaysWrongFalsely : Prop := walPlaysRow.holds Tryz.pinned (OpenSpec.ofChange walPlaysWrong)

/-- 'masonrylaw9.WalAll': WHATEVER THE INPUT: true; the input reads as it did. -/
def walAllSpec : ChangeSpec := { name := "walAll", fn := fun _ => fun
  | [d1, d2, d3, d4] => { results := [.lit (.bool true)], args := [d1, d2, d3, d4] }
  | _ => none }
def walAllRow : OpenClaim := { program := "ytepclihkniaieaagreatdoor", sum := "8575937fffff19377acbe3040f5b7b3d8745066b1621692d1003c3b2da12627c", func := "masonry/masonrylaw9.WalAll", spec := "walAll", inPlace := ["internal/abi.NoEscape", "internal/bytealg.MakeNoZero", "internal/bytealg.IndexByteString", "internal/bytealg.IndexString"], unfollowed := true, recurses := true, named := ["unicode/utf8.first", "unicode/utf8.acceptRanges", "internal/bytealg.MaxLen"], apart := false, laid := [("unicode/utf8.acceptRanges", laid_unicode_utf8_acceptRanges), ("unicode/utf8.first", laid_unicode_utf8_first)] }
def WalAllSaid : Prop := walAllRow.holds Tryz.pinned (OpenSpec.ofChange walAllSpec)

/-- ITS FALSE NEIGHBOUR: 'it returns false'. Refute it at one input. -/
def walAllWrong : ChangeSpec := { name := "walAll", fn := fun _ => fun
  | [d1, d2, d3, d4] => { results := [.lit (.bool false)], args := [d1, d2, d3, d4] }
  | _ => none }
def WalAllWrongFalsely : Prop := walAllRow.holds Tryz.pinned (OpenSpec.ofChange walAllWrong)

/-- 'masonrylaw9.WalCosts': WHATEVER THE INPUT: true; the input reads as it did. -/
def walCostsSpec : ChangeSpec := { name := "walCosts", fn := fun _ => fun
  | [d] => { results := [.lit (.bool true)], args := [d] }
  | _ => none }
def walCostsRow : OpenClaim := { program := "ytepclihkniaieaagreatdoor", sum := "8575937fffff19377acbe3040f5b7b3d8745066b1621692d1003c3b2da12627c", func := "masonry/masonrylaw9.WalCosts", spec := "walCosts", inPlace := ["internal/abi.NoEscape", "internal/bytealg.MakeNoZero", "internal/bytealg.IndexByteString", "internal/bytealg.IndexString"], unfollowed := true, recurses := true, named := ["unicode/utf8.first", "unicode/utf8.acceptRanges", "internal/bytealg.MaxLen"], apart := false, laid := [("unicode/utf8.acceptRanges", laid_unicode_utf8_acceptRanges), ("unicode/utf8.first", laid_unicode_utf8_first)] }
def WalCostsSaid : Prop := walCostsRow.holds Tryz.pinned (OpenSpec.ofChange walCostsSpec)

/-- ITS FALSE NEIGHBOUR: 'it returns false'. Refute it at one input. -/
def walCostsWrong : ChangeSpec := { name := "walCosts", fn := fun _ => fun
  | [d] => { results := [.lit (.bool false)], args := [d] }
  | _ => none }
def WalCostsWrongFalsely : Prop := walCostsRow.holds Tryz.pinned (OpenSpec.ofChange walCostsWrong)

/-- 'masonrylaw12.ChainRings': WHATEVER THE INPUT: true; the input reads as it did. -/
def chainRingsSpec : ChangeSpec := { name := "chainRings", fn := fun _ => fun
  | [d1, d2, d3] => { results := [.lit (.bool true)], args := [d1, d2, d3] }
  | _ => none }
def chainRingsRow : OpenClaim := { program := "ytepclihkniaieaagreatdoor", sum := "8575937fffff19377acbe3040f5b7b3d8745066b1621692d1003c3b2da12627c", func := "masonry/masonrylaw12.ChainRings", spec := "chainRings", inPlace := ["internal/abi.NoEscape", "internal/bytealg.MakeNoZero", "internal/bytealg.IndexByteString", "internal/bytealg.IndexString", "maps.clone"], unfollowed := true, recurses := true, named := ["unicode/utf8.first", "unicode/utf8.acceptRanges", "internal/bytealg.MaxLen"], apart := false, laid := [("unicode/utf8.acceptRanges", laid_unicode_utf8_acceptRanges), ("unicode/utf8.first", laid_unicode_utf8_first)] }
def ChainRingsSaid : Prop := chainRingsRow.holds Tryz.pinned (OpenSpec.ofChange chainRingsSpec)

/-- ITS FALSE NEIGHBOUR: 'it returns false'. Refute it at one input. -/
def chainRingsWrong : ChangeSpec := { name := "chainRings", fn := fun _ => fun
  | [d1, d2, d3] => { results := [.lit (.bool false)], args := [d1, d2, d3] }
  | _ => none }
def ChainRingsWrongFalsely : Prop := chainRingsRow.holds Tryz.pinned (OpenSpec.ofChange chainRingsWrong)

/-- 'masonrylaw11.DeskLarge': WHATEVER THE INPUT: true; the input reads as it did. -/
def deskLargeSpec : ChangeSpec := { name := "deskLarge", fn := fun _ => fun
  | [d] => { results := [.lit (.bool true)], args := [d] }
  | _ => none }
def deskLargeRow : OpenClaim := { program := "ytepclihkniaieaagreatdoor", sum := "8575937fffff19377acbe3040f5b7b3d8745066b1621692d1003c3b2da12627c", func := "masonry/masonrylaw11.DeskLarge", spec := "deskLarge", inPlace := ["internal/abi.NoEscape", "internal/bytealg.MakeNoZero", "internal/bytealg.IndexByteString", "internal/bytealg.IndexString", "slices.overlaps[masonry/api.Write]"], unfollowed := true, recurses := true, named := ["unicode/utf8.first", "unicode/utf8.acceptRanges", "internal/bytealg.MaxLen"], apart := false, laid := [("unicode/utf8.acceptRanges", laid_unicode_utf8_acceptRanges), ("unicode/utf8.first", laid_unicode_utf8_first)] }
def DeskLargeSaid : Prop := deskLargeRow.holds Tryz.pinned (OpenSpec.ofChange deskLargeSpec)

/-- ITS FALSE NEIGHBOUR: 'it returns false'. Refute it at one input. -/
def deskLargeWrong : ChangeSpec := { name := "deskLarge", fn := fun _ => fun
  | [d] => { results := [.lit (.bool false)], args := [d] }
  | _ => none }
def DeskLargeWrongFalsely : Prop := deskLargeRow.holds Tryz.pinned (OpenSpec.ofChange deskLargeWrong)

/-- 'masonrylaw12.ChainSizes': WHATEVER THE INPUT: true; the input reads as it did. -/
def chainSizesSpec : ChangeSpec := { name := "chainSizes", fn := fun _ => fun
  | [d1, d2, d3] => { results := [.lit (.bool true)], args := [d1, d2, d3] }
  | _ => none }
def chainSizesRow : OpenClaim := { program := "ytepclihkniaieaagreatdoor", sum := "8575937fffff19377acbe3040f5b7b3d8745066b1621692d1003c3b2da12627c", func := "masonry/masonrylaw12.ChainSizes", spec := "chainSizes", inPlace := ["internal/abi.NoEscape", "internal/bytealg.MakeNoZero", "internal/bytealg.IndexByteString", "internal/bytealg.IndexString", "maps.clone"], unfollowed := true, recurses := true, named := ["unicode/utf8.first", "unicode/utf8.acceptRanges", "internal/bytealg.MaxLen"], apart := false, laid := [("unicode/utf8.acceptRanges", laid_unicode_utf8_acceptRanges), ("unicode/utf8.first", laid_unicode_utf8_first)] }
def ChainSizesSaid : Prop := chainSizesRow.holds Tryz.pinned (OpenSpec.ofChange chainSizesSpec)

/-- ITS FALSE NEIGHBOUR: 'it returns false'. Refute it at one input. -/
def chainSizesWrong : ChangeSpec := { name := "chainSizes", fn := fun _ => fun
  | [d1, d2, d3] => { results := [.lit (.bool false)], args := [d1, d2, d3] }
  | _ => none }
def ChainSizesWrongFalsely : Prop := chainSizesRow.holds Tryz.pinned (OpenSpec.ofChange chainSizesWrong)

/- THE SECOND FORM. 'bulk': how many values and letters a reading holds, each counted each time it is reached (what is shared counts as often as it is met; a slice's spare places count too). A statement '..UptoSaid' is the law's where the arguments, and the package variables that the reading takes, are together of bulk at most 1048576: NARROWER than '..Said'. Prove '..Said' where nothing that the law and all that it calls make is longer than what came in: it says more and counts as full. Else prove '..UptoSaid'. A law counts once. -/
mutual
def uptoBulk {H : Type} : DataW H → Nat
  | .lit (.string bytes) => bytes.length + 1
  | .lit _ => 1
  | .nil => 1
  | .ptr d => uptoBulk d + 1
  | .slice elems spare => uptoBulkAll elems + uptoBulkAll spare + 1
  | .agg parts => uptoBulkAll parts + 1
  | .iface _ d => uptoBulk d + 1
  | .map entries => uptoBulkEntries entries + 1
  | .held _ => 1
def uptoBulkAll {H : Type} : List (DataW H) → Nat
  | [] => 0
  | d :: r => uptoBulk d + uptoBulkAll r
def uptoBulkEntries {H : Type} : List (Lit × DataW H) → Nat
  | [] => 0
  | x :: r => uptoBulkEntry x + uptoBulkEntries r
def uptoBulkEntry {H : Type} : Lit × DataW H → Nat
  | (.string bytes, d) => bytes.length + uptoBulk d + 1
  | (_, d) => uptoBulk d + 1
 end
def uptoSmall : (H : Type) → List (DataW H) → Bool := fun _ ds => decide (uptoBulkAll ds ≤ 1048576)
def OpenSpec.upto (s : _root_.Go.ChangeSpec) : _root_.Go.OpenSpec := { _root_.Go.OpenSpec.ofChange s with cond := some uptoSmall }

/-- 'masonrylaw8.HeadTells', WHERE WHAT IT READS IS OF BULK AT MOST 1048576: true; the input reads as it did. -/
def headTellsUptoRow : OpenClaim := { program := "ytepclihkniaieaagreatdoor", sum := "8575937fffff19377acbe3040f5b7b3d8745066b1621692d1003c3b2da12627c", func := "masonry/masonrylaw8.HeadTells", spec := "headTells", inPlace := ["internal/bytealg.IndexByteString", "internal/bytealg.IndexString"], recurses := true, named := ["unicode/utf8.first", "unicode/utf8.acceptRanges", "internal/bytealg.MaxLen"], apart := false, laid := [("unicode/utf8.acceptRanges", laid_unicode_utf8_acceptRanges), ("unicode/utf8.first", laid_unicode_utf8_first)], narrowed := true }
def HeadTellsUptoSaid : Prop := headTellsUptoRow.holds Tryz.pinned (OpenSpec.upto headTellsSpec)

/-- 'masonrylaw9.WalNone', WHERE WHAT IT READS IS OF BULK AT MOST 1048576: true; the input reads as it did. -/
def walNoneUptoRow : OpenClaim := { program := "ytepclihkniaieaagreatdoor", sum := "8575937fffff19377acbe3040f5b7b3d8745066b1621692d1003c3b2da12627c", func := "masonry/masonrylaw9.WalNone", spec := "walNone", inPlace := ["internal/abi.NoEscape", "internal/bytealg.MakeNoZero", "internal/bytealg.IndexByteString", "internal/bytealg.IndexString"], unfollowed := true, recurses := true, named := ["unicode/utf8.first", "unicode/utf8.acceptRanges", "internal/bytealg.MaxLen"], apart := false, laid := [("unicode/utf8.acceptRanges", laid_unicode_utf8_acceptRanges), ("unicode/utf8.first", laid_unicode_utf8_first)], narrowed := true }
def WalNoneUptoSaid : Prop := walNoneUptoRow.holds Tryz.pinned (OpenSpec.upto walNoneSpec)

/-- 'masonrylaw9.WalPlays', WHERE WHAT IT READS IS OF BULK AT MOST 1048576: true; the input reads as it did. -/
def walPlaysUptoRow : OpenClaim := { program := "ytepclihkniaieaagreatdoor", sum := "8575937fffff19377acbe3040f5b7b3d8745066b1621692d1003c3b2da12627c", func := "masonry/masonrylaw9.WalPlays", spec := "walPlays", inPlace := ["internal/abi.NoEscape", "internal/bytealg.MakeNoZero", "internal/bytealg.IndexByteString", "internal/bytealg.IndexString"], unfollowed := true, recurses := true, named := ["unicode/utf8.first", "unicode/utf8.acceptRanges", "internal/bytealg.MaxLen"], apart := false, laid := [("unicode/utf8.acceptRanges", laid_unicode_utf8_acceptRanges), ("unicode/utf8.first", laid_unicode_utf8_first)], narrowed := true }
def WalPlaysUptoSaid : Prop := walPlaysUptoRow.holds Tryz.pinned (OpenSpec.upto walPlaysSpec)

/-- 'masonrylaw9.WalAll', WHERE WHAT IT READS IS OF BULK AT MOST 1048576: true; the input reads as it did. -/
def walAllUptoRow : OpenClaim := { program := "ytepclihkniaieaagreatdoor", sum := "8575937fffff19377acbe3040f5b7b3d8745066b1621692d1003c3b2da12627c", func := "masonry/masonrylaw9.WalAll", spec := "walAll", inPlace := ["internal/abi.NoEscape", "internal/bytealg.MakeNoZero", "internal/bytealg.IndexByteString", "internal/bytealg.IndexString"], unfollowed := true, recurses := true, named := ["unicode/utf8.first", "unicode/utf8.acceptRanges", "internal/bytealg.MaxLen"], apart := false, laid := [("unicode/utf8.acceptRanges", laid_unicode_utf8_acceptRanges), ("unicode/utf8.first", laid_unicode_utf8_first)], narrowed := true }
def WalAllUptoSaid : Prop := walAllUptoRow.holds Tryz.pinned (OpenSpec.upto walAllSpec)

/-- 'masonrylaw9.WalCosts', WHERE WHAT IT READS IS OF BULK AT MOST 1048576: true; the input reads as it did. -/
def walCostsUptoRow : OpenClaim := { program := "ytepclihkniaieaagreatdoor", sum := "8575937fffff19377acbe3040f5b7b3d8745066b1621692d1003c3b2da12627c", func := "masonry/masonrylaw9.WalCosts", spec := "walCosts", inPlace := ["internal/abi.NoEscape", "internal/bytealg.MakeNoZero", "internal/bytealg.IndexByteString", "internal/bytealg.IndexString"], unfollowed := true, recurses := true, named := ["unicode/utf8.first", "unicode/utf8.acceptRanges", "internal/bytealg.MaxLen"], apart := false, laid := [("unicode/utf8.acceptRanges", laid_unicode_utf8_acceptRanges), ("unicode/utf8.first", laid_unicode_utf8_first)], narrowed := true }
def WalCostsUptoSaid : Prop := walCostsUptoRow.holds Tryz.pinned (OpenSpec.upto walCostsSpec)

/-- 'masonrylaw12.ChainRings', WHERE WHAT IT READS IS OF BULK AT MOST 1048576: true; the input reads as it did. -/
def chainRingsUptoRow : OpenClaim := { program := "ytepclihkniaieaagreatdoor", sum := "8575937fffff19377acbe3040f5b7b3d8745066b1621692d1003c3b2da12627c", func := "masonry/masonrylaw12.ChainRings", spec := "chainRings", inPlace := ["internal/abi.NoEscape", "internal/bytealg.MakeNoZero", "internal/bytealg.IndexByteString", "internal/bytealg.IndexString", "maps.clone"], unfollowed := true, recurses := true, named := ["unicode/utf8.first", "unicode/utf8.acceptRanges", "internal/bytealg.MaxLen"], apart := false, laid := [("unicode/utf8.acceptRanges", laid_unicode_utf8_acceptRanges), ("unicode/utf8.first", laid_unicode_utf8_first)], narrowed := true }
def ChainRingsUptoSaid : Prop := chainRingsUptoRow.holds Tryz.pinned (OpenSpec.upto chainRingsSpec)

/-- 'masonrylaw11.DeskLarge', WHERE WHAT IT READS IS OF BULK AT MOST 1048576: true; the input reads as it did. -/
def deskLargeUptoRow : OpenClaim := { program := "ytepclihkniaieaagreatdoor", sum := "8575937fffff19377acbe3040f5b7b3d8745066b1621692d1003c3b2da12627c", func := "masonry/masonrylaw11.DeskLarge", spec := "deskLarge", inPlace := ["internal/abi.NoEscape", "internal/bytealg.MakeNoZero", "internal/bytealg.IndexByteString", "internal/bytealg.IndexString", "slices.overlaps[masonry/api.Write]"], unfollowed := true, recurses := true, named := ["unicode/utf8.first", "unicode/utf8.acceptRanges", "internal/bytealg.MaxLen"], apart := false, laid := [("unicode/utf8.acceptRanges", laid_unicode_utf8_acceptRanges), ("unicode/utf8.first", laid_unicode_utf8_first)], narrowed := true }
def DeskLargeUptoSaid : Prop := deskLargeUptoRow.holds Tryz.pinned (OpenSpec.upto deskLargeSpec)

/-- 'masonrylaw12.ChainSizes', WHERE WHAT IT READS IS OF BULK AT MOST 1048576: true; the input reads as it did. -/
def chainSizesUptoRow : OpenClaim := { program := "ytepclihkniaieaagreatdoor", sum := "8575937fffff19377acbe3040f5b7b3d8745066b1621692d1003c3b2da12627c", func := "masonry/masonrylaw12.ChainSizes", spec := "chainSizes", inPlace := ["internal/abi.NoEscape", "internal/bytealg.MakeNoZero", "internal/bytealg.IndexByteString", "internal/bytealg.IndexString", "maps.clone"], unfollowed := true, recurses := true, named := ["unicode/utf8.first", "unicode/utf8.acceptRanges", "internal/bytealg.MaxLen"], apart := false, laid := [("unicode/utf8.acceptRanges", laid_unicode_utf8_acceptRanges), ("unicode/utf8.first", laid_unicode_utf8_first)], narrowed := true }
def ChainSizesUptoSaid : Prop := chainSizesUptoRow.holds Tryz.pinned (OpenSpec.upto chainSizesSpec)

end Rows
end Go.Proofs.YtepclihkniaieaaGreatDoor
