/-
  NARROWER THAN 'FOR EVERY INPUT', by the rows' own cells (each row's printed sentence says how): ChainSpoilt: laid · PlanCuts: laid · PlanWhole: laid · PlanSpoilt: laid · DeskBacks: laid · TableKeeps: laid · DeskSpoilt: laid · DeskPlays: laid · ChainPlays: laid · BrickSpoilt: laid · BrickMany: laid · PlanTells: laid · BrickTells: laid.
  DERIVED. THE GIVEN ROWS OF THIS SEAT. 13 by the template 'for every input the law returns true; each argument reads behind the call as it read before'; 0 by the template 'total and deterministic' (their statements: YtmokmbhhnbcelaaGreatDoorTotals.lean).
  GIVEN WITH THE SEED: the statements are not yours to turn. If you find one false, say at which input.
  Laid BY PROGRAM, IN A SANDBOX (cutbox-rows.mjs): the forced cells as the released guide's own fill.sh prints them over the translation 5ff44e551465ecd6… (all of the seat's roots in one cut). By AI agents, Wed Nov 11 2026. No macro, syntax, notation, axiom, sorry.
-/
import Derived.Test.YtmokmbhhnbcelaaGreatDoorChecked
import GoSem.PinnedTables
import GoSem.Claim
import GoSem.ClaimJoined
import GoSem.ClaimMapViews
import Derived.JoinedTies
import Derived.KernelRfl
namespace Go.Proofs.YtmokmbhhnbcelaaGreatDoor
/- THE CELL 'sum', in the pinned program and in every row, IS THE sha256 OF THE DUMP (.gsa) THAT YtmokmbhhnbcelaaGreatDoorProg.lean LOADS. Nothing in Lean hashes anything: it is a label: what it is worth is what the hold of that sum in a sandbox is worth. -/
noncomputable def Tryz.pinned : Pinned := { name := "ytmokmbhhnbcelaagreatdoor", sum := "5ff44e551465ecd630e1181533995def49bb16e8a7b5e24883e23a2bb09108ae", checked := Tryz.checked }
namespace Rows
def none {H : Type} : Left H := { results := [], args := [] }

/- WHAT THE LISTED PACKAGE-LEVEL VARIABLES READ AS WHEN THE CALL BEGINS. Each datum BY PROGRAM (the guide's laid-datum.mjs) off the statement by which the dump's own 'gosem.cut.vars' lays the variable. In a bare row this is a premise. The card (YtmokmbhhnbcelaaGreatDoorCards.lean) ties it to the program's text. -/
def laid_unicode_utf8_acceptRanges {H : Type} : DataW H := .agg [.agg [.lit (.int .u8 128), .lit (.int .u8 191)], .agg [.lit (.int .u8 160), .lit (.int .u8 191)], .agg [.lit (.int .u8 128), .lit (.int .u8 159)], .agg [.lit (.int .u8 144), .lit (.int .u8 191)], .agg [.lit (.int .u8 128), .lit (.int .u8 143)], .agg [.lit (.int .u8 0), .lit (.int .u8 0)], .agg [.lit (.int .u8 0), .lit (.int .u8 0)], .agg [.lit (.int .u8 0), .lit (.int .u8 0)], .agg [.lit (.int .u8 0), .lit (.int .u8 0)], .agg [.lit (.int .u8 0), .lit (.int .u8 0)], .agg [.lit (.int .u8 0), .lit (.int .u8 0)], .agg [.lit (.int .u8 0), .lit (.int .u8 0)], .agg [.lit (.int .u8 0), .lit (.int .u8 0)], .agg [.lit (.int .u8 0), .lit (.int .u8 0)], .agg [.lit (.int .u8 0), .lit (.int .u8 0)], .agg [.lit (.int .u8 0), .lit (.int .u8 0)]]
/-- One of Go's own tables, pinned by name: the form's constant. -/
def laid_unicode_utf8_first : DataW Unit := Go.Pinned.utf8First

/-- 'masonrylaw12.ChainSpoilt': WHATEVER THE INPUT: true; the input reads as it did. -/
def chainSpoiltSpec : ChangeSpec := { name := "chainSpoilt", fn := fun _ => fun
  | [d1, d2, d3, d4, d5, d6] => { results := [.lit (.bool true)], args := [d1, d2, d3, d4, d5, d6] }
  | _ => none }
def chainSpoiltRow : OpenClaim := { program := "ytmokmbhhnbcelaagreatdoor", sum := "5ff44e551465ecd630e1181533995def49bb16e8a7b5e24883e23a2bb09108ae", func := "masonry/masonrylaw12.ChainSpoilt", spec := "chainSpoilt", inPlace := ["internal/abi.NoEscape", "internal/bytealg.MakeNoZero", "internal/bytealg.IndexByteString", "internal/bytealg.IndexString", "maps.clone"], unfollowed := true, recurses := true, named := ["unicode/utf8.first", "unicode/utf8.acceptRanges", "internal/bytealg.MaxLen"], apart := false, laid := [("unicode/utf8.acceptRanges", laid_unicode_utf8_acceptRanges), ("unicode/utf8.first", laid_unicode_utf8_first)] }
def ChainSpoiltSaid : Prop := chainSpoiltRow.holds Tryz.pinned (OpenSpec.ofChange chainSpoiltSpec)

/-- ITS FALSE NEIGHBOUR: 'it returns false'. Refute it at one input. -/
def chainSpoiltWrong : ChangeSpec := { name := "chainSpoilt", fn := fun _ => fun
  | [d1, d2, d3, d4, d5, d6] => { results := [.lit (.bool false)], args := [d1, d2, d3, d4, d5, d6] }
  | _ => none }
def ChainSpoiltWrongFalsely : Prop := chainSpoiltRow.holds Tryz.pinned (OpenSpec.ofChange chainSpoiltWrong)

/-- 'masonrylaw20.PlanCuts': WHATEVER THE INPUT: true; the input reads as it did. -/
def planCutsSpec : ChangeSpec := { name := "planCuts", fn := fun _ => fun
  | [d1, d2, d3] => { results := [.lit (.bool true)], args := [d1, d2, d3] }
  | _ => none }
def planCutsRow : OpenClaim := { program := "ytmokmbhhnbcelaagreatdoor", sum := "5ff44e551465ecd630e1181533995def49bb16e8a7b5e24883e23a2bb09108ae", func := "masonry/masonrylaw20.PlanCuts", spec := "planCuts", inPlace := ["internal/abi.NoEscape", "internal/bytealg.MakeNoZero", "internal/bytealg.IndexByteString", "internal/bytealg.IndexString", "maps.clone"], unfollowed := true, recurses := true, named := ["unicode/utf8.first", "unicode/utf8.acceptRanges", "internal/bytealg.MaxLen"], apart := false, laid := [("unicode/utf8.acceptRanges", laid_unicode_utf8_acceptRanges), ("unicode/utf8.first", laid_unicode_utf8_first)] }
def PlanCutsSaid : Prop := planCutsRow.holds Tryz.pinned (OpenSpec.ofChange planCutsSpec)

/-- ITS FALSE NEIGHBOUR: 'it returns false'. Refute it at one input. -/
def planCutsWrong : ChangeSpec := { name := "planCuts", fn := fun _ => fun
  | [d1, d2, d3] => { results := [.lit (.bool false)], args := [d1, d2, d3] }
  | _ => none }
def PlanCutsWrongFalsely : Prop := planCutsRow.holds Tryz.pinned (OpenSpec.ofChange planCutsWrong)

/-- 'masonrylaw20.PlanWhole': WHATEVER THE INPUT: true; the input reads as it did. -/
def planWholeSpec : ChangeSpec := { name := "planWhole", fn := fun _ => fun
  | [d1, d2] => { results := [.lit (.bool true)], args := [d1, d2] }
  | _ => none }
def planWholeRow : OpenClaim := { program := "ytmokmbhhnbcelaagreatdoor", sum := "5ff44e551465ecd630e1181533995def49bb16e8a7b5e24883e23a2bb09108ae", func := "masonry/masonrylaw20.PlanWhole", spec := "planWhole", inPlace := ["internal/abi.NoEscape", "internal/bytealg.MakeNoZero", "internal/bytealg.IndexByteString", "internal/bytealg.IndexString", "maps.clone"], unfollowed := true, recurses := true, named := ["unicode/utf8.first", "unicode/utf8.acceptRanges", "internal/bytealg.MaxLen"], apart := false, laid := [("unicode/utf8.acceptRanges", laid_unicode_utf8_acceptRanges), ("unicode/utf8.first", laid_unicode_utf8_first)] }
def PlanWholeSaid : Prop := planWholeRow.holds Tryz.pinned (OpenSpec.ofChange planWholeSpec)

/-- ITS FALSE NEIGHBOUR: 'it returns false'. Refute it at one input. -/
def planWholeWrong : ChangeSpec := { name := "planWhole", fn := fun _ => fun
  | [d1, d2] => { results := [.lit (.bool false)], args := [d1, d2] }
  | _ => none }
def PlanWholeWrongFalsely : Prop := planWholeRow.holds Tryz.pinned (OpenSpec.ofChange planWholeWrong)

/-- 'masonrylaw20.PlanSpoilt': WHATEVER THE INPUT: true; the input reads as it did. -/
def planSpoiltSpec : ChangeSpec := { name := "planSpoilt", fn := fun _ => fun
  | [d1, d2, d3] => { results := [.lit (.bool true)], args := [d1, d2, d3] }
  | _ => none }
def planSpoiltRow : OpenClaim := { program := "ytmokmbhhnbcelaagreatdoor", sum := "5ff44e551465ecd630e1181533995def49bb16e8a7b5e24883e23a2bb09108ae", func := "masonry/masonrylaw20.PlanSpoilt", spec := "planSpoilt", inPlace := ["internal/abi.NoEscape", "internal/bytealg.MakeNoZero", "internal/bytealg.IndexByteString", "internal/bytealg.IndexString", "maps.clone"], unfollowed := true, recurses := true, named := ["unicode/utf8.first", "unicode/utf8.acceptRanges", "internal/bytealg.MaxLen"], apart := false, laid := [("unicode/utf8.acceptRanges", laid_unicode_utf8_acceptRanges), ("unicode/utf8.first", laid_unicode_utf8_first)] }
def PlanSpoiltSaid : Prop := planSpoiltRow.holds Tryz.pinned (OpenSpec.ofChange planSpoiltSpec)

/-- ITS FALSE NEIGHBOUR: 'it returns false'. Refute it at one input. -/
def planSpoiltWrong : ChangeSpec := { name := "planSpoilt", fn := fun _ => fun
  | [d1, d2, d3] => { results := [.lit (.bool false)], args := [d1, d2, d3] }
  | _ => none }
def PlanSpoiltWrongFalsely : Prop := planSpoiltRow.holds Tryz.pinned (OpenSpec.ofChange planSpoiltWrong)

/-- 'masonrylaw11.DeskBacks': WHATEVER THE INPUT: true; the input reads as it did. -/
def deskBacksSpec : ChangeSpec := { name := "deskBacks", fn := fun _ => fun
  | [d1, d2, d3] => { results := [.lit (.bool true)], args := [d1, d2, d3] }
  | _ => none }
def deskBacksRow : OpenClaim := { program := "ytmokmbhhnbcelaagreatdoor", sum := "5ff44e551465ecd630e1181533995def49bb16e8a7b5e24883e23a2bb09108ae", func := "masonry/masonrylaw11.DeskBacks", spec := "deskBacks", inPlace := ["internal/abi.NoEscape", "internal/bytealg.MakeNoZero", "internal/bytealg.IndexByteString", "internal/bytealg.IndexString", "slices.overlaps[masonry/api.Write]", "maps.clone"], unfollowed := true, recurses := true, named := ["unicode/utf8.first", "unicode/utf8.acceptRanges", "internal/bytealg.MaxLen"], apart := false, laid := [("unicode/utf8.acceptRanges", laid_unicode_utf8_acceptRanges), ("unicode/utf8.first", laid_unicode_utf8_first)] }
def DeskBacksSaid : Prop := deskBacksRow.holds Tryz.pinned (OpenSpec.ofChange deskBacksSpec)

/-- ITS FALSE NEIGHBOUR: 'it returns false'. Refute it at one input. -/
def deskBacksWrong : ChangeSpec := { name := "deskBacks", fn := fun _ => fun
  | [d1, d2, d3] => { results := [.lit (.bool false)], args := [d1, d2, d3] }
  | _ => none }
def DeskBacksWrongFalsely : Prop := deskBacksRow.holds Tryz.pinned (OpenSpec.ofChange deskBacksWrong)

/-- 'masonrylaw21.TableKeeps': WHATEVER THE INPUT: true; the input reads as it did. -/
def tableKeepsSpec : ChangeSpec := { name := "tableKeeps", fn := fun _ => fun
  | [d1, d2] => { results := [.lit (.bool true)], args := [d1, d2] }
  | _ => none }
def tableKeepsRow : OpenClaim := { program := "ytmokmbhhnbcelaagreatdoor", sum := "5ff44e551465ecd630e1181533995def49bb16e8a7b5e24883e23a2bb09108ae", func := "masonry/masonrylaw21.TableKeeps", spec := "tableKeeps", inPlace := ["internal/bytealg.IndexByteString", "internal/bytealg.IndexString", "internal/abi.NoEscape", "internal/bytealg.MakeNoZero", "maps.clone"], unfollowed := true, recurses := true, named := ["unicode/utf8.first", "unicode/utf8.acceptRanges", "internal/bytealg.MaxLen"], apart := false, laid := [("unicode/utf8.acceptRanges", laid_unicode_utf8_acceptRanges), ("unicode/utf8.first", laid_unicode_utf8_first)] }
def TableKeepsSaid : Prop := tableKeepsRow.holds Tryz.pinned (OpenSpec.ofChange tableKeepsSpec)

/-- ITS FALSE NEIGHBOUR: 'it returns false'. Refute it at one input. -/
def tableKeepsWrong : ChangeSpec := { name := "tableKeeps", fn := fun _ => fun
  | [d1, d2] => { results := [.lit (.bool false)], args := [d1, d2] }
  | _ => none }
def TableKeepsWrongFalsely : Prop := tableKeepsRow.holds Tryz.pinned (OpenSpec.ofChange tableKeepsWrong)

/-- 'masonrylaw11.DeskSpoilt': WHATEVER THE INPUT: true; the input reads as it did. -/
def deskSpoiltSpec : ChangeSpec := { name := "deskSpoilt", fn := fun _ => fun
  | [d1, d2, d3] => { results := [.lit (.bool true)], args := [d1, d2, d3] }
  | _ => none }
def deskSpoiltRow : OpenClaim := { program := "ytmokmbhhnbcelaagreatdoor", sum := "5ff44e551465ecd630e1181533995def49bb16e8a7b5e24883e23a2bb09108ae", func := "masonry/masonrylaw11.DeskSpoilt", spec := "deskSpoilt", inPlace := ["internal/abi.NoEscape", "internal/bytealg.MakeNoZero", "internal/bytealg.IndexByteString", "internal/bytealg.IndexString", "slices.overlaps[masonry/api.Write]"], unfollowed := true, recurses := true, named := ["unicode/utf8.first", "unicode/utf8.acceptRanges", "internal/bytealg.MaxLen"], apart := false, laid := [("unicode/utf8.acceptRanges", laid_unicode_utf8_acceptRanges), ("unicode/utf8.first", laid_unicode_utf8_first)] }
def DeskSpoiltSaid : Prop := deskSpoiltRow.holds Tryz.pinned (OpenSpec.ofChange deskSpoiltSpec)

/-- ITS FALSE NEIGHBOUR: 'it returns false'. Refute it at one input. -/
def deskSpoiltWrong : ChangeSpec := { name := "deskSpoilt", fn := fun _ => fun
  | [d1, d2, d3] => { results := [.lit (.bool false)], args := [d1, d2, d3] }
  | _ => none }
def DeskSpoiltWrongFalsely : Prop := deskSpoiltRow.holds Tryz.pinned (OpenSpec.ofChange deskSpoiltWrong)

/-- 'masonrylaw11.DeskPlays': WHATEVER THE INPUT: true; the input reads as it did. -/
def deskPlaysSpec : ChangeSpec := { name := "deskPlays", fn := fun _ => fun
  | [d1, d2] => { results := [.lit (.bool true)], args := [d1, d2] }
  | _ => none }
def deskPlaysRow : OpenClaim := { program := "ytmokmbhhnbcelaagreatdoor", sum := "5ff44e551465ecd630e1181533995def49bb16e8a7b5e24883e23a2bb09108ae", func := "masonry/masonrylaw11.DeskPlays", spec := "deskPlays", inPlace := ["internal/abi.NoEscape", "internal/bytealg.MakeNoZero", "internal/bytealg.IndexByteString", "internal/bytealg.IndexString", "slices.overlaps[masonry/api.Write]", "maps.clone"], unfollowed := true, recurses := true, named := ["unicode/utf8.first", "unicode/utf8.acceptRanges", "internal/bytealg.MaxLen"], apart := false, laid := [("unicode/utf8.acceptRanges", laid_unicode_utf8_acceptRanges), ("unicode/utf8.first", laid_unicode_utf8_first)] }
def DeskPlaysSaid : Prop := deskPlaysRow.holds Tryz.pinned (OpenSpec.ofChange deskPlaysSpec)

/-- ITS FALSE NEIGHBOUR: 'it returns false'. Refute it at one input. -/
def deskPlaysWrong : ChangeSpec := { name := "deskPlays", fn := fun _ => fun
  | [d1, d2] => { results := [.lit (.bool false)], args := [d1, d2] }
  | _ => none }
def DeskPlaysWrongFalsely : Prop := deskPlaysRow.holds Tryz.pinned (OpenSpec.ofChange deskPlaysWrong)

/-- 'masonrylaw12.ChainPlays': WHATEVER THE INPUT: true; the input reads as it did. -/
def chainPlaysSpec : ChangeSpec := { name := "chainPlays", fn := fun _ => fun
  | [d1, d2, d3] => { results := [.lit (.bool true)], args := [d1, d2, d3] }
  | _ => none }
def chainPlaysRow : OpenClaim := { program := "ytmokmbhhnbcelaagreatdoor", sum := "5ff44e551465ecd630e1181533995def49bb16e8a7b5e24883e23a2bb09108ae", func := "masonry/masonrylaw12.ChainPlays", spec := "chainPlays", inPlace := ["internal/abi.NoEscape", "internal/bytealg.MakeNoZero", "internal/bytealg.IndexByteString", "internal/bytealg.IndexString", "maps.clone", "slices.overlaps[masonry/api.Write]"], unfollowed := true, recurses := true, named := ["unicode/utf8.first", "unicode/utf8.acceptRanges", "internal/bytealg.MaxLen"], apart := false, laid := [("unicode/utf8.acceptRanges", laid_unicode_utf8_acceptRanges), ("unicode/utf8.first", laid_unicode_utf8_first)] }
def ChainPlaysSaid : Prop := chainPlaysRow.holds Tryz.pinned (OpenSpec.ofChange chainPlaysSpec)

/-- ITS FALSE NEIGHBOUR: 'it returns false'. Refute it at one input. -/
def chainPlaysWrong : ChangeSpec := { name := "chainPlays", fn := fun _ => fun
  | [d1, d2, d3] => { results := [.lit (.bool false)], args := [d1, d2, d3] }
  | _ => none }
def ChainPlaysWrongFalsely : Prop := chainPlaysRow.holds Tryz.pinned (OpenSpec.ofChange chainPlaysWrong)

/-- 'masonrylaw16.BrickSpoilt': WHATEVER THE INPUT: true; the input reads as it did. -/
def brickSpoiltSpec : ChangeSpec := { name := "brickSpoilt", fn := fun _ => fun
  | [d1, d2, d3, d4] => { results := [.lit (.bool true)], args := [d1, d2, d3, d4] }
  | _ => none }
def brickSpoiltRow : OpenClaim := { program := "ytmokmbhhnbcelaagreatdoor", sum := "5ff44e551465ecd630e1181533995def49bb16e8a7b5e24883e23a2bb09108ae", func := "masonry/masonrylaw16.BrickSpoilt", spec := "brickSpoilt", inPlace := ["internal/abi.NoEscape", "internal/bytealg.MakeNoZero", "internal/bytealg.IndexByteString", "internal/bytealg.IndexString", "maps.clone"], unfollowed := true, recurses := true, named := ["unicode/utf8.first", "unicode/utf8.acceptRanges", "internal/bytealg.MaxLen"], apart := false, laid := [("unicode/utf8.acceptRanges", laid_unicode_utf8_acceptRanges), ("unicode/utf8.first", laid_unicode_utf8_first)] }
def BrickSpoiltSaid : Prop := brickSpoiltRow.holds Tryz.pinned (OpenSpec.ofChange brickSpoiltSpec)

/-- ITS FALSE NEIGHBOUR: 'it returns false'. Refute it at one input. -/
def brickSpoiltWrong : ChangeSpec := { name := "brickSpoilt", fn := fun _ => fun
  | [d1, d2, d3, d4] => { results := [.lit (.bool false)], args := [d1, d2, d3, d4] }
  | _ => none }
def BrickSpoiltWrongFalsely : Prop := brickSpoiltRow.holds Tryz.pinned (OpenSpec.ofChange brickSpoiltWrong)

/-- 'masonrylaw16.BrickMany': WHATEVER THE INPUT: true; the input reads as it did. -/
def brickManySpec : ChangeSpec := { name := "brickMany", fn := fun _ => fun
  | [d1, d2, d3] => { results := [.lit (.bool true)], args := [d1, d2, d3] }
  | _ => none }
def brickManyRow : OpenClaim := { program := "ytmokmbhhnbcelaagreatdoor", sum := "5ff44e551465ecd630e1181533995def49bb16e8a7b5e24883e23a2bb09108ae", func := "masonry/masonrylaw16.BrickMany", spec := "brickMany", inPlace := ["internal/abi.NoEscape", "internal/bytealg.MakeNoZero", "internal/bytealg.IndexByteString", "internal/bytealg.IndexString", "maps.clone"], unfollowed := true, recurses := true, named := ["unicode/utf8.first", "unicode/utf8.acceptRanges", "internal/bytealg.MaxLen"], apart := false, laid := [("unicode/utf8.acceptRanges", laid_unicode_utf8_acceptRanges), ("unicode/utf8.first", laid_unicode_utf8_first)] }
def BrickManySaid : Prop := brickManyRow.holds Tryz.pinned (OpenSpec.ofChange brickManySpec)

/-- ITS FALSE NEIGHBOUR: 'it returns false'. Refute it at one input. -/
def brickManyWrong : ChangeSpec := { name := "brickMany", fn := fun _ => fun
  | [d1, d2, d3] => { results := [.lit (.bool false)], args := [d1, d2, d3] }
  | _ => none }
def BrickManyWrongFalsely : Prop := brickManyRow.holds Tryz.pinned (OpenSpec.ofChange brickManyWrong)

/-- 'masonrylaw20.PlanTells': WHATEVER THE INPUT: true; the input reads as it did. -/
def planTellsSpec : ChangeSpec := { name := "planTells", fn := fun _ => fun
  | [d1, d2, d3] => { results := [.lit (.bool true)], args := [d1, d2, d3] }
  | _ => none }
def planTellsRow : OpenClaim := { program := "ytmokmbhhnbcelaagreatdoor", sum := "5ff44e551465ecd630e1181533995def49bb16e8a7b5e24883e23a2bb09108ae", func := "masonry/masonrylaw20.PlanTells", spec := "planTells", inPlace := ["internal/abi.NoEscape", "internal/bytealg.MakeNoZero", "internal/bytealg.IndexByteString", "internal/bytealg.IndexString", "maps.clone", "slices.overlaps[masonry/api.Write]"], unfollowed := true, recurses := true, named := ["unicode/utf8.first", "unicode/utf8.acceptRanges", "internal/bytealg.MaxLen"], apart := false, laid := [("unicode/utf8.acceptRanges", laid_unicode_utf8_acceptRanges), ("unicode/utf8.first", laid_unicode_utf8_first)] }
def PlanTellsSaid : Prop := planTellsRow.holds Tryz.pinned (OpenSpec.ofChange planTellsSpec)

/-- ITS FALSE NEIGHBOUR: 'it returns false'. Refute it at one input. -/
def planTellsWrong : ChangeSpec := { name := "planTells", fn := fun _ => fun
  | [d1, d2, d3] => { results := [.lit (.bool false)], args := [d1, d2, d3] }
  | _ => none }
def PlanTellsWrongFalsely : Prop := planTellsRow.holds Tryz.pinned (OpenSpec.ofChange planTellsWrong)

/-- 'masonrylaw16.BrickTells': WHATEVER THE INPUT: true; the input reads as it did. -/
def brickTellsSpec : ChangeSpec := { name := "brickTells", fn := fun _ => fun
  | [d1, d2, d3] => { results := [.lit (.bool true)], args := [d1, d2, d3] }
  | _ => none }
def brickTellsRow : OpenClaim := { program := "ytmokmbhhnbcelaagreatdoor", sum := "5ff44e551465ecd630e1181533995def49bb16e8a7b5e24883e23a2bb09108ae", func := "masonry/masonrylaw16.BrickTells", spec := "brickTells", inPlace := ["internal/abi.NoEscape", "internal/bytealg.MakeNoZero", "internal/bytealg.IndexByteString", "internal/bytealg.IndexString", "maps.clone", "slices.overlaps[masonry/api.Write]"], unfollowed := true, recurses := true, named := ["unicode/utf8.first", "unicode/utf8.acceptRanges", "internal/bytealg.MaxLen"], apart := false, laid := [("unicode/utf8.acceptRanges", laid_unicode_utf8_acceptRanges), ("unicode/utf8.first", laid_unicode_utf8_first)] }
def BrickTellsSaid : Prop := brickTellsRow.holds Tryz.pinned (OpenSpec.ofChange brickTellsSpec)

/-- ITS FALSE NEIGHBOUR: 'it returns false'. Refute it at one input. -/
def brickTellsWrong : ChangeSpec := { name := "brickTells", fn := fun _ => fun
  | [d1, d2, d3] => { results := [.lit (.bool false)], args := [d1, d2, d3] }
  | _ => none }
def BrickTellsWrongFalsely : Prop := brickTellsRow.holds Tryz.pinned (OpenSpec.ofChange brickTellsWrong)

/- THE SECOND FORM. 'bulk': how many values and letters a reading holds, each counted each time it is reached (what is shared counts as often as it is met; a slice's spare places count too). A statement '..UptoSaid' is the law's where the arguments, and the package variables that the reading takes, are together of bulk at most 1048576: NARROWER than '..Said'. Prove '..Said' where nothing that the law and all that it calls make is longer than what came in: it says more and counts as full. Else prove '..UptoSaid'. A law counts once. -/
mutual
def uptoBulk {H : Type} : DataW H → Nat
  | .lit (.string bytes) => bytes.length + 1
  | .lit _ => 1
  | .nil => 1
  | .ptr d => uptoBulk d + 1
  | .slice elems spare => uptoBulkAll elems + uptoBulkAll spare + 1
  | .agg parts => uptoBulkAll parts + 1
  | .iface _ d => uptoBulk d + 1
  | .map entries => uptoBulkEntries entries + 1
  | .held _ => 1
def uptoBulkAll {H : Type} : List (DataW H) → Nat
  | [] => 0
  | d :: r => uptoBulk d + uptoBulkAll r
def uptoBulkEntries {H : Type} : List (Lit × DataW H) → Nat
  | [] => 0
  | x :: r => uptoBulkEntry x + uptoBulkEntries r
def uptoBulkEntry {H : Type} : Lit × DataW H → Nat
  | (.string bytes, d) => bytes.length + uptoBulk d + 1
  | (_, d) => uptoBulk d + 1
 end
def uptoSmall : (H : Type) → List (DataW H) → Bool := fun _ ds => decide (uptoBulkAll ds ≤ 1048576)
def OpenSpec.upto (s : _root_.Go.ChangeSpec) : _root_.Go.OpenSpec := { _root_.Go.OpenSpec.ofChange s with cond := some uptoSmall }

/-- 'masonrylaw12.ChainSpoilt', WHERE WHAT IT READS IS OF BULK AT MOST 1048576: true; the input reads as it did. -/
def chainSpoiltUptoRow : OpenClaim := { program := "ytmokmbhhnbcelaagreatdoor", sum := "5ff44e551465ecd630e1181533995def49bb16e8a7b5e24883e23a2bb09108ae", func := "masonry/masonrylaw12.ChainSpoilt", spec := "chainSpoilt", inPlace := ["internal/abi.NoEscape", "internal/bytealg.MakeNoZero", "internal/bytealg.IndexByteString", "internal/bytealg.IndexString", "maps.clone"], unfollowed := true, recurses := true, named := ["unicode/utf8.first", "unicode/utf8.acceptRanges", "internal/bytealg.MaxLen"], apart := false, laid := [("unicode/utf8.acceptRanges", laid_unicode_utf8_acceptRanges), ("unicode/utf8.first", laid_unicode_utf8_first)], narrowed := true }
def ChainSpoiltUptoSaid : Prop := chainSpoiltUptoRow.holds Tryz.pinned (OpenSpec.upto chainSpoiltSpec)

/-- 'masonrylaw20.PlanCuts', WHERE WHAT IT READS IS OF BULK AT MOST 1048576: true; the input reads as it did. -/
def planCutsUptoRow : OpenClaim := { program := "ytmokmbhhnbcelaagreatdoor", sum := "5ff44e551465ecd630e1181533995def49bb16e8a7b5e24883e23a2bb09108ae", func := "masonry/masonrylaw20.PlanCuts", spec := "planCuts", inPlace := ["internal/abi.NoEscape", "internal/bytealg.MakeNoZero", "internal/bytealg.IndexByteString", "internal/bytealg.IndexString", "maps.clone"], unfollowed := true, recurses := true, named := ["unicode/utf8.first", "unicode/utf8.acceptRanges", "internal/bytealg.MaxLen"], apart := false, laid := [("unicode/utf8.acceptRanges", laid_unicode_utf8_acceptRanges), ("unicode/utf8.first", laid_unicode_utf8_first)], narrowed := true }
def PlanCutsUptoSaid : Prop := planCutsUptoRow.holds Tryz.pinned (OpenSpec.upto planCutsSpec)

/-- 'masonrylaw20.PlanWhole', WHERE WHAT IT READS IS OF BULK AT MOST 1048576: true; the input reads as it did. -/
def planWholeUptoRow : OpenClaim := { program := "ytmokmbhhnbcelaagreatdoor", sum := "5ff44e551465ecd630e1181533995def49bb16e8a7b5e24883e23a2bb09108ae", func := "masonry/masonrylaw20.PlanWhole", spec := "planWhole", inPlace := ["internal/abi.NoEscape", "internal/bytealg.MakeNoZero", "internal/bytealg.IndexByteString", "internal/bytealg.IndexString", "maps.clone"], unfollowed := true, recurses := true, named := ["unicode/utf8.first", "unicode/utf8.acceptRanges", "internal/bytealg.MaxLen"], apart := false, laid := [("unicode/utf8.acceptRanges", laid_unicode_utf8_acceptRanges), ("unicode/utf8.first", laid_unicode_utf8_first)], narrowed := true }
def PlanWholeUptoSaid : Prop := planWholeUptoRow.holds Tryz.pinned (OpenSpec.upto planWholeSpec)

/-- 'masonrylaw20.PlanSpoilt', WHERE WHAT IT READS IS OF BULK AT MOST 1048576: true; the input reads as it did. -/
def planSpoiltUptoRow : OpenClaim := { program := "ytmokmbhhnbcelaagreatdoor", sum := "5ff44e551465ecd630e1181533995def49bb16e8a7b5e24883e23a2bb09108ae", func := "masonry/masonrylaw20.PlanSpoilt", spec := "planSpoilt", inPlace := ["internal/abi.NoEscape", "internal/bytealg.MakeNoZero", "internal/bytealg.IndexByteString", "internal/bytealg.IndexString", "maps.clone"], unfollowed := true, recurses := true, named := ["unicode/utf8.first", "unicode/utf8.acceptRanges", "internal/bytealg.MaxLen"], apart := false, laid := [("unicode/utf8.acceptRanges", laid_unicode_utf8_acceptRanges), ("unicode/utf8.first", laid_unicode_utf8_first)], narrowed := true }
def PlanSpoiltUptoSaid : Prop := planSpoiltUptoRow.holds Tryz.pinned (OpenSpec.upto planSpoiltSpec)

/-- 'masonrylaw11.DeskBacks', WHERE WHAT IT READS IS OF BULK AT MOST 1048576: true; the input reads as it did. -/
def deskBacksUptoRow : OpenClaim := { program := "ytmokmbhhnbcelaagreatdoor", sum := "5ff44e551465ecd630e1181533995def49bb16e8a7b5e24883e23a2bb09108ae", func := "masonry/masonrylaw11.DeskBacks", spec := "deskBacks", inPlace := ["internal/abi.NoEscape", "internal/bytealg.MakeNoZero", "internal/bytealg.IndexByteString", "internal/bytealg.IndexString", "slices.overlaps[masonry/api.Write]", "maps.clone"], unfollowed := true, recurses := true, named := ["unicode/utf8.first", "unicode/utf8.acceptRanges", "internal/bytealg.MaxLen"], apart := false, laid := [("unicode/utf8.acceptRanges", laid_unicode_utf8_acceptRanges), ("unicode/utf8.first", laid_unicode_utf8_first)], narrowed := true }
def DeskBacksUptoSaid : Prop := deskBacksUptoRow.holds Tryz.pinned (OpenSpec.upto deskBacksSpec)

/-- 'masonrylaw21.TableKeeps', WHERE WHAT IT READS IS OF BULK AT MOST 1048576: true; the input reads as it did. -/
def tableKeepsUptoRow : OpenClaim := { program := "ytmokmbhhnbcelaagreatdoor", sum := "5ff44e551465ecd630e1181533995def49bb16e8a7b5e24883e23a2bb09108ae", func := "masonry/masonrylaw21.TableKeeps", spec := "tableKeeps", inPlace := ["internal/bytealg.IndexByteString", "internal/bytealg.IndexString", "internal/abi.NoEscape", "internal/bytealg.MakeNoZero", "maps.clone"], unfollowed := true, recurses := true, named := ["unicode/utf8.first", "unicode/utf8.acceptRanges", "internal/bytealg.MaxLen"], apart := false, laid := [("unicode/utf8.acceptRanges", laid_unicode_utf8_acceptRanges), ("unicode/utf8.first", laid_unicode_utf8_first)], narrowed := true }
def TableKeepsUptoSaid : Prop := tableKeepsUptoRow.holds Tryz.pinned (OpenSpec.upto tableKeepsSpec)

/-- 'masonrylaw11.DeskSpoilt', WHERE WHAT IT READS IS OF BULK AT MOST 1048576: true; the input reads as it did. -/
def deskSpoiltUptoRow : OpenClaim := { program := "ytmokmbhhnbcelaagreatdoor", sum := "5ff44e551465ecd630e1181533995def49bb16e8a7b5e24883e23a2bb09108ae", func := "masonry/masonrylaw11.DeskSpoilt", spec := "deskSpoilt", inPlace := ["internal/abi.NoEscape", "internal/bytealg.MakeNoZero", "internal/bytealg.IndexByteString", "internal/bytealg.IndexString", "slices.overlaps[masonry/api.Write]"], unfollowed := true, recurses := true, named := ["unicode/utf8.first", "unicode/utf8.acceptRanges", "internal/bytealg.MaxLen"], apart := false, laid := [("unicode/utf8.acceptRanges", laid_unicode_utf8_acceptRanges), ("unicode/utf8.first", laid_unicode_utf8_first)], narrowed := true }
def DeskSpoiltUptoSaid : Prop := deskSpoiltUptoRow.holds Tryz.pinned (OpenSpec.upto deskSpoiltSpec)

/-- 'masonrylaw11.DeskPlays', WHERE WHAT IT READS IS OF BULK AT MOST 1048576: true; the input reads as it did. -/
def deskPlaysUptoRow : OpenClaim := { program := "ytmokmbhhnbcelaagreatdoor", sum := "5ff44e551465ecd630e1181533995def49bb16e8a7b5e24883e23a2bb09108ae", func := "masonry/masonrylaw11.DeskPlays", spec := "deskPlays", inPlace := ["internal/abi.NoEscape", "internal/bytealg.MakeNoZero", "internal/bytealg.IndexByteString", "internal/bytealg.IndexString", "slices.overlaps[masonry/api.Write]", "maps.clone"], unfollowed := true, recurses := true, named := ["unicode/utf8.first", "unicode/utf8.acceptRanges", "internal/bytealg.MaxLen"], apart := false, laid := [("unicode/utf8.acceptRanges", laid_unicode_utf8_acceptRanges), ("unicode/utf8.first", laid_unicode_utf8_first)], narrowed := true }
def DeskPlaysUptoSaid : Prop := deskPlaysUptoRow.holds Tryz.pinned (OpenSpec.upto deskPlaysSpec)

/-- 'masonrylaw12.ChainPlays', WHERE WHAT IT READS IS OF BULK AT MOST 1048576: true; the input reads as it did. -/
def chainPlaysUptoRow : OpenClaim := { program := "ytmokmbhhnbcelaagreatdoor", sum := "5ff44e551465ecd630e1181533995def49bb16e8a7b5e24883e23a2bb09108ae", func := "masonry/masonrylaw12.ChainPlays", spec := "chainPlays", inPlace := ["internal/abi.NoEscape", "internal/bytealg.MakeNoZero", "internal/bytealg.IndexByteString", "internal/bytealg.IndexString", "maps.clone", "slices.overlaps[masonry/api.Write]"], unfollowed := true, recurses := true, named := ["unicode/utf8.first", "unicode/utf8.acceptRanges", "internal/bytealg.MaxLen"], apart := false, laid := [("unicode/utf8.acceptRanges", laid_unicode_utf8_acceptRanges), ("unicode/utf8.first", laid_unicode_utf8_first)], narrowed := true }
def ChainPlaysUptoSaid : Prop := chainPlaysUptoRow.holds Tryz.pinned (OpenSpec.upto chainPlaysSpec)

/-- 'masonrylaw16.BrickSpoilt', WHERE WHAT IT READS IS OF BULK AT MOST 1048576: true; the input reads as it did. -/
def brickSpoiltUptoRow : OpenClaim := { program := "ytmokmbhhnbcelaagreatdoor", sum := "5ff44e551465ecd630e1181533995def49bb16e8a7b5e24883e23a2bb09108ae", func := "masonry/masonrylaw16.BrickSpoilt", spec := "brickSpoilt", inPlace := ["internal/abi.NoEscape", "internal/bytealg.MakeNoZero", "internal/bytealg.IndexByteString", "internal/bytealg.IndexString", "maps.clone"], unfollowed := true, recurses := true, named := ["unicode/utf8.first", "unicode/utf8.acceptRanges", "internal/bytealg.MaxLen"], apart := false, laid := [("unicode/utf8.acceptRanges", laid_unicode_utf8_acceptRanges), ("unicode/utf8.first", laid_unicode_utf8_first)], narrowed := true }
def BrickSpoiltUptoSaid : Prop := brickSpoiltUptoRow.holds Tryz.pinned (OpenSpec.upto brickSpoiltSpec)

/-- 'masonrylaw16.BrickMany', WHERE WHAT IT READS IS OF BULK AT MOST 1048576: true; the input reads as it did. -/
def brickManyUptoRow : OpenClaim := { program := "ytmokmbhhnbcelaagreatdoor", sum := "5ff44e551465ecd630e1181533995def49bb16e8a7b5e24883e23a2bb09108ae", func := "masonry/masonrylaw16.BrickMany", spec := "brickMany", inPlace := ["internal/abi.NoEscape", "internal/bytealg.MakeNoZero", "internal/bytealg.IndexByteString", "internal/bytealg.IndexString", "maps.clone"], unfollowed := true, recurses := true, named := ["unicode/utf8.first", "unicode/utf8.acceptRanges", "internal/bytealg.MaxLen"], apart := false, laid := [("unicode/utf8.acceptRanges", laid_unicode_utf8_acceptRanges), ("unicode/utf8.first", laid_unicode_utf8_first)], narrowed := true }
def BrickManyUptoSaid : Prop := brickManyUptoRow.holds Tryz.pinned (OpenSpec.upto brickManySpec)

/-- 'masonrylaw20.PlanTells', WHERE WHAT IT READS IS OF BULK AT MOST 1048576: true; the input reads as it did. -/
def planTellsUptoRow : OpenClaim := { program := "ytmokmbhhnbcelaagreatdoor", sum := "5ff44e551465ecd630e1181533995def49bb16e8a7b5e24883e23a2bb09108ae", func := "masonry/masonrylaw20.PlanTells", spec := "planTells", inPlace := ["internal/abi.NoEscape", "internal/bytealg.MakeNoZero", "internal/bytealg.IndexByteString", "internal/bytealg.IndexString", "maps.clone", "slices.overlaps[masonry/api.Write]"], unfollowed := true, recurses := true, named := ["unicode/utf8.first", "unicode/utf8.acceptRanges", "internal/bytealg.MaxLen"], apart := false, laid := [("unicode/utf8.acceptRanges", laid_unicode_utf8_acceptRanges), ("unicode/utf8.first", laid_unicode_utf8_first)], narrowed := true }
def PlanTellsUptoSaid : Prop := planTellsUptoRow.holds Tryz.pinned (OpenSpec.upto planTellsSpec)

/-- 'masonrylaw16.BrickTells', WHERE WHAT IT READS IS OF BULK AT MOST 1048576: true; the input reads as it did. -/
def brickTellsUptoRow : OpenClaim := { program := "ytmokmbhhnbcelaagreatdoor", sum := "5ff44e551465ecd630e1181533995def49bb16e8a7b5e24883e23a2bb09108ae", func := "masonry/masonrylaw16.BrickTells", spec := "brickTells", inPlace := ["internal/abi.NoEscape", "internal/bytealg.MakeNoZero", "internal/bytealg.IndexByteString", "internal/bytealg.IndexString", "maps.clone", "slices.overlaps[masonry/api.Write]"], unfollowed := true, recurses := true, named := ["unicode/utf8.first", "unicode/utf8.acceptRanges", "internal/bytealg.MaxLen"], apart := false, laid := [("unicode/utf8.acceptRanges", laid_unicode_utf8_acceptRanges), ("unicode/utf8.first", laid_unicode_utf8_first)], narrowed := true }
def BrickTellsUptoSaid : Prop := brickTellsUptoRow.holds Tryz.pinned (OpenSpec.upto brickTellsSpec)

end Rows
end Go.Proofs.YtmokmbhhnbcelaaGreatDoor
