/-
  DERIVED. GIVEN WITH THE SEED: THE CARDS: each row of YtggachhkcmfijaaGreatDoorRows.lean that lists a variable, with what it lists TIED to the program's text (the seventh form; the later family's looks); each row that meets fmt, with fmt's text TOLD by the authors' own Lean function (tested against real Go, not proved from fmt's source: count such statements apart). THE CARD IS WHAT COUNTS. Prove the row's statement (the work); the ties are given (YtggachhkcmfijaaGreatDoorTie.lean); close each card by the builder's one call (the guide's Derived/Test/ToyasCard.lean, 'card_holds'). Laid BY PROGRAM, IN A SANDBOX (cutbox-door.mjs). By AI agents, Wed Nov 11 2026. No macro, syntax, notation, axiom, sorry.
-/
import Derived.Test.YtggachhkcmfijaaGreatDoorRows
import GoSem.ClaimSeven
namespace Go.Proofs.YtggachhkcmfijaaGreatDoor
namespace Rows

/-- THE TIED CARD OF 'masonrylaw18.TreeAlike'. -/
def treeAlikeCard : Claim7 := { stood := { row := treeAlikeRow, standIns := [], harness := (true, "d8edfaf82ab38fab727053a9856707e728946f951b0725c7fa3984c59529a22e"), looks := true }, kinds := [], alts := [], laidByText := true, laidKinds := [.data, .pinned], laidTests := true, laidLooks := .later }
def TreeAlikeCardSaid : Prop := Claim7.holds Tryz.pinned (.plain (OpenSpec.ofChange treeAlikeSpec)) treeAlikeCard

/-- THE TIED CARD OF 'masonrylaw18.TreePlays'. -/
def treePlaysCard : Claim7 := { stood := { row := treePlaysRow, standIns := [], harness := (true, "d8edfaf82ab38fab727053a9856707e728946f951b0725c7fa3984c59529a22e"), looks := true }, kinds := [], alts := [], laidByText := true, laidKinds := [.data, .pinned], laidTests := true, laidLooks := .later }
def TreePlaysCardSaid : Prop := Claim7.holds Tryz.pinned (.plain (OpenSpec.ofChange treePlaysSpec)) treePlaysCard

/-- THE TIED CARD OF 'masonrylaw18.TreeOlds'. -/
def treeOldsCard : Claim7 := { stood := { row := treeOldsRow, standIns := [], harness := (true, "d8edfaf82ab38fab727053a9856707e728946f951b0725c7fa3984c59529a22e"), looks := true }, kinds := [], alts := [], laidByText := true, laidKinds := [.data, .pinned], laidTests := true, laidLooks := .later }
def TreeOldsCardSaid : Prop := Claim7.holds Tryz.pinned (.plain (OpenSpec.ofChange treeOldsSpec)) treeOldsCard

/-- THE TIED CARD OF 'masonrylaw18.TreeBuilds'. -/
def treeBuildsCard : Claim7 := { stood := { row := treeBuildsRow, standIns := [], harness := (true, "d8edfaf82ab38fab727053a9856707e728946f951b0725c7fa3984c59529a22e"), looks := true }, kinds := [], alts := [], laidByText := true, laidKinds := [.data, .pinned], laidTests := true, laidLooks := .later }
def TreeBuildsCardSaid : Prop := Claim7.holds Tryz.pinned (.plain (OpenSpec.ofChange treeBuildsSpec)) treeBuildsCard

/-- THE TIED CARD OF 'masonrylaw18.TreeSpoilt'. -/
def treeSpoiltCard : Claim7 := { stood := { row := treeSpoiltRow, standIns := [], harness := (true, "d8edfaf82ab38fab727053a9856707e728946f951b0725c7fa3984c59529a22e"), looks := true }, kinds := [], alts := [], laidByText := true, laidKinds := [.data, .pinned], laidTests := true, laidLooks := .later }
def TreeSpoiltCardSaid : Prop := Claim7.holds Tryz.pinned (.plain (OpenSpec.ofChange treeSpoiltSpec)) treeSpoiltCard

/-- THE SECOND FORM's CARD OF 'masonrylaw18.TreeAlike'. -/
def treeAlikeUptoCard : Claim7 := { stood := { row := treeAlikeUptoRow, standIns := [], harness := (true, "d8edfaf82ab38fab727053a9856707e728946f951b0725c7fa3984c59529a22e"), looks := true }, kinds := [], alts := [], laidByText := true, laidKinds := [.data, .pinned], laidTests := true, laidLooks := .later }
def TreeAlikeUptoCardSaid : Prop := Claim7.holds Tryz.pinned (.plain (OpenSpec.upto treeAlikeSpec)) treeAlikeUptoCard

/-- THE SECOND FORM's CARD OF 'masonrylaw18.TreePlays'. -/
def treePlaysUptoCard : Claim7 := { stood := { row := treePlaysUptoRow, standIns := [], harness := (true, "d8edfaf82ab38fab727053a9856707e728946f951b0725c7fa3984c59529a22e"), looks := true }, kinds := [], alts := [], laidByText := true, laidKinds := [.data, .pinned], laidTests := true, laidLooks := .later }
def TreePlaysUptoCardSaid : Prop := Claim7.holds Tryz.pinned (.plain (OpenSpec.upto treePlaysSpec)) treePlaysUptoCard

/-- THE SECOND FORM's CARD OF 'masonrylaw18.TreeOlds'. -/
def treeOldsUptoCard : Claim7 := { stood := { row := treeOldsUptoRow, standIns := [], harness := (true, "d8edfaf82ab38fab727053a9856707e728946f951b0725c7fa3984c59529a22e"), looks := true }, kinds := [], alts := [], laidByText := true, laidKinds := [.data, .pinned], laidTests := true, laidLooks := .later }
def TreeOldsUptoCardSaid : Prop := Claim7.holds Tryz.pinned (.plain (OpenSpec.upto treeOldsSpec)) treeOldsUptoCard

/-- THE SECOND FORM's CARD OF 'masonrylaw18.TreeBuilds'. -/
def treeBuildsUptoCard : Claim7 := { stood := { row := treeBuildsUptoRow, standIns := [], harness := (true, "d8edfaf82ab38fab727053a9856707e728946f951b0725c7fa3984c59529a22e"), looks := true }, kinds := [], alts := [], laidByText := true, laidKinds := [.data, .pinned], laidTests := true, laidLooks := .later }
def TreeBuildsUptoCardSaid : Prop := Claim7.holds Tryz.pinned (.plain (OpenSpec.upto treeBuildsSpec)) treeBuildsUptoCard

/-- THE SECOND FORM's CARD OF 'masonrylaw18.TreeSpoilt'. -/
def treeSpoiltUptoCard : Claim7 := { stood := { row := treeSpoiltUptoRow, standIns := [], harness := (true, "d8edfaf82ab38fab727053a9856707e728946f951b0725c7fa3984c59529a22e"), looks := true }, kinds := [], alts := [], laidByText := true, laidKinds := [.data, .pinned], laidTests := true, laidLooks := .later }
def TreeSpoiltUptoCardSaid : Prop := Claim7.holds Tryz.pinned (.plain (OpenSpec.upto treeSpoiltSpec)) treeSpoiltUptoCard
end Rows
end Go.Proofs.YtggachhkcmfijaaGreatDoor
