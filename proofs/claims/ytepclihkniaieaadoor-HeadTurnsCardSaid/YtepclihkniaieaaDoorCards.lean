/-
  DERIVED. GIVEN WITH THE SEED: THE CARDS: each row of YtepclihkniaieaaDoorRows.lean that lists a variable, with what it lists TIED to the program's text (the seventh form; the later family's looks); each row that meets fmt, with fmt's text TOLD by the authors' own Lean function (tested against real Go, not proved from fmt's source: count such statements apart). THE CARD IS WHAT COUNTS. Prove the row's statement (the work); the ties are given (YtepclihkniaieaaDoorTie.lean); close each card by the builder's one call (the guide's Derived/Test/ToyasCard.lean, 'card_holds'). Laid BY PROGRAM, IN A SANDBOX (cutbox-door.mjs). By AI agents, Wed Nov 11 2026. No macro, syntax, notation, axiom, sorry.
-/
import Derived.Test.YtepclihkniaieaaDoorRows
import GoSem.ClaimSeven
namespace Go.Proofs.YtepclihkniaieaaDoor
namespace Rows

/-- THE TIED CARD OF 'masonrylaw21.TableNames'. -/
def tableNamesCard : Claim7 := { stood := { row := tableNamesRow, standIns := [], harness := (true, "23405bb482a9bfb3e5d7ab62a73d00dccce3612179e8e07599c251957c415d66"), looks := false }, kinds := [], alts := [], laidByText := true, laidKinds := [.data, .pinned], laidTests := true, laidLooks := .later }
def TableNamesCardSaid : Prop := Claim7.holds Tryd.pinned (.plain (OpenSpec.ofChange tableNamesSpec)) tableNamesCard

/-- THE TIED CARD OF 'masonrylaw21.TableTells'. -/
def tableTellsCard : Claim7 := { stood := { row := tableTellsRow, standIns := [], harness := (true, "23405bb482a9bfb3e5d7ab62a73d00dccce3612179e8e07599c251957c415d66"), looks := false }, kinds := [], alts := [], laidByText := true, laidKinds := [.data, .pinned], laidTests := true, laidLooks := .later }
def TableTellsCardSaid : Prop := Claim7.holds Tryd.pinned (.plain (OpenSpec.ofChange tableTellsSpec)) tableTellsCard

/-- THE TIED CARD OF 'masonrylaw21.TableSets'. -/
def tableSetsCard : Claim7 := { stood := { row := tableSetsRow, standIns := [], harness := (true, "23405bb482a9bfb3e5d7ab62a73d00dccce3612179e8e07599c251957c415d66"), looks := false }, kinds := [], alts := [], laidByText := true, laidKinds := [.data, .pinned], laidTests := true, laidLooks := .later }
def TableSetsCardSaid : Prop := Claim7.holds Tryd.pinned (.plain (OpenSpec.ofChange tableSetsSpec)) tableSetsCard

/-- THE TIED CARD OF 'masonrylaw8.HeadTurns'. -/
def headTurnsCard : Claim7 := { stood := { row := headTurnsRow, standIns := [], harness := (true, "23405bb482a9bfb3e5d7ab62a73d00dccce3612179e8e07599c251957c415d66"), looks := false }, kinds := [], alts := [], laidByText := true, laidKinds := [.data, .pinned], laidTests := true, laidLooks := .later }
def HeadTurnsCardSaid : Prop := Claim7.holds Tryd.pinned (.plain (OpenSpec.ofChange headTurnsSpec)) headTurnsCard

/-- THE SECOND FORM's CARD OF 'masonrylaw21.TableNames'. -/
def tableNamesUptoCard : Claim7 := { stood := { row := tableNamesUptoRow, standIns := [], harness := (true, "23405bb482a9bfb3e5d7ab62a73d00dccce3612179e8e07599c251957c415d66"), looks := false }, kinds := [], alts := [], laidByText := true, laidKinds := [.data, .pinned], laidTests := true, laidLooks := .later }
def TableNamesUptoCardSaid : Prop := Claim7.holds Tryd.pinned (.plain (OpenSpec.upto tableNamesSpec)) tableNamesUptoCard

/-- THE SECOND FORM's CARD OF 'masonrylaw21.TableTells'. -/
def tableTellsUptoCard : Claim7 := { stood := { row := tableTellsUptoRow, standIns := [], harness := (true, "23405bb482a9bfb3e5d7ab62a73d00dccce3612179e8e07599c251957c415d66"), looks := false }, kinds := [], alts := [], laidByText := true, laidKinds := [.data, .pinned], laidTests := true, laidLooks := .later }
def TableTellsUptoCardSaid : Prop := Claim7.holds Tryd.pinned (.plain (OpenSpec.upto tableTellsSpec)) tableTellsUptoCard

/-- THE SECOND FORM's CARD OF 'masonrylaw21.TableSets'. -/
def tableSetsUptoCard : Claim7 := { stood := { row := tableSetsUptoRow, standIns := [], harness := (true, "23405bb482a9bfb3e5d7ab62a73d00dccce3612179e8e07599c251957c415d66"), looks := false }, kinds := [], alts := [], laidByText := true, laidKinds := [.data, .pinned], laidTests := true, laidLooks := .later }
def TableSetsUptoCardSaid : Prop := Claim7.holds Tryd.pinned (.plain (OpenSpec.upto tableSetsSpec)) tableSetsUptoCard

/-- THE SECOND FORM's CARD OF 'masonrylaw8.HeadTurns'. -/
def headTurnsUptoCard : Claim7 := { stood := { row := headTurnsUptoRow, standIns := [], harness := (true, "23405bb482a9bfb3e5d7ab62a73d00dccce3612179e8e07599c251957c415d66"), looks := false }, kinds := [], alts := [], laidByText := true, laidKinds := [.data, .pinned], laidTests := true, laidLooks := .later }
def HeadTurnsUptoCardSaid : Prop := Claim7.holds Tryd.pinned (.plain (OpenSpec.upto headTurnsSpec)) headTurnsUptoCard
end Rows
end Go.Proofs.YtepclihkniaieaaDoor
