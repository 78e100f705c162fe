/-
  DERIVED. GIVEN WITH THE SEED: THE CARDS: each row of YtmokmbhhnbcelaaGreatDoorRows.lean that lists a variable, with what it lists TIED to the program's text (the seventh form; the later family's looks); each row that meets fmt, with fmt's text TOLD by the authors' own Lean function (tested against real Go, not proved from fmt's source: count such statements apart). THE CARD IS WHAT COUNTS. Prove the row's statement (the work); the ties are given (YtmokmbhhnbcelaaGreatDoorTie.lean); close each card by the builder's one call (the guide's Derived/Test/ToyasCard.lean, 'card_holds'). Laid BY PROGRAM, IN A SANDBOX (cutbox-door.mjs). By AI agents, Wed Nov 11 2026. No macro, syntax, notation, axiom, sorry.
-/
import Derived.Test.YtmokmbhhnbcelaaGreatDoorRows
import GoSem.ClaimSeven
namespace Go.Proofs.YtmokmbhhnbcelaaGreatDoor
namespace Rows

/-- THE TIED CARD OF 'masonrylaw12.ChainSpoilt'. -/
def chainSpoiltCard : Claim7 := { stood := { row := chainSpoiltRow, standIns := [], harness := (true, "633483f79b2def96fb31029c37a9191047008d14ce8216244f8740af7d961043"), looks := true }, kinds := [], alts := [], laidByText := true, laidKinds := [.data, .pinned], laidTests := true, laidLooks := .later }
def ChainSpoiltCardSaid : Prop := Claim7.holds Tryz.pinned (.plain (OpenSpec.ofChange chainSpoiltSpec)) chainSpoiltCard

/-- THE TIED CARD OF 'masonrylaw20.PlanCuts'. -/
def planCutsCard : Claim7 := { stood := { row := planCutsRow, standIns := [], harness := (true, "633483f79b2def96fb31029c37a9191047008d14ce8216244f8740af7d961043"), looks := true }, kinds := [], alts := [], laidByText := true, laidKinds := [.data, .pinned], laidTests := true, laidLooks := .later }
def PlanCutsCardSaid : Prop := Claim7.holds Tryz.pinned (.plain (OpenSpec.ofChange planCutsSpec)) planCutsCard

/-- THE TIED CARD OF 'masonrylaw20.PlanWhole'. -/
def planWholeCard : Claim7 := { stood := { row := planWholeRow, standIns := [], harness := (true, "633483f79b2def96fb31029c37a9191047008d14ce8216244f8740af7d961043"), looks := true }, kinds := [], alts := [], laidByText := true, laidKinds := [.data, .pinned], laidTests := true, laidLooks := .later }
def PlanWholeCardSaid : Prop := Claim7.holds Tryz.pinned (.plain (OpenSpec.ofChange planWholeSpec)) planWholeCard

/-- THE TIED CARD OF 'masonrylaw20.PlanSpoilt'. -/
def planSpoiltCard : Claim7 := { stood := { row := planSpoiltRow, standIns := [], harness := (true, "633483f79b2def96fb31029c37a9191047008d14ce8216244f8740af7d961043"), looks := true }, kinds := [], alts := [], laidByText := true, laidKinds := [.data, .pinned], laidTests := true, laidLooks := .later }
def PlanSpoiltCardSaid : Prop := Claim7.holds Tryz.pinned (.plain (OpenSpec.ofChange planSpoiltSpec)) planSpoiltCard

/-- THE TIED CARD OF 'masonrylaw11.DeskBacks'. -/
def deskBacksCard : Claim7 := { stood := { row := deskBacksRow, standIns := [], harness := (true, "633483f79b2def96fb31029c37a9191047008d14ce8216244f8740af7d961043"), looks := true }, kinds := [], alts := [], laidByText := true, laidKinds := [.data, .pinned], laidTests := true, laidLooks := .later }
def DeskBacksCardSaid : Prop := Claim7.holds Tryz.pinned (.plain (OpenSpec.ofChange deskBacksSpec)) deskBacksCard

/-- THE TIED CARD OF 'masonrylaw21.TableKeeps'. -/
def tableKeepsCard : Claim7 := { stood := { row := tableKeepsRow, standIns := [], harness := (true, "633483f79b2def96fb31029c37a9191047008d14ce8216244f8740af7d961043"), looks := true }, kinds := [], alts := [], laidByText := true, laidKinds := [.data, .pinned], laidTests := true, laidLooks := .later }
def TableKeepsCardSaid : Prop := Claim7.holds Tryz.pinned (.plain (OpenSpec.ofChange tableKeepsSpec)) tableKeepsCard

/-- THE TIED CARD OF 'masonrylaw11.DeskSpoilt'. -/
def deskSpoiltCard : Claim7 := { stood := { row := deskSpoiltRow, standIns := [], harness := (true, "633483f79b2def96fb31029c37a9191047008d14ce8216244f8740af7d961043"), looks := true }, kinds := [], alts := [], laidByText := true, laidKinds := [.data, .pinned], laidTests := true, laidLooks := .later }
def DeskSpoiltCardSaid : Prop := Claim7.holds Tryz.pinned (.plain (OpenSpec.ofChange deskSpoiltSpec)) deskSpoiltCard

/-- THE TIED CARD OF 'masonrylaw11.DeskPlays'. -/
def deskPlaysCard : Claim7 := { stood := { row := deskPlaysRow, standIns := [], harness := (true, "633483f79b2def96fb31029c37a9191047008d14ce8216244f8740af7d961043"), looks := true }, kinds := [], alts := [], laidByText := true, laidKinds := [.data, .pinned], laidTests := true, laidLooks := .later }
def DeskPlaysCardSaid : Prop := Claim7.holds Tryz.pinned (.plain (OpenSpec.ofChange deskPlaysSpec)) deskPlaysCard

/-- THE TIED CARD OF 'masonrylaw12.ChainPlays'. -/
def chainPlaysCard : Claim7 := { stood := { row := chainPlaysRow, standIns := [], harness := (true, "633483f79b2def96fb31029c37a9191047008d14ce8216244f8740af7d961043"), looks := true }, kinds := [], alts := [], laidByText := true, laidKinds := [.data, .pinned], laidTests := true, laidLooks := .later }
def ChainPlaysCardSaid : Prop := Claim7.holds Tryz.pinned (.plain (OpenSpec.ofChange chainPlaysSpec)) chainPlaysCard

/-- THE TIED CARD OF 'masonrylaw16.BrickSpoilt'. -/
def brickSpoiltCard : Claim7 := { stood := { row := brickSpoiltRow, standIns := [], harness := (true, "633483f79b2def96fb31029c37a9191047008d14ce8216244f8740af7d961043"), looks := true }, kinds := [], alts := [], laidByText := true, laidKinds := [.data, .pinned], laidTests := true, laidLooks := .later }
def BrickSpoiltCardSaid : Prop := Claim7.holds Tryz.pinned (.plain (OpenSpec.ofChange brickSpoiltSpec)) brickSpoiltCard

/-- THE TIED CARD OF 'masonrylaw16.BrickMany'. -/
def brickManyCard : Claim7 := { stood := { row := brickManyRow, standIns := [], harness := (true, "633483f79b2def96fb31029c37a9191047008d14ce8216244f8740af7d961043"), looks := true }, kinds := [], alts := [], laidByText := true, laidKinds := [.data, .pinned], laidTests := true, laidLooks := .later }
def BrickManyCardSaid : Prop := Claim7.holds Tryz.pinned (.plain (OpenSpec.ofChange brickManySpec)) brickManyCard

/-- THE TIED CARD OF 'masonrylaw20.PlanTells'. -/
def planTellsCard : Claim7 := { stood := { row := planTellsRow, standIns := [], harness := (true, "633483f79b2def96fb31029c37a9191047008d14ce8216244f8740af7d961043"), looks := true }, kinds := [], alts := [], laidByText := true, laidKinds := [.data, .pinned], laidTests := true, laidLooks := .later }
def PlanTellsCardSaid : Prop := Claim7.holds Tryz.pinned (.plain (OpenSpec.ofChange planTellsSpec)) planTellsCard

/-- THE TIED CARD OF 'masonrylaw16.BrickTells'. -/
def brickTellsCard : Claim7 := { stood := { row := brickTellsRow, standIns := [], harness := (true, "633483f79b2def96fb31029c37a9191047008d14ce8216244f8740af7d961043"), looks := true }, kinds := [], alts := [], laidByText := true, laidKinds := [.data, .pinned], laidTests := true, laidLooks := .later }
def BrickTellsCardSaid : Prop := Claim7.holds Tryz.pinned (.plain (OpenSpec.ofChange brickTellsSpec)) brickTellsCard

/-- THE SECOND FORM's CARD OF 'masonrylaw12.ChainSpoilt'. -/
def chainSpoiltUptoCard : Claim7 := { stood := { row := chainSpoiltUptoRow, standIns := [], harness := (true, "633483f79b2def96fb31029c37a9191047008d14ce8216244f8740af7d961043"), looks := true }, kinds := [], alts := [], laidByText := true, laidKinds := [.data, .pinned], laidTests := true, laidLooks := .later }
def ChainSpoiltUptoCardSaid : Prop := Claim7.holds Tryz.pinned (.plain (OpenSpec.upto chainSpoiltSpec)) chainSpoiltUptoCard

/-- THE SECOND FORM's CARD OF 'masonrylaw20.PlanCuts'. -/
def planCutsUptoCard : Claim7 := { stood := { row := planCutsUptoRow, standIns := [], harness := (true, "633483f79b2def96fb31029c37a9191047008d14ce8216244f8740af7d961043"), looks := true }, kinds := [], alts := [], laidByText := true, laidKinds := [.data, .pinned], laidTests := true, laidLooks := .later }
def PlanCutsUptoCardSaid : Prop := Claim7.holds Tryz.pinned (.plain (OpenSpec.upto planCutsSpec)) planCutsUptoCard

/-- THE SECOND FORM's CARD OF 'masonrylaw20.PlanWhole'. -/
def planWholeUptoCard : Claim7 := { stood := { row := planWholeUptoRow, standIns := [], harness := (true, "633483f79b2def96fb31029c37a9191047008d14ce8216244f8740af7d961043"), looks := true }, kinds := [], alts := [], laidByText := true, laidKinds := [.data, .pinned], laidTests := true, laidLooks := .later }
def PlanWholeUptoCardSaid : Prop := Claim7.holds Tryz.pinned (.plain (OpenSpec.upto planWholeSpec)) planWholeUptoCard

/-- THE SECOND FORM's CARD OF 'masonrylaw20.PlanSpoilt'. -/
def planSpoiltUptoCard : Claim7 := { stood := { row := planSpoiltUptoRow, standIns := [], harness := (true, "633483f79b2def96fb31029c37a9191047008d14ce8216244f8740af7d961043"), looks := true }, kinds := [], alts := [], laidByText := true, laidKinds := [.data, .pinned], laidTests := true, laidLooks := .later }
def PlanSpoiltUptoCardSaid : Prop := Claim7.holds Tryz.pinned (.plain (OpenSpec.upto planSpoiltSpec)) planSpoiltUptoCard

/-- THE SECOND FORM's CARD OF 'masonrylaw11.DeskBacks'. -/
def deskBacksUptoCard : Claim7 := { stood := { row := deskBacksUptoRow, standIns := [], harness := (true, "633483f79b2def96fb31029c37a9191047008d14ce8216244f8740af7d961043"), looks := true }, kinds := [], alts := [], laidByText := true, laidKinds := [.data, .pinned], laidTests := true, laidLooks := .later }
def DeskBacksUptoCardSaid : Prop := Claim7.holds Tryz.pinned (.plain (OpenSpec.upto deskBacksSpec)) deskBacksUptoCard

/-- THE SECOND FORM's CARD OF 'masonrylaw21.TableKeeps'. -/
def tableKeepsUptoCard : Claim7 := { stood := { row := tableKeepsUptoRow, standIns := [], harness := (true, "633483f79b2def96fb31029c37a9191047008d14ce8216244f8740af7d961043"), looks := true }, kinds := [], alts := [], laidByText := true, laidKinds := [.data, .pinned], laidTests := true, laidLooks := .later }
def TableKeepsUptoCardSaid : Prop := Claim7.holds Tryz.pinned (.plain (OpenSpec.upto tableKeepsSpec)) tableKeepsUptoCard

/-- THE SECOND FORM's CARD OF 'masonrylaw11.DeskSpoilt'. -/
def deskSpoiltUptoCard : Claim7 := { stood := { row := deskSpoiltUptoRow, standIns := [], harness := (true, "633483f79b2def96fb31029c37a9191047008d14ce8216244f8740af7d961043"), looks := true }, kinds := [], alts := [], laidByText := true, laidKinds := [.data, .pinned], laidTests := true, laidLooks := .later }
def DeskSpoiltUptoCardSaid : Prop := Claim7.holds Tryz.pinned (.plain (OpenSpec.upto deskSpoiltSpec)) deskSpoiltUptoCard

/-- THE SECOND FORM's CARD OF 'masonrylaw11.DeskPlays'. -/
def deskPlaysUptoCard : Claim7 := { stood := { row := deskPlaysUptoRow, standIns := [], harness := (true, "633483f79b2def96fb31029c37a9191047008d14ce8216244f8740af7d961043"), looks := true }, kinds := [], alts := [], laidByText := true, laidKinds := [.data, .pinned], laidTests := true, laidLooks := .later }
def DeskPlaysUptoCardSaid : Prop := Claim7.holds Tryz.pinned (.plain (OpenSpec.upto deskPlaysSpec)) deskPlaysUptoCard

/-- THE SECOND FORM's CARD OF 'masonrylaw12.ChainPlays'. -/
def chainPlaysUptoCard : Claim7 := { stood := { row := chainPlaysUptoRow, standIns := [], harness := (true, "633483f79b2def96fb31029c37a9191047008d14ce8216244f8740af7d961043"), looks := true }, kinds := [], alts := [], laidByText := true, laidKinds := [.data, .pinned], laidTests := true, laidLooks := .later }
def ChainPlaysUptoCardSaid : Prop := Claim7.holds Tryz.pinned (.plain (OpenSpec.upto chainPlaysSpec)) chainPlaysUptoCard

/-- THE SECOND FORM's CARD OF 'masonrylaw16.BrickSpoilt'. -/
def brickSpoiltUptoCard : Claim7 := { stood := { row := brickSpoiltUptoRow, standIns := [], harness := (true, "633483f79b2def96fb31029c37a9191047008d14ce8216244f8740af7d961043"), looks := true }, kinds := [], alts := [], laidByText := true, laidKinds := [.data, .pinned], laidTests := true, laidLooks := .later }
def BrickSpoiltUptoCardSaid : Prop := Claim7.holds Tryz.pinned (.plain (OpenSpec.upto brickSpoiltSpec)) brickSpoiltUptoCard

/-- THE SECOND FORM's CARD OF 'masonrylaw16.BrickMany'. -/
def brickManyUptoCard : Claim7 := { stood := { row := brickManyUptoRow, standIns := [], harness := (true, "633483f79b2def96fb31029c37a9191047008d14ce8216244f8740af7d961043"), looks := true }, kinds := [], alts := [], laidByText := true, laidKinds := [.data, .pinned], laidTests := true, laidLooks := .later }
def BrickManyUptoCardSaid : Prop := Claim7.holds Tryz.pinned (.plain (OpenSpec.upto brickManySpec)) brickManyUptoCard

/-- THE SECOND FORM's CARD OF 'masonrylaw20.PlanTells'. -/
def planTellsUptoCard : Claim7 := { stood := { row := planTellsUptoRow, standIns := [], harness := (true, "633483f79b2def96fb31029c37a9191047008d14ce8216244f8740af7d961043"), looks := true }, kinds := [], alts := [], laidByText := true, laidKinds := [.data, .pinned], laidTests := true, laidLooks := .later }
def PlanTellsUptoCardSaid : Prop := Claim7.holds Tryz.pinned (.plain (OpenSpec.upto planTellsSpec)) planTellsUptoCard

/-- THE SECOND FORM's CARD OF 'masonrylaw16.BrickTells'. -/
def brickTellsUptoCard : Claim7 := { stood := { row := brickTellsUptoRow, standIns := [], harness := (true, "633483f79b2def96fb31029c37a9191047008d14ce8216244f8740af7d961043"), looks := true }, kinds := [], alts := [], laidByText := true, laidKinds := [.data, .pinned], laidTests := true, laidLooks := .later }
def BrickTellsUptoCardSaid : Prop := Claim7.holds Tryz.pinned (.plain (OpenSpec.upto brickTellsSpec)) brickTellsUptoCard
end Rows
end Go.Proofs.YtmokmbhhnbcelaaGreatDoor
