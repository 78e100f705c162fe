/-
  DERIVED. GIVEN WITH THE SEED: THE CARDS: each row of YtepclihkniaieaaGreatDoorRows.lean that lists a variable, with what it lists TIED to the program's text (the seventh form; the later family's looks); each row that meets fmt, with fmt's text TOLD by the authors' own Lean function (tested against real Go, not proved from fmt's source: count such statements apart). THE CARD IS WHAT COUNTS. Prove the row's statement (the work); the ties are given (YtepclihkniaieaaGreatDoorTie.lean); close each card by the builder's one call (the guide's Derived/Test/ToyasCard.lean, 'card_holds'). Laid BY PROGRAM, IN A SANDBOX (cutbox-door.mjs). By AI agents, Wed Nov 11 2026. No macro, syntax, notation, axiom, sorry.
-/
import Derived.Test.YtepclihkniaieaaGreatDoorRows
import GoSem.ClaimSeven
namespace Go.Proofs.YtepclihkniaieaaGreatDoor
namespace Rows

/-- THE TIED CARD OF 'masonrylaw8.HeadTells'. -/
def headTellsCard : Claim7 := { stood := { row := headTellsRow, standIns := [], harness := (true, "68159a114eefdcfabe243698b113625a92a2e341de3d00ec8df00b6cda78702e"), looks := true }, kinds := [], alts := [], laidByText := true, laidKinds := [.data, .pinned], laidTests := true, laidLooks := .later }
def HeadTellsCardSaid : Prop := Claim7.holds Tryz.pinned (.plain (OpenSpec.ofChange headTellsSpec)) headTellsCard

/-- THE TIED CARD OF 'masonrylaw9.WalNone'. -/
def walNoneCard : Claim7 := { stood := { row := walNoneRow, standIns := [], harness := (true, "68159a114eefdcfabe243698b113625a92a2e341de3d00ec8df00b6cda78702e"), looks := true }, kinds := [], alts := [], laidByText := true, laidKinds := [.data, .pinned], laidTests := true, laidLooks := .later }
def WalNoneCardSaid : Prop := Claim7.holds Tryz.pinned (.plain (OpenSpec.ofChange walNoneSpec)) walNoneCard

/-- THE TIED CARD OF 'masonrylaw9.WalPlays'. -/
def walPlaysCard : Claim7 := { stood := { row := walPlaysRow, standIns := [], harness := (true, "68159a114eefdcfabe243698b113625a92a2e341de3d00ec8df00b6cda78702e"), looks := true }, kinds := [], alts := [], laidByText := true, laidKinds := [.data, .pinned], laidTests := true, laidLooks := .later }
def WalPlaysCardSaid : Prop := Claim7.holds Tryz.pinned (.plain (OpenSpec.ofChange walPlaysSpec)) walPlaysCard

/-- THE TIED CARD OF 'masonrylaw9.WalAll'. -/
def walAllCard : Claim7 := { stood := { row := walAllRow, standIns := [], harness := (true, "68159a114eefdcfabe243698b113625a92a2e341de3d00ec8df00b6cda78702e"), looks := true }, kinds := [], alts := [], laidByText := true, laidKinds := [.data, .pinned], laidTests := true, laidLooks := .later }
def WalAllCardSaid : Prop := Claim7.holds Tryz.pinned (.plain (OpenSpec.ofChange walAllSpec)) walAllCard

/-- THE TIED CARD OF 'masonrylaw9.WalCosts'. -/
def walCostsCard : Claim7 := { stood := { row := walCostsRow, standIns := [], harness := (true, "68159a114eefdcfabe243698b113625a92a2e341de3d00ec8df00b6cda78702e"), looks := true }, kinds := [], alts := [], laidByText := true, laidKinds := [.data, .pinned], laidTests := true, laidLooks := .later }
def WalCostsCardSaid : Prop := Claim7.holds Tryz.pinned (.plain (OpenSpec.ofChange walCostsSpec)) walCostsCard

/-- THE TIED CARD OF 'masonrylaw12.ChainRings'. -/
def chainRingsCard : Claim7 := { stood := { row := chainRingsRow, standIns := [], harness := (true, "68159a114eefdcfabe243698b113625a92a2e341de3d00ec8df00b6cda78702e"), looks := true }, kinds := [], alts := [], laidByText := true, laidKinds := [.data, .pinned], laidTests := true, laidLooks := .later }
def ChainRingsCardSaid : Prop := Claim7.holds Tryz.pinned (.plain (OpenSpec.ofChange chainRingsSpec)) chainRingsCard

/-- THE TIED CARD OF 'masonrylaw11.DeskLarge'. -/
def deskLargeCard : Claim7 := { stood := { row := deskLargeRow, standIns := [], harness := (true, "68159a114eefdcfabe243698b113625a92a2e341de3d00ec8df00b6cda78702e"), looks := true }, kinds := [], alts := [], laidByText := true, laidKinds := [.data, .pinned], laidTests := true, laidLooks := .later }
def DeskLargeCardSaid : Prop := Claim7.holds Tryz.pinned (.plain (OpenSpec.ofChange deskLargeSpec)) deskLargeCard

/-- THE TIED CARD OF 'masonrylaw12.ChainSizes'. -/
def chainSizesCard : Claim7 := { stood := { row := chainSizesRow, standIns := [], harness := (true, "68159a114eefdcfabe243698b113625a92a2e341de3d00ec8df00b6cda78702e"), looks := true }, kinds := [], alts := [], laidByText := true, laidKinds := [.data, .pinned], laidTests := true, laidLooks := .later }
def ChainSizesCardSaid : Prop := Claim7.holds Tryz.pinned (.plain (OpenSpec.ofChange chainSizesSpec)) chainSizesCard

/-- THE SECOND FORM's CARD OF 'masonrylaw8.HeadTells'. -/
def headTellsUptoCard : Claim7 := { stood := { row := headTellsUptoRow, standIns := [], harness := (true, "68159a114eefdcfabe243698b113625a92a2e341de3d00ec8df00b6cda78702e"), looks := true }, kinds := [], alts := [], laidByText := true, laidKinds := [.data, .pinned], laidTests := true, laidLooks := .later }
def HeadTellsUptoCardSaid : Prop := Claim7.holds Tryz.pinned (.plain (OpenSpec.upto headTellsSpec)) headTellsUptoCard

/-- THE SECOND FORM's CARD OF 'masonrylaw9.WalNone'. -/
def walNoneUptoCard : Claim7 := { stood := { row := walNoneUptoRow, standIns := [], harness := (true, "68159a114eefdcfabe243698b113625a92a2e341de3d00ec8df00b6cda78702e"), looks := true }, kinds := [], alts := [], laidByText := true, laidKinds := [.data, .pinned], laidTests := true, laidLooks := .later }
def WalNoneUptoCardSaid : Prop := Claim7.holds Tryz.pinned (.plain (OpenSpec.upto walNoneSpec)) walNoneUptoCard

/-- THE SECOND FORM's CARD OF 'masonrylaw9.WalPlays'. -/
def walPlaysUptoCard : Claim7 := { stood := { row := walPlaysUptoRow, standIns := [], harness := (true, "68159a114eefdcfabe243698b113625a92a2e341de3d00ec8df00b6cda78702e"), looks := true }, kinds := [], alts := [], laidByText := true, laidKinds := [.data, .pinned], laidTests := true, laidLooks := .later }
def WalPlaysUptoCardSaid : Prop := Claim7.holds Tryz.pinned (.plain (OpenSpec.upto walPlaysSpec)) walPlaysUptoCard

/-- THE SECOND FORM's CARD OF 'masonrylaw9.WalAll'. -/
def walAllUptoCard : Claim7 := { stood := { row := walAllUptoRow, standIns := [], harness := (true, "68159a114eefdcfabe243698b113625a92a2e341de3d00ec8df00b6cda78702e"), looks := true }, kinds := [], alts := [], laidByText := true, laidKinds := [.data, .pinned], laidTests := true, laidLooks := .later }
def WalAllUptoCardSaid : Prop := Claim7.holds Tryz.pinned (.plain (OpenSpec.upto walAllSpec)) walAllUptoCard

/-- THE SECOND FORM's CARD OF 'masonrylaw9.WalCosts'. -/
def walCostsUptoCard : Claim7 := { stood := { row := walCostsUptoRow, standIns := [], harness := (true, "68159a114eefdcfabe243698b113625a92a2e341de3d00ec8df00b6cda78702e"), looks := true }, kinds := [], alts := [], laidByText := true, laidKinds := [.data, .pinned], laidTests := true, laidLooks := .later }
def WalCostsUptoCardSaid : Prop := Claim7.holds Tryz.pinned (.plain (OpenSpec.upto walCostsSpec)) walCostsUptoCard

/-- THE SECOND FORM's CARD OF 'masonrylaw12.ChainRings'. -/
def chainRingsUptoCard : Claim7 := { stood := { row := chainRingsUptoRow, standIns := [], harness := (true, "68159a114eefdcfabe243698b113625a92a2e341de3d00ec8df00b6cda78702e"), looks := true }, kinds := [], alts := [], laidByText := true, laidKinds := [.data, .pinned], laidTests := true, laidLooks := .later }
def ChainRingsUptoCardSaid : Prop := Claim7.holds Tryz.pinned (.plain (OpenSpec.upto chainRingsSpec)) chainRingsUptoCard

/-- THE SECOND FORM's CARD OF 'masonrylaw11.DeskLarge'. -/
def deskLargeUptoCard : Claim7 := { stood := { row := deskLargeUptoRow, standIns := [], harness := (true, "68159a114eefdcfabe243698b113625a92a2e341de3d00ec8df00b6cda78702e"), looks := true }, kinds := [], alts := [], laidByText := true, laidKinds := [.data, .pinned], laidTests := true, laidLooks := .later }
def DeskLargeUptoCardSaid : Prop := Claim7.holds Tryz.pinned (.plain (OpenSpec.upto deskLargeSpec)) deskLargeUptoCard

/-- THE SECOND FORM's CARD OF 'masonrylaw12.ChainSizes'. -/
def chainSizesUptoCard : Claim7 := { stood := { row := chainSizesUptoRow, standIns := [], harness := (true, "68159a114eefdcfabe243698b113625a92a2e341de3d00ec8df00b6cda78702e"), looks := true }, kinds := [], alts := [], laidByText := true, laidKinds := [.data, .pinned], laidTests := true, laidLooks := .later }
def ChainSizesUptoCardSaid : Prop := Claim7.holds Tryz.pinned (.plain (OpenSpec.upto chainSizesSpec)) chainSizesUptoCard
end Rows
end Go.Proofs.YtepclihkniaieaaGreatDoor
