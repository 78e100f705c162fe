/-
  DERIVED. GIVEN WITH THE SEED: THE CARDS: each row of YtgacpkgaogiocaaGreatDoorRows.lean that lists a variable, with what it lists TIED to the program's text (the seventh form; the later family's looks); each row that meets fmt, with fmt's text TOLD by the authors' own Lean function (tested against real Go, not proved from fmt's source: count such statements apart). THE CARD IS WHAT COUNTS. Prove the row's statement (the work); the ties are given (YtgacpkgaogiocaaGreatDoorTie.lean); close each card by the builder's one call (the guide's Derived/Test/ToyasCard.lean, 'card_holds'). Laid BY PROGRAM, IN A SANDBOX (cutbox-door.mjs). By AI agents, Wed Nov 11 2026. No macro, syntax, notation, axiom, sorry.
-/
import Derived.Test.YtgacpkgaogiocaaGreatDoorRows
import GoSem.ClaimSeven
namespace Go.Proofs.YtgacpkgaogiocaaGreatDoor
namespace Rows

/-- THE TIED CARD OF 'masonrylaw17.BucketSlots'. -/
def bucketSlotsCard : Claim7 := { stood := { row := bucketSlotsRow, standIns := [], harness := (true, "627362c5f914925009329a81f7bbcec2dae31265e4fce814ea17976742f7f4e0"), looks := true }, kinds := [], alts := [], laidByText := true, laidKinds := [.data, .pinned], laidTests := true, laidLooks := .later }
def BucketSlotsCardSaid : Prop := Claim7.holds Tryz.pinned (.plain (OpenSpec.ofChange bucketSlotsSpec)) bucketSlotsCard

/-- THE TIED CARD OF 'masonrylaw17.BucketGrows'. -/
def bucketGrowsCard : Claim7 := { stood := { row := bucketGrowsRow, standIns := [], harness := (true, "627362c5f914925009329a81f7bbcec2dae31265e4fce814ea17976742f7f4e0"), looks := true }, kinds := [], alts := [], laidByText := true, laidKinds := [.data, .pinned], laidTests := true, laidLooks := .later }
def BucketGrowsCardSaid : Prop := Claim7.holds Tryz.pinned (.plain (OpenSpec.ofChange bucketGrowsSpec)) bucketGrowsCard

/-- THE TIED CARD OF 'masonrylaw17.BucketPlays'. -/
def bucketPlaysCard : Claim7 := { stood := { row := bucketPlaysRow, standIns := [], harness := (true, "627362c5f914925009329a81f7bbcec2dae31265e4fce814ea17976742f7f4e0"), looks := true }, kinds := [], alts := [], laidByText := true, laidKinds := [.data, .pinned], laidTests := true, laidLooks := .later }
def BucketPlaysCardSaid : Prop := Claim7.holds Tryz.pinned (.plain (OpenSpec.ofChange bucketPlaysSpec)) bucketPlaysCard

/-- THE SECOND FORM's CARD OF 'masonrylaw17.BucketSlots'. -/
def bucketSlotsUptoCard : Claim7 := { stood := { row := bucketSlotsUptoRow, standIns := [], harness := (true, "627362c5f914925009329a81f7bbcec2dae31265e4fce814ea17976742f7f4e0"), looks := true }, kinds := [], alts := [], laidByText := true, laidKinds := [.data, .pinned], laidTests := true, laidLooks := .later }
def BucketSlotsUptoCardSaid : Prop := Claim7.holds Tryz.pinned (.plain (OpenSpec.upto bucketSlotsSpec)) bucketSlotsUptoCard

/-- THE SECOND FORM's CARD OF 'masonrylaw17.BucketGrows'. -/
def bucketGrowsUptoCard : Claim7 := { stood := { row := bucketGrowsUptoRow, standIns := [], harness := (true, "627362c5f914925009329a81f7bbcec2dae31265e4fce814ea17976742f7f4e0"), looks := true }, kinds := [], alts := [], laidByText := true, laidKinds := [.data, .pinned], laidTests := true, laidLooks := .later }
def BucketGrowsUptoCardSaid : Prop := Claim7.holds Tryz.pinned (.plain (OpenSpec.upto bucketGrowsSpec)) bucketGrowsUptoCard

/-- THE SECOND FORM's CARD OF 'masonrylaw17.BucketPlays'. -/
def bucketPlaysUptoCard : Claim7 := { stood := { row := bucketPlaysUptoRow, standIns := [], harness := (true, "627362c5f914925009329a81f7bbcec2dae31265e4fce814ea17976742f7f4e0"), looks := true }, kinds := [], alts := [], laidByText := true, laidKinds := [.data, .pinned], laidTests := true, laidLooks := .later }
def BucketPlaysUptoCardSaid : Prop := Claim7.holds Tryz.pinned (.plain (OpenSpec.upto bucketPlaysSpec)) bucketPlaysUptoCard
end Rows
end Go.Proofs.YtgacpkgaogiocaaGreatDoor
