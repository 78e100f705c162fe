/- DeskBacks: its walk, and the readings. -/
import Derived.Test.YtmokmbhhnbcelaaGreatDoorRd
import Derived.Test.YtmokmbhhnbcelaaGreatDoorRows
set_option linter.unusedVariables false
namespace Go.Proofs.YtmokmbhhnbcelaaGreatDoor
open Go Go.Vc Go.RowKit Go.Lib
instance : Nonempty OpD := ⟨⟨0, 0, [], ⟨none, 0, 0⟩, []⟩⟩
theorem rd_int11 : Reads Tryz.prog 3 EI QI := reads_int Tryz.underlying3
theorem rd_op11 : Reads Tryz.prog 105 EOD fun W o => Ints W o.L o.ks ∧ o.L.len ≤ o.L.cap :=
  (reads_struct (En := EP EI (EP EI (EP ET (EP (ES Int) EU)))) Tryz.underlying105 (by kernel_rfl)
    (.cons rfl (by kernel_rfl) rd_int11 (.cons rfl (by kernel_rfl) rd_int11 (.cons rfl (by kernel_rfl) (reads_str Tryz.underlying9) (.cons rfl (by kernel_rfl) (reads_slice Tryz.underlying29 (by kernel_rfl) rd_int11) .nil))))).to
    (fun v => ⟨v.1, v.2.1, v.2.2.1, v.2.2.2.1.1, v.2.2.2.1.2⟩) (fun _ => rfl) fun W v h => ⟨Has.ints h.2.2.2.1.1, h.2.2.2.1.2.2.1⟩
theorem rd_ops11 : Reads Tryz.prog 59 (ES OpD) fun W v => Ops11 W v.1 v.2 := (reads_slice Tryz.underlying59 (by kernel_rfl) rd_op11).to id (fun _ => rfl) fun W v h => ⟨h.1, h.2.2.2.2⟩
theorem DeskBacks_spec {w : World} {first then_ : Sl} {firstZ then_Z : List OpD} {twice : Bool} (hfirst : Ops11 w first firstZ) (hthen_ : Ops11 w then_ then_Z) {R : Bool → World → Prop} (hR : ∀ w', Below w.heap.size w w' → R true w') : F.masonrylaw11_DeskBacks first then_ twice w R :=
  DeskBacks_st (St.start w) (fun w' h => hfirst.fr (St.old h)) (fun w' h => hthen_.fr (St.old h)) fun w' h => hR w' (St.old h)
end Go.Proofs.YtmokmbhhnbcelaaGreatDoor
