/- ChainPlays: its walk, and the readings. -/
import Derived.Test.YtmokmbhhnbcelaaGreatDoorPo
import Derived.Test.YtmokmbhhnbcelaaGreatDoorRd
import Derived.Test.YtmokmbhhnbcelaaGreatDoorRows
set_option linter.unusedVariables false
namespace Go.Proofs.YtmokmbhhnbcelaaGreatDoor
open Go Go.Vc Go.RowKit Go.Lib
instance : Nonempty OpC := ⟨⟨0, 0, 0, 0, 0, [], 0⟩⟩
theorem rd_int12 : Reads Tryz.prog 3 EI QI := reads_int Tryz.underlying3
theorem rd_op12 : Reads Tryz.prog 117 EOC fun _ _ => True :=
  (reads_struct (En := EP EI (EP EI (EP EI (EP EI (EP EI (EP ET (EP EI EU))))))) Tryz.underlying117 (by kernel_rfl)
    (.cons rfl (by kernel_rfl) rd_int12 (.cons rfl (by kernel_rfl) rd_int12 (.cons rfl (by kernel_rfl) rd_int12 (.cons rfl (by kernel_rfl) rd_int12 (.cons rfl (by kernel_rfl) rd_int12 (.cons rfl (by kernel_rfl) (reads_str Tryz.underlying9) (.cons rfl (by kernel_rfl) rd_int12 .nil)))))))).to
    (fun v => ⟨v.1, v.2.1, v.2.2.1, v.2.2.2.1, v.2.2.2.2.1, v.2.2.2.2.2.1, v.2.2.2.2.2.2.1⟩) (fun _ => rfl) fun _ _ _ => trivial
abbrev Ops12 (w : World) (l : Sl) (xs : List OpC) : Prop := Has EOC w l xs
theorem rd_ops12 : Reads Tryz.prog 113 (ES OpC) fun W v => Ops12 W v.1 v.2 := (reads_slice Tryz.underlying113 (by kernel_rfl) rd_op12).to id (fun _ => rfl) fun W v h => h.1
theorem ChainPlays_spec {w : World} {n size : Int} {l : Sl} {lZ : List OpC} (hl : Ops12 w l lZ) {R : Bool → World → Prop} (hR : ∀ w', Below w.heap.size w w' → R true w') : F.masonrylaw12_ChainPlays n l size w R :=
  ChainPlays_st (St.start w) (fun w' h => hl.fr (fr_below (St.old h))) fun w' h => hR w' (St.old h)
end Go.Proofs.YtmokmbhhnbcelaaGreatDoor
