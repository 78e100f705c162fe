/- WalPlays: what a reading of the acts meets. -/
import Derived.Test.YtepclihkniaieaaGreatDoorRd
import Derived.Test.YtepclihkniaieaaGreatDoorWl
import Derived.Test.YtepclihkniaieaaGreatDoorRows
set_option linter.unusedVariables false
namespace Go.Proofs.YtepclihkniaieaaGreatDoor
open Go Go.Vc Go.RowKit Go.Lib
theorem rd_int : Reads Tryz.prog 3 EI QI := reads_int Tryz.underlying3
theorem rd_str : Reads Tryz.prog 9 ET fun _ _ => True := reads_str Tryz.underlying9
theorem rd_ints : Reads Tryz.prog 22 (ES Int) (QS EI QI) := reads_slice Tryz.underlying22 (by kernel_rfl) rd_int
theorem rd_wr : Reads Tryz.prog 58 EW fun _ _ => True :=
  (reads_struct (En := EP EI (EP ET EU)) Tryz.underlying58 (by kernel_rfl) (.cons rfl (by kernel_rfl) rd_int (.cons rfl (by kernel_rfl) rd_str .nil))).to (fun v => (v.1, v.2.1)) (fun _ => rfl) fun _ _ _ => trivial
theorem rd_wrs : Reads Tryz.prog 74 (ES Wr1) (QS EW fun _ _ => True) := reads_slice Tryz.underlying74 (by kernel_rfl) rd_wr
theorem rd_op : Reads Tryz.prog 76 EO fun W o => Has EW W o.W o.ws ∧ NilOk o.W ∧ Ints W o.L o.ks :=
  (reads_struct (En := EP EI (EP EI (EP (ES Wr1) (EP (ES Int) EU)))) Tryz.underlying76 (by kernel_rfl) (.cons rfl (by kernel_rfl) rd_int (.cons rfl (by kernel_rfl) rd_int (.cons rfl (by kernel_rfl) rd_wrs (.cons rfl (by kernel_rfl) rd_ints .nil))))).to
    (fun v => ⟨v.1, v.2.1, v.2.2.1.1, v.2.2.2.1.1, v.2.2.1.2, v.2.2.2.1.2⟩) (fun _ => rfl) fun W v h => ⟨h.2.2.1.1, h.2.2.1.2.1, Has.ints h.2.2.2.1.1⟩
instance : Nonempty OpV := ⟨⟨0, 0, ⟨none, 0, 0⟩, ⟨none, 0, 0⟩, [], []⟩⟩
theorem rd_ops : Reads Tryz.prog 70 (ES OpV) fun W v => OpsIn W v.1 v.2 :=
  (reads_slice Tryz.underlying70 (by kernel_rfl) rd_op).to id (fun _ => rfl) fun W v h => ⟨h.1, h.2.2.2.2⟩
end Go.Proofs.YtepclihkniaieaaGreatDoor
