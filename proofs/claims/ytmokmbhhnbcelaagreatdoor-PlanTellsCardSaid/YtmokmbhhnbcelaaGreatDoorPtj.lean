/- PlanCuts: what a reading of the pieces meets. -/
import Derived.Test.YtmokmbhhnbcelaaGreatDoorPi
import Derived.Test.YtmokmbhhnbcelaaGreatDoorRows
import Derived.Test.YtmokmbhhnbcelaaGreatDoorPt
set_option linter.unusedVariables false
namespace Go.Proofs.YtmokmbhhnbcelaaGreatDoor
open Go Go.Vc Go.RowKit Go.Lib
theorem rd_int : Reads Tryz.prog 3 EI QI := reads_int Tryz.underlying3
theorem rd_pc : Reads Tryz.prog 45 EPc fun _ _ => True :=
  (reads_struct (En := EP EI (EP EI EU)) Tryz.underlying45 (by kernel_rfl) (.cons rfl (by kernel_rfl) rd_int (.cons rfl (by kernel_rfl) rd_int .nil))).to (fun v => (v.1, v.2.1)) (fun _ => rfl) fun _ _ _ => trivial
end Go.Proofs.YtmokmbhhnbcelaaGreatDoor

/- PlanTells: its walk, and the readings. -/
set_option linter.unusedVariables false
namespace Go.Proofs.YtmokmbhhnbcelaaGreatDoor
open Go Go.Vc Go.RowKit Go.Lib
theorem rd_pcsN : Reads Tryz.prog 43 (ES Pc) fun W v => PcsN W v.1 v.2 := (reads_slice Tryz.underlying43 (by kernel_rfl) rd_pc).to id (fun _ => rfl) fun W v h => ⟨h.1, h.2.1⟩
end Go.Proofs.YtmokmbhhnbcelaaGreatDoor
