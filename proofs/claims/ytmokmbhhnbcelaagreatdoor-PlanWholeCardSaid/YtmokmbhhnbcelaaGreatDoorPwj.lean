/- PlanCuts: what a reading of the pieces meets. -/
import Derived.Test.YtmokmbhhnbcelaaGreatDoorPi
import Derived.Test.YtmokmbhhnbcelaaGreatDoorRows
import Derived.Test.YtmokmbhhnbcelaaGreatDoorPw
set_option linter.unusedVariables false
namespace Go.Proofs.YtmokmbhhnbcelaaGreatDoor
open Go Go.Vc Go.RowKit Go.Lib
theorem rd_int : Reads Tryz.prog 3 EI QI := reads_int Tryz.underlying3
theorem rd_pc : Reads Tryz.prog 45 EPc fun _ _ => True :=
  (reads_struct (En := EP EI (EP EI EU)) Tryz.underlying45 (by kernel_rfl) (.cons rfl (by kernel_rfl) rd_int (.cons rfl (by kernel_rfl) rd_int .nil))).to (fun v => (v.1, v.2.1)) (fun _ => rfl) fun _ _ _ => trivial
abbrev Pcs (w : World) (l : Sl) (xs : List Pc) : Prop := Has EPc w l xs
theorem rd_pcs : Reads Tryz.prog 43 (ES Pc) fun W v => Pcs W v.1 v.2 := (reads_slice Tryz.underlying43 (by kernel_rfl) rd_pc).to id (fun _ => rfl) fun W v h => h.1
end Go.Proofs.YtmokmbhhnbcelaaGreatDoor

/- PlanWhole: its walk, and the readings. -/
