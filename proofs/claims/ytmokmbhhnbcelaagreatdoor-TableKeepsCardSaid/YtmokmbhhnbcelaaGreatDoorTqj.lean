/- TableKeeps: its walk, and the readings. -/
import Derived.Test.YtmokmbhhnbcelaaGreatDoorTq
import Derived.Test.YtmokmbhhnbcelaaGreatDoorRows
set_option linter.unusedVariables false
namespace Go.Proofs.YtmokmbhhnbcelaaGreatDoor
open Go Go.Vc Go.RowKit Go.Lib
theorem rd_int21 : Reads Tryz.prog 3 EI QI := reads_int Tryz.underlying3
theorem rd_nm : Reads Tryz.prog 178 EN fun _ _ => True :=
  (reads_struct (En := EP ET (EP EI EU)) Tryz.underlying178 (by kernel_rfl) (.cons rfl (by kernel_rfl) (reads_str Tryz.underlying9) (.cons rfl (by kernel_rfl) rd_int21 .nil))).to (fun v => (v.1, v.2.1)) (fun _ => rfl) fun _ _ _ => trivial
instance : Nonempty Nm := ⟨([], 0)⟩
instance : Nonempty Nl := ⟨(⟨none, 0, 0⟩, [])⟩
theorem rd_nms : Reads Tryz.prog 82 (ES Nm) (QS EN fun _ _ => True) := reads_slice Tryz.underlying82 (by kernel_rfl) rd_nm
theorem rd_lists : Reads Tryz.prog 79 (ES Nl) fun W v => Lists W v.1 v.2 := (reads_slice Tryz.underlying79 (by kernel_rfl) rd_nms).to id (fun _ => rfl) fun W v h => ⟨h.1, fun p hp => (h.2.2.2.2 p hp).1⟩
theorem TableKeeps_spec {w : World} {gen : Int} {l : Sl} {lZ : List Nl} (hl : Lists w l lZ) {R : Bool → World → Prop} (hR : ∀ w', Below w.heap.size w w' → R true w') : F.masonrylaw21_TableKeeps gen l w R :=
  TableKeeps_st (St.start w) (fun w' h => hl.fr (St.old h)) fun w' h => hR w' (St.old h)
end Go.Proofs.YtmokmbhhnbcelaaGreatDoor
