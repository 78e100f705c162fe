/- slices of writes: Clone, Insert, BinarySearchFunc. -/
import Derived.Test.YtmokmbhhnbcelaaGreatDoorRo
import Derived.Lib.Overlaps
set_option linter.unusedVariables false
namespace Go.Proofs.YtmokmbhhnbcelaaGreatDoor
open Go Go.Vc Go.RowKit Go.Lib

theorem Wrs.cell {w : World} {sl : Sl} {ns : List Wr1} (h : Wrs w sl ns) {a : Addr} (ha : sl.a = some a) : ∀ j u, (wrCells ns)[j]? = some u → w.cell? (a.add j) = some u := by
  intro j u hu
  have hlt : j < (wrCells ns).length := (List.getElem?_eq_some_iff.1 hu).1
  rw [wrCells_len] at hlt
  have hk : j / 2 < ns.length := by omega
  obtain ⟨h1, h2⟩ := wrCells_at ns (j / 2) ns[j / 2] (by simp [hk])
  obtain ⟨a', ha', hc1, hc2⟩ := h.2 (j / 2) ns[j / 2] (by simp [hk])
  rw [ha] at ha'
  injection ha' with ha'
  subst ha'
  rcases Nat.mod_two_eq_zero_or_one j with hm | hm
  · have e : j / 2 * 2 = j := by omega
    rw [e] at h1 hc1
    rw [h1] at hu
    injection hu with hu
    rw [← hu]; exact hc1
  · have e : j / 2 * 2 + 1 = j := by omega
    rw [e] at h2
    rw [add_add, e] at hc2
    rw [h2] at hu
    injection hu with hu
    rw [← hu]; exact hc2

theorem Wrs.some {w : World} {sl : Sl} {ns : List Wr1} (h : Wrs w sl ns) (hn : ns ≠ []) : ∃ a, sl.a = some a := by
  cases ns with
  | nil => exact absurd rfl hn
  | cons n r =>
    obtain ⟨a, ha, _⟩ := h.2 0 n rfl
    exact ⟨a, ha⟩

end Go.Proofs.YtmokmbhhnbcelaaGreatDoor
