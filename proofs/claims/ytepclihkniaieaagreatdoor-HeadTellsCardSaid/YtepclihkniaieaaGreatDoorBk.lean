/- masonrybook.Book: the lists of the kinds of which none is kept. -/
import Derived.Test.YtepclihkniaieaaGreatDoorBi
set_option linter.unusedVariables false
namespace Go.Proofs.YtepclihkniaieaaGreatDoor
open Go Go.Vc Go.RowKit Go.Lib

/-- the book's cells: lists of numbers alone -/
def bookCells (L W : Sl) : List Value := [.slice none 0 0, .slice none 0 0, .slice L.a L.len L.cap, .slice W.a W.len W.cap, .slice none 0 0, .slice none 0 0, .slice none 0 0, .slice none 0 0, .slice none 0 0, .slice none 0 0, .slice none 0 0, .slice none 0 0, .slice none 0 0, .slice none 0 0, .slice none 0 0, .slice none 0 0]

def BookAt (w : World) (g : Nat) (L W : Sl) : Prop := w.heap[g]? = some (.cells ⟨bookCells L W⟩ T.y_masonrybook_Book (0, 0))

theorem stillTexts_spec {w : World} {g : Nat} {L W : Sl} (h : BookAt w g L W) {R : Bool → World → Prop} (hR : R true w) : F.masonrybook_Book_stillTexts (some (blk g)) w R := by
  apply E.masonrybook_Book_stillTexts
  unfold V.masonrybook_Book_stillTexts
  refine ⟨fun i w' => i = 0 ∧ w' = w, fun _ _ => 0, ⟨rfl, rfl⟩, ?_⟩
  rintro i w1 ⟨rfl, rfl⟩
  exact ⟨blk g, rfl, ⟨none, 0, 0⟩, by rw [blk_cell0 h]; rfl, fun hlt => by simp at hlt, fun _ => hR⟩

theorem putTexts_spec {w : World} {g : Nat} {L W : Sl} (h : BookAt w g L W) {R : World → Prop} (hR : R w) : F.masonrybook_Book_putTexts (some (blk g)) w R := by
  apply E.masonrybook_Book_putTexts
  unfold V.masonrybook_Book_putTexts
  refine ⟨fun i w' => i = 0 ∧ w' = w, fun _ _ => 0, ⟨rfl, rfl⟩, ?_⟩
  rintro i w1 ⟨rfl, rfl⟩
  exact ⟨blk g, rfl, ⟨none, 0, 0⟩, by rw [blk_cell0 h]; rfl, fun hlt => by simp at hlt, fun _ => hR⟩

theorem growTexts_spec {w : World} {g : Nat} {L W : Sl} (h : BookAt w g L W) {R : Sl → World → Prop} (hR : R ⟨none, 0, 0⟩ w) : F.masonrybook_Book_growTexts (some (blk g)) w R := by
  apply E.masonrybook_Book_growTexts
  unfold V.masonrybook_Book_growTexts
  refine ⟨fun out i w' => out = ⟨none, 0, 0⟩ ∧ i = 0 ∧ w' = w, fun _ _ _ => 0, ⟨rfl, rfl, rfl⟩, ?_⟩
  rintro out i w1 ⟨rfl, rfl, rfl⟩
  exact ⟨blk g, rfl, ⟨none, 0, 0⟩, by rw [blk_cell0 h]; rfl, fun hlt => by simp at hlt, fun _ => hR⟩

theorem markedTexts_spec {w : World} {R : Bool → World → Prop} (hR : R true w) : F.masonrybook_markedTexts ⟨none, 0, 0⟩ w R := by
  apply E.masonrybook_markedTexts
  unfold V.masonrybook_markedTexts
  refine ⟨fun i w' => i = 0 ∧ w' = w, fun _ _ => 0, ⟨rfl, rfl⟩, ?_⟩
  rintro i w1 ⟨rfl, rfl⟩
  exact ⟨fun hlt => by simp at hlt, fun _ => hR⟩

theorem stillSpans_spec {w : World} {g : Nat} {L W : Sl} (h : BookAt w g L W) {R : Bool → World → Prop} (hR : R true w) : F.masonrybook_Book_stillSpans (some (blk g)) w R := by
  apply E.masonrybook_Book_stillSpans
  unfold V.masonrybook_Book_stillSpans
  refine ⟨fun i w' => i = 0 ∧ w' = w, fun _ _ => 0, ⟨rfl, rfl⟩, ?_⟩
  rintro i w1 ⟨rfl, rfl⟩
  exact ⟨blk g, rfl, ⟨none, 0, 0⟩, by rw [blk_cell h]; rfl, fun hlt => by simp at hlt, fun _ => hR⟩

theorem putSpans_spec {w : World} {g : Nat} {L W : Sl} (h : BookAt w g L W) {R : World → Prop} (hR : R w) : F.masonrybook_Book_putSpans (some (blk g)) w R := by
  apply E.masonrybook_Book_putSpans
  unfold V.masonrybook_Book_putSpans
  refine ⟨fun i w' => i = 0 ∧ w' = w, fun _ _ => 0, ⟨rfl, rfl⟩, ?_⟩
  rintro i w1 ⟨rfl, rfl⟩
  exact ⟨blk g, rfl, ⟨none, 0, 0⟩, by rw [blk_cell h]; rfl, fun hlt => by simp at hlt, fun _ => hR⟩

theorem growSpans_spec {w : World} {g : Nat} {L W : Sl} (h : BookAt w g L W) {R : Sl → World → Prop} (hR : R ⟨none, 0, 0⟩ w) : F.masonrybook_Book_growSpans (some (blk g)) w R := by
  apply E.masonrybook_Book_growSpans
  unfold V.masonrybook_Book_growSpans
  refine ⟨fun out i w' => out = ⟨none, 0, 0⟩ ∧ i = 0 ∧ w' = w, fun _ _ _ => 0, ⟨rfl, rfl, rfl⟩, ?_⟩
  rintro out i w1 ⟨rfl, rfl, rfl⟩
  exact ⟨blk g, rfl, ⟨none, 0, 0⟩, by rw [blk_cell h]; rfl, fun hlt => by simp at hlt, fun _ => hR⟩

theorem markedSpans_spec {w : World} {R : Bool → World → Prop} (hR : R true w) : F.masonrybook_markedSpans ⟨none, 0, 0⟩ w R := by
  apply E.masonrybook_markedSpans
  unfold V.masonrybook_markedSpans
  refine ⟨fun i w' => i = 0 ∧ w' = w, fun _ _ => 0, ⟨rfl, rfl⟩, ?_⟩
  rintro i w1 ⟨rfl, rfl⟩
  exact ⟨fun hlt => by simp at hlt, fun _ => hR⟩

theorem stillPieces_spec {w : World} {g : Nat} {L W : Sl} (h : BookAt w g L W) {R : Bool → World → Prop} (hR : R true w) : F.masonrybook_Book_stillPieces (some (blk g)) w R := by
  apply E.masonrybook_Book_stillPieces
  unfold V.masonrybook_Book_stillPieces
  refine ⟨fun i w' => i = 0 ∧ w' = w, fun _ _ => 0, ⟨rfl, rfl⟩, ?_⟩
  rintro i w1 ⟨rfl, rfl⟩
  exact ⟨blk g, rfl, ⟨none, 0, 0⟩, by rw [blk_cell h]; rfl, fun hlt => by simp at hlt, fun _ => hR⟩

theorem putPieces_spec {w : World} {g : Nat} {L W : Sl} (h : BookAt w g L W) {R : World → Prop} (hR : R w) : F.masonrybook_Book_putPieces (some (blk g)) w R := by
  apply E.masonrybook_Book_putPieces
  unfold V.masonrybook_Book_putPieces
  refine ⟨fun i w' => i = 0 ∧ w' = w, fun _ _ => 0, ⟨rfl, rfl⟩, ?_⟩
  rintro i w1 ⟨rfl, rfl⟩
  exact ⟨blk g, rfl, ⟨none, 0, 0⟩, by rw [blk_cell h]; rfl, fun hlt => by simp at hlt, fun _ => hR⟩

theorem growPieces_spec {w : World} {g : Nat} {L W : Sl} (h : BookAt w g L W) {R : Sl → World → Prop} (hR : R ⟨none, 0, 0⟩ w) : F.masonrybook_Book_growPieces (some (blk g)) w R := by
  apply E.masonrybook_Book_growPieces
  unfold V.masonrybook_Book_growPieces
  refine ⟨fun out i w' => out = ⟨none, 0, 0⟩ ∧ i = 0 ∧ w' = w, fun _ _ _ => 0, ⟨rfl, rfl, rfl⟩, ?_⟩
  rintro out i w1 ⟨rfl, rfl, rfl⟩
  exact ⟨blk g, rfl, ⟨none, 0, 0⟩, by rw [blk_cell h]; rfl, fun hlt => by simp at hlt, fun _ => hR⟩

theorem markedPieces_spec {w : World} {R : Bool → World → Prop} (hR : R true w) : F.masonrybook_markedPieces ⟨none, 0, 0⟩ w R := by
  apply E.masonrybook_markedPieces
  unfold V.masonrybook_markedPieces
  refine ⟨fun i w' => i = 0 ∧ w' = w, fun _ _ => 0, ⟨rfl, rfl⟩, ?_⟩
  rintro i w1 ⟨rfl, rfl⟩
  exact ⟨fun hlt => by simp at hlt, fun _ => hR⟩

theorem stillEntries_spec {w : World} {g : Nat} {L W : Sl} (h : BookAt w g L W) {R : Bool → World → Prop} (hR : R true w) : F.masonrybook_Book_stillEntries (some (blk g)) w R := by
  apply E.masonrybook_Book_stillEntries
  unfold V.masonrybook_Book_stillEntries
  refine ⟨fun i w' => i = 0 ∧ w' = w, fun _ _ => 0, ⟨rfl, rfl⟩, ?_⟩
  rintro i w1 ⟨rfl, rfl⟩
  exact ⟨blk g, rfl, ⟨none, 0, 0⟩, by rw [blk_cell h]; rfl, fun hlt => by simp at hlt, fun _ => hR⟩

theorem putEntries_spec {w : World} {g : Nat} {L W : Sl} (h : BookAt w g L W) {R : World → Prop} (hR : R w) : F.masonrybook_Book_putEntries (some (blk g)) w R := by
  apply E.masonrybook_Book_putEntries
  unfold V.masonrybook_Book_putEntries
  refine ⟨fun i w' => i = 0 ∧ w' = w, fun _ _ => 0, ⟨rfl, rfl⟩, ?_⟩
  rintro i w1 ⟨rfl, rfl⟩
  exact ⟨blk g, rfl, ⟨none, 0, 0⟩, by rw [blk_cell h]; rfl, fun hlt => by simp at hlt, fun _ => hR⟩

theorem growEntries_spec {w : World} {g : Nat} {L W : Sl} (h : BookAt w g L W) {R : Sl → World → Prop} (hR : R ⟨none, 0, 0⟩ w) : F.masonrybook_Book_growEntries (some (blk g)) w R := by
  apply E.masonrybook_Book_growEntries
  unfold V.masonrybook_Book_growEntries
  refine ⟨fun out i w' => out = ⟨none, 0, 0⟩ ∧ i = 0 ∧ w' = w, fun _ _ _ => 0, ⟨rfl, rfl, rfl⟩, ?_⟩
  rintro out i w1 ⟨rfl, rfl, rfl⟩
  exact ⟨blk g, rfl, ⟨none, 0, 0⟩, by rw [blk_cell h]; rfl, fun hlt => by simp at hlt, fun _ => hR⟩

theorem markedEntries_spec {w : World} {R : Bool → World → Prop} (hR : R true w) : F.masonrybook_markedEntries ⟨none, 0, 0⟩ w R := by
  apply E.masonrybook_markedEntries
  unfold V.masonrybook_markedEntries
  refine ⟨fun i w' => i = 0 ∧ w' = w, fun _ _ => 0, ⟨rfl, rfl⟩, ?_⟩
  rintro i w1 ⟨rfl, rfl⟩
  exact ⟨fun hlt => by simp at hlt, fun _ => hR⟩

theorem stillObjects_spec {w : World} {g : Nat} {L W : Sl} (h : BookAt w g L W) {R : Bool → World → Prop} (hR : R true w) : F.masonrybook_Book_stillObjects (some (blk g)) w R := by
  apply E.masonrybook_Book_stillObjects
  unfold V.masonrybook_Book_stillObjects
  refine ⟨fun i w' => i = 0 ∧ w' = w, fun _ _ => 0, ⟨rfl, rfl⟩, ?_⟩
  rintro i w1 ⟨rfl, rfl⟩
  exact ⟨blk g, rfl, ⟨none, 0, 0⟩, by rw [blk_cell h]; rfl, fun hlt => by simp at hlt, fun _ => hR⟩

theorem putObjects_spec {w : World} {g : Nat} {L W : Sl} (h : BookAt w g L W) {R : World → Prop} (hR : R w) : F.masonrybook_Book_putObjects (some (blk g)) w R := by
  apply E.masonrybook_Book_putObjects
  unfold V.masonrybook_Book_putObjects
  refine ⟨fun i w' => i = 0 ∧ w' = w, fun _ _ => 0, ⟨rfl, rfl⟩, ?_⟩
  rintro i w1 ⟨rfl, rfl⟩
  exact ⟨blk g, rfl, ⟨none, 0, 0⟩, by rw [blk_cell h]; rfl, fun hlt => by simp at hlt, fun _ => hR⟩

theorem growObjects_spec {w : World} {g : Nat} {L W : Sl} (h : BookAt w g L W) {R : Sl → World → Prop} (hR : R ⟨none, 0, 0⟩ w) : F.masonrybook_Book_growObjects (some (blk g)) w R := by
  apply E.masonrybook_Book_growObjects
  unfold V.masonrybook_Book_growObjects
  refine ⟨fun out i w' => out = ⟨none, 0, 0⟩ ∧ i = 0 ∧ w' = w, fun _ _ _ => 0, ⟨rfl, rfl, rfl⟩, ?_⟩
  rintro out i w1 ⟨rfl, rfl, rfl⟩
  exact ⟨blk g, rfl, ⟨none, 0, 0⟩, by rw [blk_cell h]; rfl, fun hlt => by simp at hlt, fun _ => hR⟩

theorem markedObjects_spec {w : World} {R : Bool → World → Prop} (hR : R true w) : F.masonrybook_markedObjects ⟨none, 0, 0⟩ w R := by
  apply E.masonrybook_markedObjects
  unfold V.masonrybook_markedObjects
  refine ⟨fun i w' => i = 0 ∧ w' = w, fun _ _ => 0, ⟨rfl, rfl⟩, ?_⟩
  rintro i w1 ⟨rfl, rfl⟩
  exact ⟨fun hlt => by simp at hlt, fun _ => hR⟩

theorem stillWrites_spec {w : World} {g : Nat} {L W : Sl} (h : BookAt w g L W) {R : Bool → World → Prop} (hR : R true w) : F.masonrybook_Book_stillWrites (some (blk g)) w R := by
  apply E.masonrybook_Book_stillWrites
  unfold V.masonrybook_Book_stillWrites
  refine ⟨fun i w' => i = 0 ∧ w' = w, fun _ _ => 0, ⟨rfl, rfl⟩, ?_⟩
  rintro i w1 ⟨rfl, rfl⟩
  exact ⟨blk g, rfl, ⟨none, 0, 0⟩, by rw [blk_cell h]; rfl, fun hlt => by simp at hlt, fun _ => hR⟩

theorem putWrites_spec {w : World} {g : Nat} {L W : Sl} (h : BookAt w g L W) {R : World → Prop} (hR : R w) : F.masonrybook_Book_putWrites (some (blk g)) w R := by
  apply E.masonrybook_Book_putWrites
  unfold V.masonrybook_Book_putWrites
  refine ⟨fun i w' => i = 0 ∧ w' = w, fun _ _ => 0, ⟨rfl, rfl⟩, ?_⟩
  rintro i w1 ⟨rfl, rfl⟩
  exact ⟨blk g, rfl, ⟨none, 0, 0⟩, by rw [blk_cell h]; rfl, fun hlt => by simp at hlt, fun _ => hR⟩

theorem growWrites_spec {w : World} {g : Nat} {L W : Sl} (h : BookAt w g L W) {R : Sl → World → Prop} (hR : R ⟨none, 0, 0⟩ w) : F.masonrybook_Book_growWrites (some (blk g)) w R := by
  apply E.masonrybook_Book_growWrites
  unfold V.masonrybook_Book_growWrites
  refine ⟨fun out i w' => out = ⟨none, 0, 0⟩ ∧ i = 0 ∧ w' = w, fun _ _ _ => 0, ⟨rfl, rfl, rfl⟩, ?_⟩
  rintro out i w1 ⟨rfl, rfl, rfl⟩
  exact ⟨blk g, rfl, ⟨none, 0, 0⟩, by rw [blk_cell h]; rfl, fun hlt => by simp at hlt, fun _ => hR⟩

theorem markedWrites_spec {w : World} {R : Bool → World → Prop} (hR : R true w) : F.masonrybook_markedWrites ⟨none, 0, 0⟩ w R := by
  apply E.masonrybook_markedWrites
  unfold V.masonrybook_markedWrites
  refine ⟨fun i w' => i = 0 ∧ w' = w, fun _ _ => 0, ⟨rfl, rfl⟩, ?_⟩
  rintro i w1 ⟨rfl, rfl⟩
  exact ⟨fun hlt => by simp at hlt, fun _ => hR⟩

theorem stillSteps_spec {w : World} {g : Nat} {L W : Sl} (h : BookAt w g L W) {R : Bool → World → Prop} (hR : R true w) : F.masonrybook_Book_stillSteps (some (blk g)) w R := by
  apply E.masonrybook_Book_stillSteps
  unfold V.masonrybook_Book_stillSteps
  refine ⟨fun i w' => i = 0 ∧ w' = w, fun _ _ => 0, ⟨rfl, rfl⟩, ?_⟩
  rintro i w1 ⟨rfl, rfl⟩
  exact ⟨blk g, rfl, ⟨none, 0, 0⟩, by rw [blk_cell h]; rfl, fun hlt => by simp at hlt, fun _ => hR⟩

theorem putSteps_spec {w : World} {g : Nat} {L W : Sl} (h : BookAt w g L W) {R : World → Prop} (hR : R w) : F.masonrybook_Book_putSteps (some (blk g)) w R := by
  apply E.masonrybook_Book_putSteps
  unfold V.masonrybook_Book_putSteps
  refine ⟨fun i w' => i = 0 ∧ w' = w, fun _ _ => 0, ⟨rfl, rfl⟩, ?_⟩
  rintro i w1 ⟨rfl, rfl⟩
  exact ⟨blk g, rfl, ⟨none, 0, 0⟩, by rw [blk_cell h]; rfl, fun hlt => by simp at hlt, fun _ => hR⟩

theorem growSteps_spec {w : World} {g : Nat} {L W : Sl} (h : BookAt w g L W) {R : Sl → World → Prop} (hR : R ⟨none, 0, 0⟩ w) : F.masonrybook_Book_growSteps (some (blk g)) w R := by
  apply E.masonrybook_Book_growSteps
  unfold V.masonrybook_Book_growSteps
  refine ⟨fun out i w' => out = ⟨none, 0, 0⟩ ∧ i = 0 ∧ w' = w, fun _ _ _ => 0, ⟨rfl, rfl, rfl⟩, ?_⟩
  rintro out i w1 ⟨rfl, rfl, rfl⟩
  exact ⟨blk g, rfl, ⟨none, 0, 0⟩, by rw [blk_cell h]; rfl, fun hlt => by simp at hlt, fun _ => hR⟩

theorem markedSteps_spec {w : World} {R : Bool → World → Prop} (hR : R true w) : F.masonrybook_markedSteps ⟨none, 0, 0⟩ w R := by
  apply E.masonrybook_markedSteps
  unfold V.masonrybook_markedSteps
  refine ⟨fun i w' => i = 0 ∧ w' = w, fun _ _ => 0, ⟨rfl, rfl⟩, ?_⟩
  rintro i w1 ⟨rfl, rfl⟩
  exact ⟨fun hlt => by simp at hlt, fun _ => hR⟩

end Go.Proofs.YtepclihkniaieaaGreatDoor
