/- table: which names may be; how names are laid. -/
import Derived.Test.YtepclihkniaieaaDoorOv
set_option linter.unusedVariables false
namespace Go.Proofs.YtepclihkniaieaaDoor
open Go Go.Vc Go.RowKit Go.Lib

theorem dw_nil {α : Type} {p : α → Bool} : ∀ {l : List α}, l.dropWhile p = [] ↔ ∀ x ∈ l, p x = true
  | [] => by simp
  | a :: r => by
    rw [List.dropWhile_cons]
    split
    · rename_i h
      rw [dw_nil (l := r)]
      simp [h]
    · rename_i h
      simp [h]

theorem tw_mem {α : Type} {p : α → Bool} {x : α} : ∀ {l : List α}, x ∈ l.takeWhile p → p x = true
  | [], h => by simp at h
  | a :: r, h => by
    rw [List.takeWhile_cons] at h
    split at h
    · rename_i ha
      rcases List.mem_cons.1 h with rfl | h
      · exact ha
      · exact tw_mem h
    · simp at h

theorem trim_nil {set l : List UInt8} : trim set l = [] ↔ l.all (fun b => set.contains b) = true := by
  unfold trim trimL
  rw [dw_nil]
  simp only [List.mem_reverse]
  constructor
  · intro h
    rw [List.all_eq_true]
    intro x hx
    have h3 := List.takeWhile_append_dropWhile (p := fun b => set.contains b) (l := l.reverse)
    have hx' : x ∈ l.reverse := List.mem_reverse.2 hx
    rw [← h3] at hx'
    rcases List.mem_append.1 hx' with h4 | h4
    · exact tw_mem (p := fun b => set.contains b) h4
    · exact h x h4
  · intro h x hx
    exact List.all_eq_true.1 h x (List.mem_reverse.1 ((List.dropWhile_sublist _).mem hx))

def validN (n : List UInt8) : Bool := decide (1 ≤ n.length) && (decide (n.length ≤ 12) && n.all (fun b => letters.contains b))

theorem Valid_spec {n : List UInt8} {w : World} (hn : n.length ≤ 1099511627776) {R : Bool → World → Prop} (hR : ∀ w', Below w.heap.size w w' → R (validN n) w') : F.table_Valid (tx n) w R := by
  apply E.table_Valid
  unfold V.table_Valid
  rw [tx_size]
  refine ⟨fun h1 => ⟨fun h2 => ?_, fun h2 => ?_⟩, fun h1 => ?_⟩
  · have h1 : 1 ≤ n.length := by have := of_decide_eq_true h1; omega
    have h2 : n.length ≤ 12 := by simp at h2; omega
    refine Trim_letters (by intro h; subst h; simp at h1) (by omega) fun w' hw' => ?_
    have : sEq (tx (trim letters n)) sNil = validN n := by
      rw [tx_nil, tx_eq]
      simp only [validN, h1, h2, decide_true, Bool.true_and]
      rw [Bool.eq_iff_iff, decide_eq_true_eq]
      exact trim_nil
    rw [this]
    exact hR w' hw'
  · have h2 : ¬ n.length ≤ 12 := by simp at h2; omega
    have : validN n = false := by simp [validN, h2]
    rw [← this]; exact hR w (Below.refl _ _)
  · have h1 : ¬ 1 ≤ n.length := by have := of_decide_eq_false h1; omega
    have : validN n = false := by simp only [validN, h1, decide_false, Bool.false_and]
    rw [← this]; exact hR w (Below.refl _ _)

theorem letter_mem (b : UInt8) : letters.contains b = ((decide (97 ≤ b.toNat) && decide (b.toNat ≤ 122)) || ((decide (48 ≤ b.toNat) && decide (b.toNat ≤ 57)) || (decide (b.toNat = 46) || decide (b.toNat = 64)))) := by
  have h : ∀ x : Fin 256, letters.contains (UInt8.ofNat x.val) = ((decide (97 ≤ (UInt8.ofNat x.val).toNat) && decide ((UInt8.ofNat x.val).toNat ≤ 122)) || ((decide (48 ≤ (UInt8.ofNat x.val).toNat) && decide ((UInt8.ofNat x.val).toNat ≤ 57)) ||
      (decide ((UInt8.ofNat x.val).toNat = 46) || decide ((UInt8.ofNat x.val).toNat = 64)))) := by decide +kernel
  have h2 := h ⟨b.toNat, b.toNat_lt⟩
  simpa using h2

theorem ValidName_spec {n : List UInt8} {w : World} (hn : n.length ≤ 1099511627776) {R : Bool → World → Prop} (hR : R (validN n) w) : F.masonryref1_ValidName (tx n) w R := by
  apply E.masonryref1_ValidName
  unfold V.masonryref1_ValidName
  refine ⟨fun i w' => ∃ m : Nat, i = m ∧ m ≤ n.length ∧ (n.take m).all (fun b => letters.contains b) = true ∧ w' = w, fun i _ => (n.length - i).toNat, ⟨0, rfl, Nat.zero_le _, by simp, rfl⟩, ?_⟩
  rintro i w' ⟨m, rfl, hm, hall, rfl⟩
  rw [tx_size, tx_at]
  refine ⟨fun hlt => ?_, fun hge => ?_⟩
  · have hlt : m < n.length := by simpa using hlt
    have e1 : w64 ((m : Int) + 1) = ((m + 1 : Nat) : Int) := by rw [w64_id (by omega) (by omega)]; omega
    have hb : n.getD m 0 = n[m] := by simp [hlt]
    rw [hb]
    have hall1 : (n.take (m + 1)).all (fun b => letters.contains b) = letters.contains n[m] := by
      rw [List.take_succ_eq_append_getElem hlt, List.all_append, hall]; simp
    have yes : letters.contains n[m] = true → ((∃ m' : Nat, w64 ((m : Int) + 1) = m' ∧ m' ≤ n.length ∧ (n.take m').all (fun b => letters.contains b) = true ∧ w' = w') ∧ ((n.length : Int) - w64 ((m : Int) + 1)).toNat < ((n.length : Int) - (m : Int)).toNat) := fun h =>
      ⟨⟨m + 1, e1, hlt, by rw [hall1]; exact h, rfl⟩, by rw [e1]; omega⟩
    have nope : letters.contains n[m] = false → R false w' := fun h => by
      have : validN n = false := by
        have : n.all (fun b => letters.contains b) = false := by
          rw [List.all_eq_false]; exact ⟨n[m], List.getElem_mem _, by rw [h]; simp⟩
        simp only [validN, this, Bool.and_false]
      rw [← this]; exact hR
    have hc := letter_mem n[m]
    generalize hx : n[m].toNat = x at hc
    refine ⟨by omega, by omega, fun h1 => ⟨fun h2 => yes ?_, fun h2 => ⟨fun h3 => ⟨fun h4 => yes ?_, fun h4 => ⟨fun h5 => yes ?_, fun h5 => ⟨fun h6 => nope ?_, fun h6 => yes ?_⟩⟩⟩, fun h3 => ⟨fun h5 => yes ?_, fun h5 => ⟨fun h6 => nope ?_, fun h6 => yes ?_⟩⟩⟩⟩,
      fun h1 => ⟨fun h3 => ⟨fun h4 => yes ?_, fun h4 => ⟨fun h5 => yes ?_, fun h5 => ⟨fun h6 => nope ?_, fun h6 => yes ?_⟩⟩⟩, fun h3 => ⟨fun h5 => yes ?_, fun h5 => ⟨fun h6 => nope ?_, fun h6 => yes ?_⟩⟩⟩⟩
    all_goals (rw [hc]; simp at *; omega)
  · have hge : n.length ≤ m := by simpa using hge
    have : m = n.length := by omega
    subst this
    rw [List.take_length] at hall
    refine ⟨fun h1 => ?_, fun h1 => ?_⟩
    · have h1 : 1 ≤ n.length := by have := of_decide_eq_true h1; omega
      have : validN n = decide ((n.length : Int) ≤ 12) := by
        simp only [validN, hall, Bool.and_true, h1, decide_true, Bool.true_and]
        rw [Bool.eq_iff_iff]; simp; omega
      rw [← this]; exact hR
    · have h1 : ¬ 1 ≤ n.length := by have := of_decide_eq_false h1; omega
      have : validN n = false := by simp only [validN, h1, decide_false, Bool.false_and]
      rw [← this]; exact hR

end Go.Proofs.YtepclihkniaieaaDoor
