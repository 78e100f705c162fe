/- masonryref1.ReadNames: the walk. -/
import Derived.Test.YtepclihkniaieaaDoorRe
set_option linter.unusedVariables false
namespace Go.Proofs.YtepclihkniaieaaDoor
open Go Go.Vc Go.RowKit Go.Lib

/-- where the reading stands -/
def InvR (g : Nat) (w : World) (b1 : List UInt8) (e1 : Int) (m : Nat) (x : World) (out : Sl) : Prop :=
  RefIn x g (namesIn m (b1, e1)).2.1 (namesIn m (b1, e1)).2.2 ∧ Own x T.y_masonryref1_Name 2 out (nameCells (namesIn m (b1, e1)).1) ∧ (∀ k, out.bk k → g < k) ∧ Below g w x ∧ g < x.heap.size

theorem RefRead_spec {w : World} {b : List UInt8} (hb : b.length ≤ 1000000000000) {R : Sl → Int → World → Prop}
    (hR : ∀ l w', Own w' T.y_masonryref1_Name 2 l (nameCells (readNames b).1) → (∀ k, l.bk k → w.heap.size ≤ k) → Below w.heap.size w w' → R l (readNames b).2 w') : F.masonryref1_ReadNames (tx b) w R := by
  obtain ⟨i, hi, hz, hs1, hby⟩ := info_rname
  apply E.masonryref1_ReadNames
  unfold V.masonryref1_ReadNames
  intro w1
  have hI1 : RefIn w1 w.heap.size b 0 := ⟨heap_new w _⟩
  have hF1 : Fr no w w1 := Fr.alloc _ _ _
  have hs1' : w1.heap.size = w.heap.size + 1 := by simp [w1]
  clear_value w1
  have hB1 : Below w.heap.size w w1 := below_fr hF1
  generalize hgg : w.heap.size = g at *
  have toB : ∀ {x y : World}, Fr (· = g) x y → g ≤ x.heap.size → Below g x y := fun h hx => h.toBelow (fun k hk => by subst hk; exact Nat.le_refl _) hx
  refine RefIn_Num (size := 1) hI1 (by decide) fun w2 hI2 hF2 => ?_
  have hs2 := hF2.size
  have hB2 : Below g w w2 := hB1.trans (toB hF2 (by omega))
  have hnb := lowIn_bound 1 b 0 (by decide)
  have hlb := lowIn_left 1 b 0
  have hlow : lowIn 1 b 0 = lowIn 1 b 0 := rfl
  generalize hlw : lowIn 1 b 0 = low at hI2 hnb hlb
  obtain ⟨nn, b1, e1⟩ := low
  simp only at hI2 hnb hlb ⊢
  obtain ⟨N, rfl⟩ : ∃ N : Nat, nn = N := ⟨nn.toNat, by omega⟩
  have hN : N < 256 := by have : (256 : Int) ^ 1 = 256 := by decide
                          omega
  have hnil : ∀ {x : World} {e : Int}, Below g w x → readNames b = ([], e) → R ⟨none, 0, 0⟩ e x := fun hx h => by
    have := hR ⟨none, 0, 0⟩ _ (by rw [h]; exact Own.nil _ _ _) (fun k hk => by obtain ⟨a, ha, _⟩ := hk; cases ha) hx
    rw [h] at this; exact this
  have fin : ∀ {x : World} {out : Sl}, InvR g w b1 e1 N x out → (namesIn N (b1, e1)).2.2 = 0 → F.masonryref1_LayNames out x (fun (s2 : ByteArray) (n9 : Int) (w_11 : World) => (((n9 != 0) = true → (R ⟨none, 0, 0⟩ 6 w_11)) ∧ ((n9 != 0) = false → ((((!sEq s2 (tx b)) = true → (R ⟨none, 0, 0⟩ 6 w_11)) ∧ ((!sEq s2 (tx b)) = false → (R out 0 w_11))))))) := fun {x out} hI he => by
    obtain ⟨_, hO, hbk, hB, hgx⟩ := hI
    have hok := readNames_ok hlw he
    refine RefLay_spec (Own.names' hO) (by rw [namesIn_len]; omega) (fun y hy => Nat.le_trans (namesIn_names N (b1, e1) y hy) (by show b1.length ≤ _; omega)) fun w5 hB5 => ?_
    have hB5' := hB.trans (hB5.mono (by omega))
    refine ⟨fun hne => ?_, fun heq6 => ?_⟩
    · have hne : (layNames (namesIn N (b1, e1)).1).2 ≠ 0 := by simpa using hne
      rw [if_pos hne] at hok
      exact hnil hB5' hok
    have heq6 : (layNames (namesIn N (b1, e1)).1).2 = 0 := by simpa using heq6
    rw [if_neg (by simp [heq6])] at hok
    rw [tx_eq]
    refine ⟨fun hne => ?_, fun heqb => ?_⟩
    · have hne : (layNames (namesIn N (b1, e1)).1).1 ≠ b := by simpa using hne
      rw [if_pos hne] at hok
      exact hnil hB5' hok
    · have heqb : (layNames (namesIn N (b1, e1)).1).1 = b := by simpa using heqb
      rw [if_neg (by simp [heqb])] at hok
      have := hR out w5 (by rw [hok]; exact hO.keep (fr_below hB5) (fun _ _ => id)) (fun k hk => Nat.le_of_lt (hbk k hk)) hB5'
      rw [hok] at this; exact this
  have bad : ∀ {m : Nat} {x : World} {out : Sl}, m ≤ N → InvR g w b1 e1 m x out → (namesIn m (b1, e1)).2.2 ≠ 0 → readNames b = ([], (namesIn m (b1, e1)).2.2) := fun {m x out} hm hI he => by
    have h1 := namesIn_err he hm
    have h2 : (namesIn N (b1, e1)).2.2 = (namesIn m (b1, e1)).2.2 := by rw [h1]
    rw [readNames_err hlw (by rw [h2]; exact he), h2]
  refine ⟨fun out n x => ∃ m : Nat, n = m ∧ m ≤ N ∧ InvR g w b1 e1 m x out, fun _ n _ => (N - n).toNat, ⟨0, rfl, Nat.zero_le _, hI2, Own.nil _ _ _, fun k hk => (by obtain ⟨a, ha, _⟩ := hk; cases ha), hB2, by omega⟩, ?_⟩
  rintro out n w3 ⟨m, rfl, hm, hX⟩
  have hX' := hX
  obtain ⟨hI3, hO3, hk3, hB3, hg3⟩ := hX
  refine ⟨fun hlt => ?_, fun hge => ?_⟩
  · have hlt : m < N := by have := of_decide_eq_true hlt; omega
    refine ⟨(namesIn m (b1, e1)).2.2, by rw [blk_cell hI3.obj]; rfl, fun h0 => ?_, fun hne => ?_⟩
    · have e1' : w64 ((m : Int) + 1) = ((m + 1 : Nat) : Int) := by rw [w64_id (by omega) (by omega)]; omega
      have hstep : namesIn (m + 1) (b1, e1) = ((namesIn m (b1, e1)).1 ++ [(name1In (namesIn m (b1, e1)).2.1 (namesIn m (b1, e1)).2.2).1], (name1In (namesIn m (b1, e1)).2.1 (namesIn m (b1, e1)).2.2).2.1, (name1In (namesIn m (b1, e1)).2.1 (namesIn m (b1, e1)).2.2).2.2) := rfl
      have hnln := namesIn_len m (b1, e1)
      refine RefIn_Num (size := 1) hI3 (by decide) fun w4 hI4 hF4 => ?_
      refine RefIn_Raw hI4 fun w5 hI5 hF5 => ?_
      refine RefIn_Num (size := 2) hI5 (by decide) fun w6 hI6 hF6 => ?_
      have hs4 := hF4.size
      have hs5 := hF5.size
      have hs6 := hF6.size
      have hv7 : (w6.alloc (.cells #[.string (tx (name1In (namesIn m (b1, e1)).2.1 (namesIn m (b1, e1)).2.2).1.1), .int .i64 (name1In (namesIn m (b1, e1)).2.1 (namesIn m (b1, e1)).2.2).1.2] T.y_masonryref1_Name)).heap[w6.heap.size]? = some (.cells ⟨nameCells [(name1In (namesIn m (b1, e1)).2.1 (namesIn m (b1, e1)).2.2).1]⟩ T.y_masonryref1_Name (0, 0)) := heap_new w6 _
      have hF7 : Fr no w6 (w6.alloc (.cells #[.string (tx (name1In (namesIn m (b1, e1)).2.1 (namesIn m (b1, e1)).2.2).1.1), .int .i64 (name1In (namesIn m (b1, e1)).2.1 (namesIn m (b1, e1)).2.2).1.2] T.y_masonryref1_Name)) := Fr.alloc _ _ _
      have hs7 : (w6.alloc (.cells #[.string (tx (name1In (namesIn m (b1, e1)).2.1 (namesIn m (b1, e1)).2.2).1.1), .int .i64 (name1In (namesIn m (b1, e1)).2.1 (namesIn m (b1, e1)).2.2).1.2] T.y_masonryref1_Name)).heap.size = w6.heap.size + 1 := by simp
      change RunT Pg _ _ (w6.alloc (.cells #[.string (tx (name1In (namesIn m (b1, e1)).2.1 (namesIn m (b1, e1)).2.2).1.1), .int .i64 (name1In (namesIn m (b1, e1)).2.1 (namesIn m (b1, e1)).2.2).1.2] T.y_masonryref1_Name)) _
      generalize (w6.alloc (.cells #[.string (tx (name1In (namesIn m (b1, e1)).2.1 (namesIn m (b1, e1)).2.2).1.1), .int .i64 (name1In (namesIn m (b1, e1)).2.1 (namesIn m (b1, e1)).2.2).1.2] T.y_masonryref1_Name)) = w7 at hv7 hF7 hs7 ⊢
      have hav : ∀ k, out.bk k → ¬ (k = g) := fun k hk h => by have := hk3 k hk; omega
      have hO7 := (((hO3.keep hF4 hav).keep hF5 hav).keep hF6 hav).keep hF7 (fun _ _ => id)
      have hol := hO7.len
      rw [nameCells_len] at hol
      refine runT_append und_rnames hi hz hs1 hby rfl (by decide) hO7 (m := 1) (news := nameCells [(name1In (namesIn m (b1, e1)).2.1 (namesIn m (b1, e1)).2.2).1]) rfl (fun j u hu => by rw [blk_cell hv7 j]; exact hu) (nameCells_one _) (by simp only [maxLen]; omega) (by omega) fun l8 w8 hO8 hl8 hf8 hm8 => ?_
      have hB6 : Below g w w6 := ((hB3.trans (toB hF4 (by omega))).trans (toB hF5 (by omega))).trans (toB hF6 (by omega))
      refine ⟨⟨m + 1, e1', hlt, ?_, ?_, fun k hk => ?_, ?_, ?_⟩, ?_⟩
      · rw [hstep]; exact (hI6.keep hF7 id).keep hf8 (fun h => hav _ h rfl)
      · rw [hstep, nameCells_app]; exact hO8
      · rcases moved_bk hm8 hk with h | h
        · exact hk3 k h
        · omega
      · exact (hB6.trans ((below_fr hF7).mono (by omega))).trans (hf8.toBelow (fun k hk => Nat.le_of_lt (hk3 k hk)) (by omega))
      · have := hf8.size; omega
      · show ((N : Int) - w64 ((m : Int) + 1)).toNat < ((N : Int) - (m : Int)).toNat
        rw [e1']; omega
    · have hne : (namesIn m (b1, e1)).2.2 ≠ 0 := by simpa using hne
      refine ⟨_, by rw [blk_cell hI3.obj]; rfl, fun _ => ⟨_, by rw [drew_cell, blk_cell hI3.obj]; rfl, hnil hB3.drew (bad hm hX' hne)⟩, fun h => absurd (by simpa using h) hne⟩
  · have hge : N ≤ m := by have := of_decide_eq_false hge; omega
    have : m = N := by omega
    subst this
    refine ⟨_, by rw [blk_cell hI3.obj]; rfl, fun hne => ⟨_, by rw [drew_cell, blk_cell hI3.obj]; rfl, hnil hB3.drew (bad hm hX' (by simpa using hne))⟩, fun h => fin hX' (by simpa using h)⟩

end Go.Proofs.YtepclihkniaieaaDoor
