/- bits.In.End; sort.Search; table.Find. -/
import Derived.Test.YtepclihkniaieaaDoorTl
set_option linter.unusedVariables false
namespace Go.Proofs.YtepclihkniaieaaDoor
open Go Go.Vc Go.RowKit Go.Lib

def endIn (l : List UInt8) (e : Int) : Int := if e ≠ 0 then e else if l.all (fun b => [(0 : UInt8)].contains b) then 0 else 6

theorem endIn_cases (l : List UInt8) : (l.all (fun b => [(0 : UInt8)].contains b) = true ∧ endIn l 0 = 0) ∨ (¬ l.all (fun b => [(0 : UInt8)].contains b) = true ∧ endIn l 0 = 6) := by
  by_cases h : l.all (fun b => [(0 : UInt8)].contains b) = true
  · exact .inl ⟨h, by unfold endIn; rw [if_neg (by decide), if_pos h]⟩
  · exact .inr ⟨h, by unfold endIn; rw [if_neg (by decide), if_neg h]⟩

theorem In_Rest {w : World} {g : Nat} {l : List UInt8} {e : Int} (hI : InAt w g l e) (hl : l.length ≤ 1099511627776) {R : Bool → World → Prop} (hR : ∀ w', Below w.heap.size w w' → R (decide (endIn l e = 0)) w') : F.bits_In_Rest (some (blk g)) w R := by
  apply E.bits_In_Rest
  unfold V.bits_In_Rest
  refine ⟨fun _ => ⟨blk g, rfl, e, by rw [blk_cell hI.obj]; rfl, fun h => ?_, fun h => ?_⟩, fun h => by simp at h⟩
  · have h : e = 0 := by simpa using h
    subst h
    refine ⟨blk g, rfl, tx l, by rw [blk_cell0 hI.obj]; rfl, Trim_zero (by omega) fun w' hw' => ?_⟩
    have : sEq (tx (trim [0] l)) sNil = decide (endIn l 0 = 0) := by
      rw [tx_nil, tx_eq, Bool.eq_iff_iff, decide_eq_true_eq, decide_eq_true_eq, trim_nil]
      rcases endIn_cases l with ⟨h1, h2⟩ | ⟨h1, h2⟩
      · exact ⟨fun _ => h2, fun _ => h1⟩
      · exact ⟨fun h => absurd h h1, fun h => by rw [h2] at h; cases h⟩
    rw [this]
    exact hR w' hw'
  · have h : e ≠ 0 := by simpa using h
    have : endIn l e = e := by simp [endIn, h]
    rw [this] at hR
    have := hR w (Below.refl _ _)
    rw [decide_eq_false h] at this
    exact this

theorem In_End {w : World} {g : Nat} {l : List UInt8} {e : Int} (hI : InAt w g l e) (hl : l.length ≤ 1099511627776) {R : Int → World → Prop} (hR : ∀ w', InAt w' g l (endIn l e) → Fr (· = g) w w' → R (endIn l e) w') : F.bits_In_End (some (blk g)) w R := by
  apply E.bits_In_End
  unfold V.bits_In_End
  refine ⟨fun h => by simp at h, fun _ => ⟨blk g, rfl, e, by rw [blk_cell hI.obj]; rfl, fun h => ?_, fun h => ?_⟩⟩
  · have h : e = 0 := by simpa using h
    subst h
    refine In_Rest hI hl fun w' hw' => ?_
    have hI' := hI.keep (fr_below hw') id
    refine ⟨fun h => ?_, fun h => ?_⟩
    · have h : ¬ endIn l 0 = 0 := by simpa using h
      have h6 : endIn l 0 = 6 := by
        rcases endIn_cases l with ⟨_, h2⟩ | ⟨_, h2⟩
        · exact absurd h2 h
        · exact h2
      rw [h6] at hR
      have hI6 : InAt (w'.setCell ((blk g).add 1) (.int .i64 6)) g l 6 := ⟨by have := blk_set hI'.obj 1 (.int .i64 6); simpa using this⟩
      exact ⟨blk g, rfl, blk_wr hI'.obj (by simp), blk g, rfl, 6, by rw [blk_cell hI6.obj]; rfl, hR _ hI6 (((fr_below hw').mono (S' := (· = g)) (fun _ _ h => h.elim)).trans (fr_set _ g 1 _) (fun _ _ h => h))⟩
    · have h : endIn l 0 = 0 := by simpa using h
      rw [h] at hR
      exact ⟨blk g, rfl, 0, by rw [blk_cell hI'.obj]; rfl, hR _ hI' ((fr_below hw').mono (fun _ _ h => h.elim))⟩
  · have h : e ≠ 0 := by simpa using h
    have e1 : endIn l e = e := by simp [endIn, h]
    rw [e1] at hR
    exact ⟨blk g, rfl, e, by rw [blk_cell hI.obj]; rfl, hR w hI (Fr.refl _ _)⟩

/-- a place that a binary search finds -/
def Found (p : Nat → Bool) (n k : Nat) : Prop := k ≤ n ∧ (k = 0 ∨ p (k - 1) = false) ∧ (k = n ∨ p k = true)

theorem Search_spec {n : Nat} (hn : n ≤ 1099511627776) {f : Nat} {cap : Array Value} {w : World} {p : Nat → Bool} {I : World → Prop} (hI : I w) (hc : Callable Pg f)
    (hp : ∀ i, i < n → ∀ w', I w' → ∀ R : Bool → World → Prop, (∀ w'', I w'' → R (p i) w'') → RetT Pg [.one .bool] f (⟨[] ++ [.int .i64 (i : Int)] ++ cap.toList⟩) w' R)
    {R : Int → World → Prop} (hR : ∀ (k : Nat) w', Found p n k → I w' → R k w') : F.sort_Search (n : Int) (.func (.func f) #[] cap) w R := by
  apply E.sort_Search
  unfold V.sort_Search
  refine ⟨fun i j w' => ∃ a b : Nat, i = a ∧ j = b ∧ a ≤ b ∧ b ≤ n ∧ (a = 0 ∨ p (a - 1) = false) ∧ (b = n ∨ p b = true) ∧ I w', fun i j _ => (j - i).toNat, ⟨0, n, rfl, rfl, Nat.zero_le _, Nat.le_refl _, .inl rfl, .inl rfl, hI⟩, ?_⟩
  rintro i j w1 ⟨a, b, rfl, rfl, hab, hbn, ha, hb, hI1⟩
  refine ⟨fun hlt => ?_, fun hge => ?_⟩
  · have hlt : a < b := by have := of_decide_eq_true hlt; omega
    have e1 : w64 ((a : Int) + (b : Int)) = ((a + b : Nat) : Int) := by rw [w64_id (by omega) (by omega)]; omega
    have e2 : shr .u64 (wr .u64 ((a + b : Nat) : Int)) 1 = (((a + b) / 2 : Nat) : Int) := by
      rw [wr64_id (by omega) (by omega)]
      unfold shr
      show ((a + b : Nat) : Int).fdiv (2 ^ 1) = _
      rw [Int.fdiv_eq_ediv_of_nonneg _ (by decide)]
      omega
    have e3 : w64 (((a + b) / 2 : Nat) : Int) = (((a + b) / 2 : Nat) : Int) := w64_id (by omega) (by omega)
    have e4 : w64 ((((a + b) / 2 : Nat) : Int) + 1) = (((a + b) / 2 + 1 : Nat) : Int) := by rw [w64_id (by omega) (by omega)]; omega
    rw [e1, e2, e3, e4]
    refine ⟨by decide, f, #[], cap, rfl, hc, hp ((a + b) / 2) (by omega) w1 hI1 _ fun w2 hI2 => ⟨fun h => ⟨?_, ?_⟩, fun h => ⟨?_, ?_⟩⟩⟩
    · exact ⟨(a + b) / 2 + 1, b, rfl, rfl, by omega, hbn, .inr (by simpa using h), hb, hI2⟩
    · show ((b : Int) - (((a + b) / 2 + 1 : Nat) : Int)).toNat < ((b : Int) - (a : Int)).toNat
      omega
    · exact ⟨a, (a + b) / 2, rfl, rfl, by omega, by omega, ha, .inr (by simpa using h), hI2⟩
    · show ((((a + b) / 2 : Nat) : Int) - (a : Int)).toNat < ((b : Int) - (a : Int)).toNat
      omega
  · have hge : b ≤ a := by have := of_decide_eq_false hge; omega
    have : a = b := by omega
    subst this
    exact hR a w1 ⟨hbn, ha, hb⟩ hI1

def nameP (ns : List (List UInt8 × Int)) (name : List UInt8) (i : Nat) : Bool := !Op.bytesLess (ns.getD i ([], 0)).1 name

theorem Find_spec {w : World} {sl : Sl} {ns : List (List UInt8 × Int)} (hN : Names w sl ns) (hb : ns.length ≤ 1099511627776) {name : List UInt8} {R : Int → Bool → World → Prop}
    (hR : ∀ (k : Nat) w', Found (nameP ns name) ns.length k → Below w.heap.size w w' → R k (decide (k < ns.length ∧ (ns.getD k ([], 0)).1 = name)) w') : F.table_Find sl (tx name) w R := by
  apply E.table_Find
  unfold V.table_Find
  intro w1 w2
  have h1 : w1.heap[w.heap.size]? = some (.cells ⟨[.slice sl.a sl.len sl.cap]⟩ T.y_sl_table_Name (0, 0)) := heap_new w _
  have hs1 : w1.heap.size = w.heap.size + 1 := by simp [w1]
  have hF1 : Fr no w w1 := Fr.alloc _ _ _
  have h2 : w2.heap[w1.heap.size]? = some (.cells ⟨[.string (tx name)]⟩ T.y_string (0, 0)) := heap_new w1 _
  have hs2 : w2.heap.size = w1.heap.size + 1 := by simp [w2]
  have hF2 : Fr no w1 w2 := Fr.alloc _ _ _
  clear_value w2
  clear_value w1
  have h1' := hF2.heap h1 id
  have hB2 : Below w.heap.size w w2 := below_fr (hF1.trans hF2 (fun _ _ h => h))
  have hN2 := hN.below hB2
  have hlen := hN.1
  refine ⟨sl, by rw [blk_cell0 h1']; rfl, ?_⟩
  have hl : ((sl.len : Nat) : Int) = (ns.length : Int) := by rw [hlen]
  simp only [hl]
  refine Search_spec hb (p := nameP ns name) (I := fun w' => Below w2.heap.size w2 w') (Below.refl _ _) (okChk_spec (by kernel_rfl)) ?_ ?_
  · intro i hi w3 hI3 R' hR'
    have g1 := (fr_below hI3).heap h1' id
    have g2 := (fr_below hI3).heap h2 id
    obtain ⟨a, ha, hc, _⟩ := (hN2.below hI3).2 i ns[i] (by simp [hi])
    refine (show F.table_Find_fn1 (i : Int) (blk w.heap.size) (blk w1.heap.size) w3 R' from E.table_Find_fn1 ?_)
    unfold V.table_Find_fn1
    refine ⟨sl, by rw [drew_cell, blk_cell0 g1]; rfl, a, ha, by omega, by omega, tx ns[i].1, by rw [drew_cell]; simpa using hc, tx name, by rw [drew_cell, blk_cell0 g2]; rfl, ?_⟩
    rw [tx_lt]
    have e1 : nameP ns name i = !Op.bytesLess ns[i].1 name := by simp [nameP, hi]
    rw [← e1]
    exact hR' _ hI3.drew
  · intro k w3 hk hI3
    have g1 := (fr_below hI3).heap h1' id
    have g2 := (fr_below hI3).heap h2 id
    have hB3 : Below w.heap.size w w3.drew := (hB2.trans (hI3.mono (by omega))).drew
    refine ⟨sl, by rw [drew_cell, blk_cell0 g1]; rfl, fun hlt => ?_, fun hge => ?_⟩
    · have hlt : k < ns.length := by have := of_decide_eq_true hlt; omega
      obtain ⟨a, ha, hc, _⟩ := (hN2.below hI3).2 k ns[k] (by simp [hlt])
      refine ⟨sl, by rw [drew_cell, blk_cell0 g1]; rfl, a, ha, by omega, by omega, tx ns[k].1, by rw [drew_cell]; simpa using hc, tx name, by rw [drew_cell, blk_cell0 g2]; rfl, ?_⟩
      rw [tx_eq]
      have e1 : decide (k < ns.length ∧ (ns.getD k ([], 0)).1 = name) = decide (ns[k].1 = name) := by simp [hlt]
      rw [← e1]
      exact hR k _ hk hB3
    · have hge : ¬ k < ns.length := by have := of_decide_eq_false hge; omega
      have e1 : decide (k < ns.length ∧ (ns.getD k ([], 0)).1 = name) = false := by simp [hge]
      rw [← e1]
      exact hR k _ hk hB3

end Go.Proofs.YtepclihkniaieaaDoor
