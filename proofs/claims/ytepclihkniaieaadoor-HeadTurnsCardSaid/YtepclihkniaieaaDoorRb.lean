/- masonryref1.LayNames: the document's answer is what table.Lay lays. -/
import Derived.Test.YtepclihkniaieaaDoorRa
import Derived.Test.YtepclihkniaieaaDoorSu
set_option linter.unusedVariables false
namespace Go.Proofs.YtepclihkniaieaaDoor
open Go Go.Vc Go.RowKit Go.Lib

theorem ord_same (a b : List UInt8) : (Op.bytesLess b a || decide (b = a)) = !Op.bytesLess a b := by
  rw [less_lt, less_lt]
  by_cases h : a < b
  · have h1 : ¬ b < a := fun h' => List.lt_irrefl a (List.lt_trans h h')
    have h2 : b ≠ a := fun h' => by subst h'; exact List.lt_irrefl _ h
    simp [h, h1, h2]
  · by_cases h2 : b = a
    · simp [h, h2]
    · simp [h, lt_of_not h (fun hh => h2 hh.symm)]

theorem RefLay_spec {w : World} {sl : Sl} {ns : List Nm} (hN : Names w sl ns) (hb : ns.length ≤ 1000000) (hl : ∀ n ∈ ns, n.1.length ≤ 1099511627776) {R : ByteArray → Int → World → Prop}
    (hR : ∀ w', Below w.heap.size w w' → R (tx (layNames ns).1) (layNames ns).2 w') : F.masonryref1_LayNames sl w R := by
  apply E.masonryref1_LayNames
  unfold V.masonryref1_LayNames
  have hlen := hN.1
  refine ⟨fun n w' => ∃ m : Nat, n = m ∧ m ≤ ns.length ∧ (∀ j, j < m → okAt ns j = true) ∧ Below w.heap.size w w', fun n _ => (ns.length - n).toNat, ⟨0, rfl, Nat.zero_le _, fun j hj => absurd hj (Nat.not_lt_zero _), Below.refl _ _⟩, ?_⟩
  rintro n w0 ⟨m, rfl, hm, hok, hB0⟩
  refine ⟨fun hlt => ?_, fun hge => ?_⟩
  · have hlt : m < ns.length := by have := of_decide_eq_true hlt; omega
    have e1 : w64 ((m : Int) + 1) = ((m + 1 : Nat) : Int) := by rw [w64_id (by omega) (by omega)]; omega
    intro w1
    have hB : Below w.heap.size w w1 := hB0.drew
    clear_value w1
    obtain ⟨a, ha, hc1, hc2⟩ := (hN.below hB).2 m ns[m] (by simp [hlt])
    have hat : okAt ns m = (validN ns[m].1 && (decide (1 ≤ ns[m].2) && (decide (ns[m].2 < 2000) && (decide (m = 0) || !(Op.bytesLess ns[m].1 (ns.getD (m - 1) ([], 0)).1 || decide (ns[m].1 = (ns.getD (m - 1) ([], 0)).1)))))) := by
      unfold okAt
      have : ns[m]? = some ns[m] := by simp [hlt]
      rw [this]
    have bad : okAt ns m = false → R sNil 1 w1 := fun h => by
      have e2 : layNames ns = ([], 1) := by
        unfold layNames
        rw [if_neg]
        rw [List.all_eq_true]
        intro hall
        have := hall m (List.mem_range.2 hlt)
        rw [h] at this; cases this
      rw [e2] at hR
      exact hR w1 hB
    have good : okAt ns m = true → ((∃ m' : Nat, w64 ((m : Int) + 1) = m' ∧ m' ≤ ns.length ∧ (∀ j, j < m' → okAt ns j = true) ∧ Below w.heap.size w w1) ∧ ((ns.length : Int) - w64 ((m : Int) + 1)).toNat < ((ns.length : Int) - (m : Int)).toNat) :=
      fun h => ⟨⟨m + 1, e1, hlt, fun j hj => by
        rcases Nat.lt_succ_iff_lt_or_eq.1 hj with h' | h'
        · exact hok j h'
        · rw [h']; exact h, hB⟩, by rw [e1]; omega⟩
    refine ⟨a, ha, by omega, by omega, tx ns[m].1, by simpa using hc1, ValidName_spec (hl _ (List.getElem_mem _)) ⟨fun hnv => bad (by rw [hat]; simp at hnv; simp [hnv]), fun hvd => ?_⟩⟩
    have hvd : validN ns[m].1 = true := by simpa using hvd
    refine ⟨a, ha, by omega, by omega, ns[m].2, by simpa using hc2, fun h1 => bad (by rw [hat]; have := of_decide_eq_true h1; have h2 : ¬ 1 ≤ ns[m].2 := (by omega); simp [h2]), fun h1 => ⟨a, ha, by omega, by omega, ns[m].2, by simpa using hc2, fun h2 => bad (by rw [hat]; have := of_decide_eq_true h2; have h2 : ¬ ns[m].2 < 2000 := (by omega); simp [h2]), fun h2 => ?_⟩⟩
    have h1 : 1 ≤ ns[m].2 := by have := of_decide_eq_false h1; omega
    have h2 : ns[m].2 < 2000 := by have := of_decide_eq_false h2; omega
    refine ⟨fun h3 => ?_, fun h3 => ?_⟩
    · have h3 : 0 < m := by have := of_decide_eq_true h3; omega
      have e2 : w64 ((m : Int) - 1) = ((m - 1 : Nat) : Int) := by rw [w64_id (by omega) (by omega)]; omega
      have hlt' : m - 1 < ns.length := by omega
      obtain ⟨a', ha', hc1', hc2'⟩ := (hN.below hB).2 (m - 1) ns[m - 1] (by simp [hlt'])
      refine ⟨a', ha', by rw [e2]; omega, by rw [e2]; omega, tx ns[m - 1].1, by rw [e2]; simpa using hc1', a, ha, by omega, by omega, tx ns[m].1, by simpa using hc1, ?_⟩
      rw [tx_lt]
      have hg : ns.getD (m - 1) ([], 0) = ns[m - 1] := by simp [hlt']
      rw [hg, ord_same] at hat
      refine ⟨fun h4 => bad (by rw [hat]; simp at h4; simp [h4]; omega), fun h4 => good (by rw [hat]; simp at h4; simp [hvd, h1, h2, h4])⟩
    · have h3 : m = 0 := by have := of_decide_eq_false h3; omega
      have h3' : decide (m = 0) = true := by simp [h3]
      exact good (by rw [hat, hvd, h3']; simp [h1, h2])
  · have hge : ns.length ≤ m := by have := of_decide_eq_false hge; omega
    have hmm : m = ns.length := by omega
    subst hmm
    have hall : (List.range ns.length).all (okAt ns) = true := List.all_eq_true.2 fun j hj => hok j (List.mem_range.1 hj)
    refine ⟨fun h40 => ?_, fun h40 => ?_⟩
    · have h40 : 40 < ns.length := by have := of_decide_eq_true h40; omega
      have e2 : layNames ns = ([], 2) := by unfold layNames; rw [if_pos hall, if_pos h40]
      rw [e2] at hR
      exact hR w0 hB0
    have h40 : ns.length ≤ 40 := by have := of_decide_eq_false h40; omega
    have e2 : layNames ns = (leBytes 1 ns.length ++ ns.flatMap name1, 0) := by unfold layNames; rw [if_pos hall, if_neg (by omega)]
    rw [e2] at hR
    have hlenI : ((sl.len : Nat) : Int) = (ns.length : Int) := by rw [hlen]
    simp only [hlenI]
    rw [wr64_id (by omega) (by omega)]
    refine Low_spec (v := ns.length) (by omega) (by decide) fun w3 hB3 => ?_
    have hB03 := hB0.trans (hB3.mono hB0.size)
    refine ⟨fun s i w' => ∃ m : Nat, i = m ∧ m ≤ ns.length ∧ s = tx (leBytes 1 ns.length ++ (ns.take m).flatMap name1) ∧ (leBytes 1 ns.length ++ (ns.take m).flatMap name1).length ≤ 1 + 15 * m ∧ Below w.heap.size w w', fun _ i _ => (ns.length - i).toNat,
      ⟨0, rfl, Nat.zero_le _, by simp, by simp [leBytes_len], hB03⟩, ?_⟩
    rintro s i w4 ⟨m, rfl, hm', rfl, hL, hB4⟩
    refine ⟨fun hlt => ?_, fun hge => ?_⟩
    · have hlt : m < ns.length := by have := of_decide_eq_true hlt; omega
      have e1 : w64 ((m : Int) + 1) = ((m + 1 : Nat) : Int) := by rw [w64_id (by omega) (by omega)]; omega
      have hB5 : Below w.heap.size w w4.drew := hB4.drew
      generalize w4.drew = w5 at hB5 ⊢
      obtain ⟨a, ha, hc1, hc2⟩ := (hN.below hB5).2 m ns[m] (by simp [hlt])
      have hat := hok m hlt
      have hat2 : ns[m]? = some ns[m] := by simp [hlt]
      unfold okAt at hat
      rw [hat2] at hat
      simp only [Bool.and_eq_true, decide_eq_true_eq, validN] at hat
      obtain ⟨⟨hv1, hv2, _⟩, hp1, hp2, _⟩ := hat
      obtain ⟨P, hP⟩ : ∃ P : Nat, ns[m].2 = P := ⟨ns[m].2.toNat, by omega⟩
      refine ⟨a, ha, by omega, by omega, tx ns[m].1, by simpa using hc1, a, ha, by omega, by omega, tx ns[m].1, by simpa using hc1, a, ha, by omega, by omega, ns[m].2, by simpa using hc2, ?_⟩
      rw [tx_size, wr64_id (by omega) (by omega), wr64_id (x := ns[m].2) (by omega) (by omega)]
      refine Low_spec (v := ns[m].1.length) (by omega) (by decide) fun w6 hB6 => ?_
      have hB06 := hB5.trans (hB6.mono hB5.size)
      obtain ⟨a6, ha6, hd1, hd2⟩ := (hN.below hB06).2 m ns[m] (by simp [hlt])
      rw [ha] at ha6
      injection ha6 with ha6
      subst ha6
      have hsz := hL
      refine ⟨by simpa using hd2, by simpa using hd1, by simpa using hd1, by simp only [tx_size, leBytes_len]; omega, by rw [tx_app]; simp only [tx_size, List.length_append, leBytes_len] at hsz ⊢; omega, ?_⟩
      rw [hP]
      refine Low_spec (v := P) (by omega) (by decide) fun w7 hB7 => ?_
      have hB07 := hB06.trans (hB7.mono hB06.size)
      obtain ⟨a7, ha7, hx1, hx2⟩ := (hN.below hB07).2 m ns[m] (by simp [hlt])
      rw [ha] at ha7
      injection ha7 with ha7
      subst ha7
      rw [hP] at hx2
      have hbs : leBytes 1 ns.length ++ (ns.take m).flatMap name1 ++ leBytes 1 ns[m].1.length ++ ns[m].1 ++ leBytes 2 ns[m].2 = leBytes 1 ns.length ++ (ns.take (m + 1)).flatMap name1 := by
        rw [List.take_succ_eq_append_getElem hlt, List.flatMap_append, List.flatMap_cons, List.flatMap_nil, List.append_nil]
        simp only [name1, List.append_assoc]
      rw [hP] at hbs
      refine ⟨by simpa using hx2, by simpa using hx1, by simpa using hx1, ?_, ⟨m + 1, e1, hlt, ?_, ?_, hB07⟩, ?_⟩
      · rw [tx_app, tx_app]; simp only [tx_size, List.length_append, leBytes_len] at hsz ⊢; omega
      · rw [tx_app, tx_app, tx_app, hbs]
      · rw [← hbs]; simp only [List.length_append, leBytes_len] at hsz ⊢; omega
      · show ((ns.length : Int) - w64 ((m : Int) + 1)).toNat < ((ns.length : Int) - (m : Int)).toNat
        rw [e1]; omega
    · have hge : ns.length ≤ m := by have := of_decide_eq_false hge; omega
      have : m = ns.length := by omega
      subst this
      rw [List.take_length]
      exact hR w4 hB4

end Go.Proofs.YtepclihkniaieaaDoor
