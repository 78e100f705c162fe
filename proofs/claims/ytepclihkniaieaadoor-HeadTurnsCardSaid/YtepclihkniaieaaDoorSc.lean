/- slices.DeleteFunc at names; table.Cut. -/
import Derived.Test.YtepclihkniaieaaDoorSt
set_option linter.unusedVariables false
namespace Go.Proofs.YtepclihkniaieaaDoor
open Go Go.Vc Go.RowKit Go.Lib

/-- clear on a stretch of a row that is known whole -/
theorem runT_clear {P : Program} {w : World} {t e ty : TypeId} {i : TypeInfo} {z : Value} (ht : P.underlying t = some (.slice e)) (hi : P.info? e = some i) (hz : i.zero = some z) {size : Nat} (hzs : z.cells.size = size) (h1 : ∀ u ∈ z.cells.toList, u.oneCell' = true)
    {g o n c : Nat} {cur : List Value} {te : TypeId} (hg : w.heap[g]? = some (.cells ⟨cur⟩ te (0, 0))) (hfit : o + n * size ≤ cur.length) {R : World → Prop}
    (hR : ∀ w' cur', w'.heap[g]? = some (.cells ⟨cur'⟩ te (0, 0)) → cur'.length = cur.length → cur'.take o = cur.take o → Fr (· = g) w w' → R w') :
    RunT P (Builtin.clear_ #[t] ty #[.slice (some ⟨g, o, none⟩) n c]) [] w R := by
  rcases Nat.eq_zero_or_pos n with hn | hn
  · subst hn
    exact ⟨w, by simp [Builtin.clear_, run_underlying ht, resV, SV.vs, packs], hR w cur hg rfl rfl (Fr.refl _ _)⟩
  · obtain ⟨n, rfl⟩ : ∃ m, n = m + 1 := ⟨n - 1, by omega⟩
    have hl : (Builtin.zeroCells z.cells (n + 1)).toList.length = (n + 1) * size := by rw [Array.length_toList, size_zeroCells, hzs]
    have hone : ∀ u ∈ (Builtin.zeroCells z.cells (n + 1)).toList, u.oneCell' = true := fun u hu => by
      simp only [Builtin.zeroCells, Array.toList_map, List.mem_map, Array.toList_range, List.mem_range] at hu
      obtain ⟨j, hj, rfl⟩ := hu
      have hpos : 0 < z.cells.size := by
        rcases Nat.eq_zero_or_pos z.cells.size with h' | h'
        · rw [h'] at hj; simp at hj
        · exact h'
      have hlt := Nat.mod_lt j hpos
      rw [getElem!_pos z.cells (j % z.cells.size) hlt]
      exact h1 _ (by simp)
    have hst := run_storeCells_at P g o te (Builtin.zeroCells z.cells (n + 1)).toList 0 ⟨cur⟩ w hg (by rw [hl]; simpa using hfit) hone
    simp only [Nat.add_zero] at hst
    have hr : (Builtin.clear_ #[t] ty #[.slice (some ⟨g, o, none⟩) (n + 1) c]).run P w = .ok (.tuple #[]) (w.setRow g (cur.take o ++ (Builtin.zeroCells z.cells (n + 1)).toList ++ cur.drop (o + (Builtin.zeroCells z.cells (n + 1)).toList.length)).toArray) := by
      simp [Builtin.clear_, run_underlying ht, zeroValue, typeInfo, hi, hz, hst]
    refine ⟨_, hr, hR _ _ (setRow_heap w g ⟨cur⟩ _ te _ hg) ?_ ?_ ⟨rfl, rfl, rfl, by simp [World.setRow], fun k _ hk => setRow_other w g k _ hk⟩⟩
    · simp only [List.length_append, List.length_take, List.length_drop, hl]; omega
    · rw [List.append_assoc, List.take_append_of_le_length (by rw [List.length_take]; omega), List.take_take, Nat.min_self]

/-- what a test over names owes: it answers, and turns nothing -/
def Tests (f : Nat) (cap : Array Value) (p : List UInt8 × Int → Bool) (I : World → Prop) : Prop :=
  ∀ (n : List UInt8 × Int) (w : World), n.1.length ≤ 1000000000000000000 → I w → ∀ R : Bool → World → Prop, (∀ w', Fr no w w' → R (p n) w') → RetT Pg [.one .bool] f (⟨[] ++ [.agg #[.string (tx n.1), .int .i64 n.2]] ++ cap.toList⟩) w R

theorem IndexFunc_spec {w : World} {s : Sl} {xs : List (List UInt8 × Int)} (hN : Names w s xs) (hb : xs.length ≤ 1000000000) (hbl : ∀ n ∈ xs, n.1.length ≤ 1000000000000000000) {f : Nat} {cap : Array Value} {p : List UInt8 × Int → Bool} {I : World → Prop} (hc : Callable Pg f)
    (hI : I w) (hk : ∀ w1 w2, Fr no w1 w2 → I w1 → I w2) (hp : Tests f cap p I) {R : Int → World → Prop}
    (hR : ∀ w', Fr no w w' → (xs.all (fun n => !p n) = true → R (-1) w') ∧ (∀ m, m < xs.length → (xs.take m).all (fun n => !p n) = true → (∀ n, xs[m]? = some n → p n = true) → R m w')) : F.slices_IndexFunc_sl_table_Name_table_Name s (.func (.func f) #[] cap) w R := by
  apply E.slices_IndexFunc_sl_table_Name_table_Name
  unfold V.slices_IndexFunc_sl_table_Name_table_Name
  have hlen := hN.1
  refine ⟨fun n w' => ∃ m : Nat, n = m ∧ m ≤ xs.length ∧ (xs.take m).all (fun n => !p n) = true ∧ Fr no w w', fun n _ => (xs.length - n).toNat, ⟨0, rfl, Nat.zero_le _, rfl, Fr.refl _ _⟩, ?_⟩
  rintro n w1 ⟨m, rfl, hm, hall, hF⟩
  refine ⟨fun hlt => ?_, fun hge => ?_⟩
  · have hlt : m < xs.length := by have := of_decide_eq_true hlt; omega
    obtain ⟨a, ha, hc1, hc2⟩ := (hN.below (below_fr hF)).2 m xs[m] (by simp [hlt])
    have e1 : w64 ((m : Int) + 1) = ((m + 1 : Nat) : Int) := by rw [w64_id (by omega) (by omega)]; omega
    refine ⟨a, ha, by omega, by omega, tx xs[m].1, by simpa using hc1, xs[m].2, by simpa using hc2, f, #[], cap, rfl, hc, hp xs[m] w1 (hbl _ (List.getElem_mem _)) (hk w w1 hF hI) _ fun w2 hF2 => ?_⟩
    have hF12 := hF.trans hF2 (fun _ _ h => h)
    refine ⟨fun h => ((hR w2 hF12).2 m hlt hall (fun n hn => by
      have : xs[m]? = some xs[m] := by simp [hlt]
      rw [this] at hn; rw [← Option.some.inj hn]; exact h)), fun h => ⟨⟨m + 1, e1, hlt, ?_, hF12⟩, ?_⟩⟩
    · rw [List.take_succ_eq_append_getElem hlt, List.all_append, hall]; simp [h]
    · show ((xs.length : Int) - w64 ((m : Int) + 1)).toNat < ((xs.length : Int) - (m : Int)).toNat
      rw [e1]; omega
  · have hge : xs.length ≤ m := by have := of_decide_eq_false hge; omega
    have : m = xs.length := by omega
    subst this
    rw [List.take_length] at hall
    exact (hR w1 hF).1 hall

theorem filter_all {α : Type} {p : α → Bool} {l : List α} (h : l.all (fun n => !p n) = true) : l.filter (fun n => !p n) = l := List.filter_eq_self.2 (fun a ha => List.all_eq_true.1 h a ha)

theorem DeleteFunc_spec {w : World} {s : Sl} {xs : List (List UInt8 × Int)} (hO : Own w T.y_table_Name 2 s (nameCells xs)) (hb : xs.length ≤ 1000000000) (hbl : ∀ n ∈ xs, n.1.length ≤ 1000000000000000000) {f : Nat} {cap : Array Value} {p : List UInt8 × Int → Bool} {I : World → Prop} (hc : Callable Pg f)
    (hI : I w) (hk : ∀ w1 w2, Fr s.bk w1 w2 → I w1 → I w2) (hp : Tests f cap p I) {R : Sl → World → Prop}
    (hR : ∀ l w', Own w' T.y_table_Name 2 l (nameCells (xs.filter fun n => !p n)) → (∀ k, l.bk k → s.bk k) → Fr s.bk w w' → R l w') : F.slices_DeleteFunc_sl_table_Name_table_Name s (.func (.func f) #[] cap) w R := by
  obtain ⟨inf, hinf, hz, hs1, hby⟩ := info_name
  apply E.slices_DeleteFunc_sl_table_Name_table_Name
  unfold V.slices_DeleteFunc_sl_table_Name_table_Name
  have hN := Own.names hO
  have hlen := hN.1
  refine IndexFunc_spec hN hb hbl hc hI (fun w1 w2 h => hk w1 w2 (h.mono (fun _ _ h => h.elim))) hp fun w1 hF1 => ⟨fun hall => ⟨fun _ => ?_, fun h => by simp at h⟩, fun m hm hall hpm => ⟨fun h => by exfalso; simp at h, fun _ => ?_⟩⟩
  · refine hR s w1 ?_ (fun _ h => h) (hF1.mono (fun _ _ h => h.elim))
    rw [filter_all hall]; exact hO.keep hF1 (fun _ _ => id)
  have em : w64 ((m : Int) + 1) = ((m + 1 : Nat) : Int) := by rw [w64_id (by omega) (by omega)]; omega
  have hO1 := hO.keep hF1 (fun _ _ => id)
  refine ⟨fun i j w' => ∃ (a b : Nat) (cs : List (List UInt8 × Int)), i = a ∧ j = b ∧ a < b ∧ b ≤ xs.length ∧ cs.length = xs.length ∧ cs.take a = (xs.take b).filter (fun n => !p n) ∧ cs.drop b = xs.drop b ∧ Own w' T.y_table_Name 2 s (nameCells cs) ∧ Fr s.bk w w',
    fun _ j _ => (xs.length - j).toNat, ⟨m, m + 1, xs, rfl, em, by omega, hm, rfl, ?_, rfl, hO1, hF1.mono (fun _ _ h => h.elim)⟩, ?_⟩
  · rw [List.take_succ_eq_append_getElem hm, List.filter_append, filter_all hall]
    have := hpm xs[m] (by simp [hm])
    simp [this]
  rintro i j w2 ⟨a, b, cs, rfl, rfl, hab, hbl', hcl, htk, hdr, hO2, hF2⟩
  refine ⟨fun hlt => ?_, fun hge => ?_⟩
  · have hlt : b < xs.length := by have := of_decide_eq_true hlt; omega
    have hbe : cs[b]'(by omega) = xs[b] := by
      have h1 : (cs.drop b)[0]? = (xs.drop b)[0]? := by rw [hdr]
      simp only [List.getElem?_drop, Nat.add_zero] at h1
      rw [List.getElem?_eq_getElem (by omega), List.getElem?_eq_getElem hlt] at h1
      exact Option.some.inj h1
    obtain ⟨ad, had, hc1, hc2⟩ := (Own.names hO2).2 b xs[b] (by rw [← hbe]; simp)
    have e1 : w64 ((b : Int) + 1) = ((b + 1 : Nat) : Int) := by rw [w64_id (by omega) (by omega)]; omega
    have e2 : w64 ((a : Int) + 1) = ((a + 1 : Nat) : Int) := by rw [w64_id (by omega) (by omega)]; omega
    obtain ⟨hw3, hw4, hv, hF5, hs5⟩ := var2 w2 T.y_table_Name (.string sNil) (.int .i64 0) (.string (tx xs[b].1)) (.int .i64 xs[b].2)
    refine ⟨ad, had, by omega, by omega, tx xs[b].1, by simpa using hc1, xs[b].2, by simpa using hc2, hw3, hw4, ?_⟩
    generalize (((w2.alloc (.cells #[.string sNil, .int .i64 0] T.y_table_Name)).setCell (blk w2.heap.size) (.string (tx xs[b].1))).setCell ((blk w2.heap.size).add 1) (.int .i64 xs[b].2)) = w5 at hv hF5 hs5
    have hF25 : Fr s.bk w w5 := hF2.trans (hF5.mono (S' := s.bk) (fun _ _ h => h.elim)) (fun _ _ h => h)
    refine ⟨tx xs[b].1, by rw [blk_cell0 hv]; rfl, xs[b].2, by rw [blk_cell hv]; rfl, f, #[], cap, rfl, hc, hp xs[b] w5 (hbl _ (List.getElem_mem _)) (hk w w5 hF25 hI) _ fun w6 hF6 => ?_⟩
    have hO6 := (hO2.keep hF5 (fun _ _ => id)).keep hF6 (fun _ _ => id)
    have hv6 := hF6.heap hv id
    have hF26 : Fr s.bk w w6 := hF25.trans (hF6.mono (S' := s.bk) (fun _ _ h => h.elim)) (fun _ _ h => h)
    have meas : ((xs.length : Int) - w64 ((b : Int) + 1)).toNat < ((xs.length : Int) - (b : Int)).toNat := by rw [e1]; omega
    have hft : (xs.take (b + 1)).filter (fun n => !p n) = (xs.take b).filter (fun n => !p n) ++ [xs[b]].filter (fun n => !p n) := by rw [List.take_succ_eq_append_getElem hlt, List.filter_append]
    refine ⟨fun hnp => ?_, fun hyp => ?_⟩
    · obtain ⟨q1, q2, q3, q4⟩ := Own.store hO6 (k := a) (by omega) (n := xs[b]) had
      refine ⟨tx xs[b].1, by rw [blk_cell0 hv6]; rfl, xs[b].2, by rw [blk_cell hv6]; rfl, ad, had, by omega, by omega, ?_⟩
      simp only [Int.toNat_natCast]
      refine ⟨q1, q2, ⟨a + 1, b + 1, cs.set a xs[b], e2, e1, by omega, hlt, by rw [List.length_set]; exact hcl, ?_, ?_, q3, hF26.trans q4 (fun _ _ h => h)⟩, meas⟩
      · rw [hft, List.take_succ_eq_append_getElem (by rw [List.length_set]; omega), List.take_set_of_le (Nat.le_refl _), htk]
        simp [hnp]
      · rw [List.drop_set_of_lt (by omega), ← List.drop_drop (i := 1) (j := b) |>.symm.symm]
        have := congrArg (List.drop 1) hdr
        simp only [List.drop_drop] at this
        rw [Nat.add_comm b 1] at *
        simpa [Nat.add_comm] using this
    · refine ⟨⟨a, b + 1, cs, rfl, e1, by omega, hlt, hcl, ?_, ?_, hO6, hF26⟩, meas⟩
      · have hyp : p xs[b] = true := by simpa using hyp
        rw [hft, htk]; simp [hyp]
      · have := congrArg (List.drop 1) hdr
        simp only [List.drop_drop] at this
        simpa [Nat.add_comm] using this
  · have hge : xs.length ≤ b := by have := of_decide_eq_false hge; omega
    have : b = xs.length := by omega
    subst this
    rw [List.take_length] at htk
    obtain ⟨g, cur, ha, hg, hcl2, htk2, hlc, hcm⟩ := Own.row hO2 (by omega)
    have hzs : (Value.agg #[.string sNil, .int .i64 0]).cells.size = 2 := rfl
    refine ⟨by omega, by omega, ?_⟩
    simp only [Int.toNat_natCast, slA0]
    rw [ha, slA_ne (by omega)]
    refine runT_clear und_names hinf hz hzs (fun u hu => by
      have : u ∈ [Value.string sNil, .int .i64 0] := hu
      simp only [List.mem_cons, List.not_mem_nil, or_false] at this
      rcases this with rfl | rfl <;> rfl) hg (by rw [hcl2]; omega) fun w3 cur' hg3 hl3 ht3 hF3 => ?_
    refine ⟨by omega, by omega, hR _ w3 ?_ (fun k hk' => by rw [← ha] at hk'; exact hk') (hF2.trans (hF3.mono (S' := s.bk) (fun k _ h => by
      have h5 : k = g := h
      rw [h5]; exact ⟨blk g, ha, rfl⟩)) (fun _ _ h => h))⟩
    have h6 := Own.of (n := a) (cap := s.cap) hg3 (by rw [hl3, hcl2]) (by omega) hcm
    have h7 : cur'.take (a * 2) = nameCells (xs.filter fun n => !p n) := by
      rw [ht3, ← htk, ← nameCells_take, ← htk2, List.take_take, Nat.min_eq_left (by omega)]
    rw [h7] at h6
    exact h6

end Go.Proofs.YtepclihkniaieaaDoor
