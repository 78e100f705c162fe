/- masonrylaw21.TableSets: what it computes. -/
import Derived.Test.YtepclihkniaieaaDoorSu
set_option linter.unusedVariables false
namespace Go.Proofs.YtepclihkniaieaaDoor
open Go Go.Vc Go.RowKit Go.Lib

theorem Own.isNil {w : World} {t : TypeId} {size : Nat} {l : Sl} {xs : List Value} (h : Own w t size l xs) (ha : l.a = none) : l = ⟨none, 0, 0⟩ ∧ xs = [] := by
  rcases h.2 with ⟨h2, h0⟩ | ⟨g, cap, cur, hv, _⟩
  · simp only [Value.slice.injEq] at h2
    refine ⟨by cases l; simp_all, List.eq_nil_of_length_eq_zero (by have := h.1; rw [h0] at this; simpa using this)⟩
  · simp only [Value.slice.injEq] at hv
    rw [ha] at hv; cases hv.1

/-- a copy by append to nil -/
theorem copy_names {w : World} {l : Sl} {M : List Nm} (hO : Own w T.y_table_Name 2 l (nameCells M)) (hb : M.length ≤ 1000000000) {R : Sl → World → Prop}
    (hR : ∀ l' w', Own w' T.y_table_Name 2 l' (nameCells M) → (∀ k, l'.bk k → w.heap.size ≤ k) → Fr no w w' → R l' w') :
    RunT Pg (Builtin.append_ #[T.y_sl_table_Name, T.y_sl_table_Name] T.y_sl_table_Name #[.slice none 0 0, .slice l.a l.len l.cap]) [.one .slice] w R := by
  obtain ⟨i, hi, hz, hs1, hby⟩ := info_name
  cases ha : l.a with
  | none =>
    obtain ⟨h1, h2⟩ := Own.isNil hO ha
    rw [h1]
    have hr := run_append_owned_none (P := Pg) w 0 T.y_sl_table_Name T.y_sl_table_Name T.y_table_Name i 2 und_names hi (.slice none 0 0) 0 [] (World.ownsRow_nil w 0 _ _)
    refine runT_slice (l := ⟨none, 0, 0⟩) hr (hR _ w (by rw [h2]; exact Own.nil _ _ _) (fun k hk => by obtain ⟨a, ha, _⟩ := hk; cases ha) (Fr.refl _ _))
  | some a =>
    have hlen := hO.len
    rw [nameCells_len] at hlen
    refine runT_append (l := ⟨none, 0, 0⟩) und_names hi hz hs1 hby rfl (by decide) (Own.nil w _ _) (m := l.len) (news := nameCells M) (by rw [nameCells_len]; omega) ((Own.names hO).cell ha) (nameCells_one M) (by simp only [maxLen]; omega) (by show (0 + l.len) * 24 ≤ _; omega) fun l2 w2 ho hl hf hm => ?_
    have hnb : ∀ k, ¬ (⟨none, 0, 0⟩ : Sl).bk k := fun k hk => by obtain ⟨a, ha, _⟩ := hk; cases ha
    refine hR l2 w2 (by simpa using ho) (fun k hk => ?_) (hf.mono (fun k _ hk => hnb k hk))
    rcases moved_bk hm hk with h | h
    · exact absurd h (hnb k)
    · exact h

/-- what holds of the names that were set so far -/
structure SetSo (ns : List Nm) (m : Nat) (M : List Nm) : Prop where
  sorted : Sorted M
  len : M.length ≤ m
  short : ∀ e ∈ M, e.1.length ≤ 2000
  key : ∀ j e, j < m → ns[j]? = some e → ∃ x ∈ M, x.1 = e.1
  last : ∀ j e, j < m → ns[j]? = some e → (∀ k y, j < k → k < m → ns[k]? = some y → y.1 ≠ e.1) → e ∈ M

theorem SetSo.next {ns M : List Nm} {m : Nat} (h : SetSo ns m M) (hm : m < ns.length) (hs : ns[m].1.length ≤ 2000) {k : Nat} (hk : Found (nameP M ns[m].1) M.length k) : SetSo ns (m + 1) (setAt M ns[m] k) where
  sorted := setAt_sorted h.sorted hk
  len := Nat.le_trans (setAt_len hk.1) (by have := h.len; omega)
  short := fun e he => by
    rcases setAt_from he with rfl | he
    · exact hs
    · exact h.short e he
  key := fun j e hj he => by
    by_cases hje : e.1 = ns[m].1
    · exact ⟨ns[m], setAt_mem hk.1, hje.symm⟩
    · have hjm : j < m := by
        rcases Nat.lt_succ_iff_lt_or_eq.1 hj with h' | h'
        · exact h'
        · subst h'
          have : ns[j]? = some ns[j] := by simp [hm]
          rw [this] at he; exact absurd (by rw [Option.some.inj he]) hje
      obtain ⟨x, hx, hxe⟩ := h.key j e hjm he
      exact ⟨x, setAt_keep hx (by rw [hxe]; exact hje), hxe⟩
  last := fun j e hj he hl => by
    rcases Nat.lt_succ_iff_lt_or_eq.1 hj with h' | h'
    · have hne := hl m ns[m] h' (by omega) (by simp [hm])
      exact setAt_keep (h.last j e h' he (fun k y h1 h2 h3 => hl k y h1 (by omega) h3)) (fun hh => hne hh.symm)
    · subst h'
      have : ns[j]? = some ns[j] := by simp [hm]
      rw [this] at he
      rw [← Option.some.inj he]
      exact setAt_mem hk.1

theorem tableSets_spec {w : World} {sl : Sl} {ns : List Nm} (hN : Names w sl ns) {ct : List UInt8} {R : Bool → World → Prop} (hR : ∀ w', Below w.heap.size w w' → R true w') : F.masonrylaw21_TableSets sl (tx ct) w R := by
  apply E.masonrylaw21_TableSets
  unfold V.masonrylaw21_TableSets
  have al : ∀ {w'}, Below w.heap.size w w' → F.masonrylaw21_alive w' (fun b w'' => R b w'') := fun hB => alive_spec fun w'' h => hR w'' (hB.trans (h.mono hB.size))
  refine Light_spec hN fun b w1 hlt hB1 => ⟨fun _ => al hB1, fun hb => ?_⟩
  have hb : b = true := by simpa using hb
  obtain ⟨h60, h2000⟩ := hlt hb
  refine ⟨fun _ => al hB1, fun hct => ?_⟩
  refine alive_spec fun w2 hB2 => ⟨fun h => by simp at h, fun _ => ?_⟩
  have hB02 := hB1.trans (hB2.mono hB1.size)
  have hlen := hN.1
  refine ⟨fun m1 i w' => ∃ (m : Nat) (M : List Nm), i = m ∧ m ≤ ns.length ∧ SetSo ns m M ∧ Own w' T.y_table_Name 2 m1 (nameCells M) ∧ (∀ k, m1.bk k → w.heap.size ≤ k) ∧ Below w.heap.size w w', fun _ i _ => (ns.length - i).toNat,
    ⟨0, [], rfl, Nat.zero_le _, ⟨List.Pairwise.nil, Nat.le_refl _, fun _ h => (List.not_mem_nil h).elim, fun j _ h => absurd h (Nat.not_lt_zero _), fun j _ h => absurd h (Nat.not_lt_zero _)⟩, Own.nil _ _ _, fun k hk => (by obtain ⟨a, ha, _⟩ := hk; cases ha), hB02⟩, ?_⟩
  rintro m1 i w5 ⟨m, M, rfl, hm, hS, hO, hbk, hB⟩
  have hML := hS.len
  refine ⟨fun hlt => ?_, fun hge => ?_⟩
  · have hlt : m < ns.length := by have := of_decide_eq_true hlt; omega
    have e1 : w64 ((m : Int) + 1) = ((m + 1 : Nat) : Int) := by rw [w64_id (by omega) (by omega)]; omega
    refine copy_names hO (by omega) fun l1 w6 hO1 hbk1 hF6 => ?_
    have hB6 := hB.trans ((below_fr hF6).mono hB.size)
    have hM6 := hO.keep hF6 (fun _ _ => id)
    obtain ⟨a, ha, hc1, hc2⟩ := (hN.below hB6).2 m ns[m] (by simp [hlt])
    refine ⟨a, ha, by omega, by omega, tx ns[m].1, by simpa using hc1, ns[m].2, by simpa using hc2, ?_⟩
    refine Set_spec (Own.names hM6) (by omega) fun k l2 w7 hk hO2 hbk2 hB7 => ?_
    have hB07 := hB6.trans (hB7.mono hB6.size)
    have hF7 := fr_below hB7
    refine plain_spec (Own.names (hO1.keep hF7 (fun _ _ => id))) (by omega) fun l3 w8 hO3 hbk3 hB8 => ?_
    have hF8 := fr_below hB8
    have hB08 := hB07.trans (hB8.mono hB07.size)
    refine same_spec (Own.names ((hM6.keep hF7 (fun _ _ => id)).keep hF8 (fun _ _ => id))) (Own.names' hO3) (by omega) fun w9 hB9 => ?_
    have hB09 := hB08.trans (hB9.mono hB08.size)
    have hO29 := (hO2.keep hF8 (fun _ _ => id)).keep (fr_below hB9) (fun _ _ => id)
    refine ⟨fun h => by simp at h, fun _ => ?_⟩
    obtain ⟨a', ha', hd1, hd2⟩ := (hN.below hB09).2 m ns[m] (by simp [hlt])
    have hS' := hS.next hlt (h2000 _ (List.getElem_mem _)) hk
    have hmem := setAt_mem (n := ns[m]) hk.1
    refine ⟨a', ha', by omega, by omega, tx ns[m].1, by simpa using hd1, ?_⟩
    refine Find_spec (Own.names hO29) (by have := hS'.len; omega) fun k2 w10 hk2 hB10 => ?_
    have hfm := found_mem hS'.sorted hk2 hmem rfl
    have hB010 := hB09.trans (hB10.mono hB09.size)
    intro w11
    have hB011 : Below w.heap.size w w11 := hB010.drew
    have hO11 : Own w11 T.y_table_Name 2 l2 (nameCells (setAt M ns[m] k)) := (hO29.keep (fr_below hB10) (fun _ _ => id)).keep (Fr.drew no _) (fun _ _ => id)
    clear_value w11
    have hl2 := (Own.names hO11).1
    refine ⟨fun h => ?_, fun _ => ⟨fun h => ?_, fun _ => ?_⟩⟩
    · exfalso
      have : decide (k2 < (setAt M ns[m] k).length ∧ ((setAt M ns[m] k).getD k2 ([], 0)).1 = ns[m].1) = true := decide_eq_true ⟨hfm.1, by rw [List.getD_eq_getElem?_getD, hfm.2]; rfl⟩
      rw [this] at h; cases h
    · exfalso; have := of_decide_eq_true h; have := hfm.1; omega
    obtain ⟨b, hb', hx1, hx2⟩ := (Own.names hO11).2 k2 ns[m] hfm.2
    obtain ⟨a2, ha2, hy1, hy2⟩ := (hN.below hB011).2 m ns[m] (by simp [hlt])
    refine ⟨b, hb', by omega, by have := hfm.1; omega, tx ns[m].1, by simpa using hx1, ns[m].2, by simpa using hx2, a2, ha2, by omega, by omega, tx ns[m].1, by simpa using hy1, ns[m].2, by simpa using hy2, fun h => ?_, fun _ => ?_⟩
    · exfalso; rw [tx_eq] at h; simp at h
    · refine ⟨⟨m + 1, _, e1, hlt, hS', hO11, fun x hx => by have := hbk2 x hx; have := hB6.size; omega, hB011⟩, ?_⟩
      show ((ns.length : Int) - w64 ((m : Int) + 1)).toNat < ((ns.length : Int) - (m : Int)).toNat
      rw [e1]; omega
  · have hge : ns.length ≤ m := by have := of_decide_eq_false hge; omega
    have : m = ns.length := by omega
    subst this
    have hMl : m1.len = M.length := (Own.names hO).1
    have keep : ∀ {x y : World}, (Below w.heap.size w x ∧ Own x T.y_table_Name 2 m1 (nameCells M)) → Fr no x y → (Below w.heap.size w y ∧ Own y T.y_table_Name 2 m1 (nameCells M)) := fun h hf => ⟨h.1.trans ((below_fr hf).mono h.1.size), h.2.keep hf (fun _ _ => id)⟩
    refine ⟨fun i1 w' => ∃ a : Nat, i1 = a ∧ 1 ≤ a ∧ (Below w.heap.size w w' ∧ Own w' T.y_table_Name 2 m1 (nameCells M)), fun i1 _ => (M.length - i1).toNat, ⟨1, rfl, Nat.le_refl _, hB, hO⟩, ?_⟩
    rintro i1 w12 ⟨a, rfl, ha1, hI⟩
    refine ⟨fun hlt => ?_, fun _ => ?_⟩
    · have hlt : a < M.length := by have := of_decide_eq_true hlt; omega
      have e1 : w64 ((a : Int) + 1) = ((a + 1 : Nat) : Int) := by rw [w64_id (by omega) (by omega)]; omega
      have e2 : w64 ((a : Int) - 1) = ((a - 1 : Nat) : Int) := by rw [w64_id (by omega) (by omega)]; omega
      intro w13
      have hI3 := keep hI (Fr.drew no w12)
      have hI3 : Below w.heap.size w w13 ∧ Own w13 T.y_table_Name 2 m1 (nameCells M) := hI3
      clear_value w13
      obtain ⟨ad, had, hc1, _⟩ := (Own.names hI3.2).2 (a - 1) M[a - 1] (by simp)
      obtain ⟨ad2, had2, hd1, _⟩ := (Own.names hI3.2).2 a M[a] (by simp [hlt])
      refine ⟨ad, had, by rw [e2]; omega, by rw [e2]; omega, tx M[a - 1].1, by rw [e2]; simpa using hc1, ad2, had2, by omega, by omega, tx M[a].1, by simpa using hd1, ?_⟩
      rw [tx_lt, less_lt]
      have hord := hS.sorted.at (i := a - 1) (j := a) (by omega) hlt
      refine ⟨fun h => by exfalso; simp [hord] at h, fun _ => ⟨⟨a + 1, e1, by omega, hI3⟩, ?_⟩⟩
      show ((M.length : Int) - w64 ((a : Int) + 1)).toNat < ((M.length : Int) - (a : Int)).toNat
      rw [e1]; omega
    refine ⟨fun i2 w' => ∃ a : Nat, i2 = a ∧ a ≤ ns.length ∧ (Below w.heap.size w w' ∧ Own w' T.y_table_Name 2 m1 (nameCells M)), fun i2 _ => (ns.length - i2).toNat, ⟨0, rfl, Nat.zero_le _, hI⟩, ?_⟩
    rintro i2 w14 ⟨c, rfl, hc, hI4⟩
    refine ⟨fun hlt => ?_, fun _ => ?_⟩
    · have hlt : c < ns.length := by have := of_decide_eq_true hlt; omega
      have e1 : w64 ((c : Int) + 1) = ((c + 1 : Nat) : Int) := by rw [w64_id (by omega) (by omega)]; omega
      have hcs : ns[c]? = some ns[c] := by simp [hlt]
      refine ⟨fun last k w' => ∃ kk : Nat, k = kk ∧ kk ≤ ns.length ∧ (last = true → ∀ j y, c < j → j < kk → ns[j]? = some y → y.1 ≠ ns[c].1) ∧ (Below w.heap.size w w' ∧ Own w' T.y_table_Name 2 m1 (nameCells M)), fun _ k _ => (ns.length - k).toNat,
        ⟨c + 1, e1, hlt, fun _ j y h1 h2 => by omega, hI4⟩, ?_⟩
      rintro last k w15 ⟨kk, rfl, hkk, hlast, hI5⟩
      refine ⟨fun hk => ?_, fun hk => ?_⟩
      · have hk : kk < ns.length := by have := of_decide_eq_true hk; omega
        have e3 : w64 ((kk : Int) + 1) = ((kk + 1 : Nat) : Int) := by rw [w64_id (by omega) (by omega)]; omega
        have hks : ns[kk]? = some ns[kk] := by simp [hk]
        intro w16
        have hI6 : Below w.heap.size w w16 ∧ Own w16 T.y_table_Name 2 m1 (nameCells M) := keep hI5 (Fr.drew no w15)
        clear_value w16
        have meas : ((ns.length : Int) - w64 ((kk : Int) + 1)).toNat < ((ns.length : Int) - (kk : Int)).toNat := by rw [e3]; omega
        refine ⟨fun hl => ?_, fun hl => ⟨⟨kk + 1, e3, hk, fun h => (by cases h), hI6⟩, meas⟩⟩
        obtain ⟨ad, had, hc1, _⟩ := (hN.below hI6.1).2 kk ns[kk] hks
        obtain ⟨ad2, had2, hd1, _⟩ := (hN.below hI6.1).2 c ns[c] hcs
        refine ⟨ad, had, by omega, by omega, tx ns[kk].1, by simpa using hc1, ad2, had2, by omega, by omega, tx ns[c].1, by simpa using hd1, ⟨kk + 1, e3, hk, fun hne j y h1 h2 h3 => ?_, hI6⟩, meas⟩
        rw [tx_eq] at hne
        rcases Nat.lt_succ_iff_lt_or_eq.1 h2 with h' | h'
        · exact hlast hl j y h1 h' h3
        · subst h'
          rw [hks] at h3
          rw [← Option.some.inj h3]
          simpa using hne
      · have hk : kk = ns.length := by have := of_decide_eq_false hk; omega
        subst hk
        obtain ⟨ad2, had2, hd1, _⟩ := (hN.below hI5.1).2 c ns[c] hcs
        refine ⟨ad2, had2, by omega, by omega, tx ns[c].1, by simpa using hd1, ?_⟩
        refine Find_spec (Own.names hI5.2) (by omega) fun k2 w17 hk2 hB17 => ?_
        obtain ⟨e, heM, hee⟩ := hS.key c ns[c] hlt hcs
        have hfm := found_mem hS.sorted hk2 heM hee
        intro w18
        have hI8 : Below w.heap.size w w18 ∧ Own w18 T.y_table_Name 2 m1 (nameCells M) := keep (keep hI5 (fr_below hB17)) (Fr.drew no w17)
        clear_value w18
        have hgd : (M.getD k2 ([], 0)).1 = ns[c].1 := by rw [List.getD_eq_getElem?_getD, hfm.2]; exact hee
        have fin : ((∃ m' : Nat, w64 ((c : Int) + 1) = m' ∧ m' ≤ ns.length ∧ (Below w.heap.size w w18 ∧ Own w18 T.y_table_Name 2 m1 (nameCells M))) ∧ ((ns.length : Int) - w64 ((c : Int) + 1)).toNat < ((ns.length : Int) - (c : Int)).toNat) := ⟨⟨c + 1, e1, hlt, hI8⟩, by rw [e1]; omega⟩
        refine ⟨fun h => ?_, fun _ => ⟨fun hl => ⟨fun h => ?_, fun _ => ?_⟩, fun _ => fin⟩⟩
        · exfalso
          rw [decide_eq_true (show k2 < M.length ∧ (M.getD k2 ([], 0)).1 = ns[c].1 from ⟨hfm.1, hgd⟩)] at h
          cases h
        · exfalso; have := of_decide_eq_true h; have := hfm.1; omega
        have hin := hS.last c ns[c] hlt hcs (fun j y h1 h2 h3 => hlast hl j y h1 h2 h3)
        have hfm2 := found_mem hS.sorted hk2 hin rfl
        obtain ⟨b, hb', hx1, hx2⟩ := (Own.names hI8.2).2 k2 ns[c] hfm2.2
        obtain ⟨b2, hb2', hy1, hy2⟩ := (hN.below hI8.1).2 c ns[c] hcs
        refine ⟨b, hb', by omega, by have := hfm.1; omega, tx ns[c].1, by simpa using hx1, ns[c].2, by simpa using hx2, b2, hb2', by omega, by omega, tx ns[c].1, by simpa using hy1, ns[c].2, by simpa using hy2, fun h => ?_, fun _ => fin⟩
        exfalso; rw [tx_eq] at h; simp at h
    · intro w19
      have h19 : w19.heap[w14.heap.size]? = some (.cells ⟨[.string (tx ct)]⟩ T.y_string (0, 0)) := heap_new w14 _
      have hI9 : Below w.heap.size w w19 ∧ Own w19 T.y_table_Name 2 m1 (nameCells M) := keep hI4 (Fr.alloc no w14 _)
      have hs19 : w19.heap.size = w14.heap.size + 1 := by simp [w19]
      clear_value w19
      have hT : Texts w19 ⟨some (blk w14.heap.size), 1, 1⟩ [ct] := ⟨rfl, fun j t hj => by
        have : j = 0 := by
          rcases j with _ | j
          · rfl
          · simp at hj
        subst this
        simp only [List.getElem?_cons_zero, Option.some.injEq] at hj
        subst hj
        exact ⟨blk w14.heap.size, rfl, by rw [blk_cell h19]; rfl⟩⟩
      have hbl : ∀ e ∈ M, e.1.length ≤ 1000000000000000000 := fun e he => by have := hS.short e he; omega
      refine Cut_spec (Own.names hI9.2) hT (fun k hk => by obtain ⟨x, hx, hxb⟩ := hk; injection hx with hx; subst hx; have h5 : w14.heap.size = k := hxb; omega) (by omega) hbl (by simp) fun l4 w20 hO4 hbk4 hB20 => ?_
      have hI20 := keep hI9 (fr_below hB20)
      have hX : ∀ e ∈ (M.filter fun n => ![ct].contains n.1), e.1 ≠ ct := fun e he hh => by
        have := (List.mem_filter.1 he).2
        rw [hh] at this
        simp at this
      have hfl : (M.filter fun n => ![ct].contains n.1).length ≤ M.length := List.length_filter_le _ _
      generalize (M.filter fun n => ![ct].contains n.1) = X at hO4 hX hfl
      have hl4 := (Own.names hO4).1
      refine Find_spec (Own.names hO4) (by omega) fun k4 w21 hk4 hB21 => ?_
      have hI21 := keep hI20 (fr_below hB21)
      have hno : decide (k4 < X.length ∧ (X.getD k4 ([], 0)).1 = ct) = false := by
        refine decide_eq_false fun ⟨h1, h2⟩ => ?_
        have h5 : (X.getD k4 ([], 0)) = X[k4] := by simp [h1]
        rw [h5] at h2
        exact hX _ (List.getElem_mem h1) h2
      rw [hno]
      refine ⟨fun _ => ⟨fun _ => ?_, fun h => ?_⟩, fun h => by simp at h⟩
      · refine Cut_spec (ts := []) (Own.names hI21.2) ⟨rfl, fun j t h => by simp at h⟩ (fun k hk => by obtain ⟨x, hx, _⟩ := hk; cases hx) (by omega) hbl (by decide) fun l5 w22 hO5 hbk5 hB22 => ?_
        have hl5 := (Own.names hO5).1
        have he : (((l5.len : Nat) : Int) == ((m1.len : Nat) : Int)) = true := by
          have : (M.filter fun e => !([] : List (List UInt8)).contains e.1) = M := List.filter_eq_self.2 (fun _ _ => rfl)
          rw [this] at hl5
          rw [hl5, hMl]; simp
        rw [he]
        exact hR w22 (hI21.1.trans (hB22.mono hI21.1.size))
      · exfalso; have := of_decide_eq_false h; omega

end Go.Proofs.YtepclihkniaieaaDoor
