/- ChainRings: the walk. -/
import Derived.Test.YtepclihkniaieaaGreatDoorCq
set_option linter.unusedVariables false
namespace Go.Proofs.YtepclihkniaieaaGreatDoor
open Go Go.Vc Go.RowKit Go.Lib

theorem tmod_nat {x : Int} (h : 0 ≤ x) {n : Nat} (hn : 0 < n) : ∃ i : Nat, x.tmod (n : Int) = i ∧ i < n := by
  obtain ⟨m, rfl⟩ : ∃ m : Nat, x = m := ⟨x.toNat, by omega⟩
  exact ⟨m % n, (Int.ofNat_tmod m n).symm, Nat.mod_lt _ hn⟩

/-- another number in its place: no step -/
theorem step_num {xs : List Lk} {x : Lk} (h : x.number ≠ xs.length) : lkStep xs x = false := by simp [lkStep, h]

theorem ChainRings_spec {w : World} {n from_ to_ : Int} {R : Bool → World → Prop} (hR : ∀ w', Below w.heap.size w w' → R true w') : F.masonrylaw12_ChainRings n from_ to_ w R := by
  apply E.masonrylaw12_ChainRings
  unfold V.masonrylaw12_ChainRings
  try simp (config := { zeta := false }) only [cnd_all]
  have h0 := St.start w
  have hR' : ∀ w', St w' [Old w] → R true w' := fun w' h => hR w' h.old
  clear hR
  refine ⟨fun b w' => St w' [Old w] ∧ (b = false → 300 ≤ n ∧ n ≤ 2000 ∧ 0 ≤ from_ ∧ 0 ≤ to_), ⟨fun h => ⟨h0, fun h => (by cases h)⟩, fun h1 => ⟨fun h => ⟨h0, fun h => (by cases h)⟩, fun h2 => ⟨fun h => ⟨h0, fun h => (by cases h)⟩, fun h3 => ⟨fun h => ⟨h0, fun h => (by cases h)⟩, fun h4 => alive12_spec h0 fun w1 hw => ⟨hw, fun _ => by omega⟩⟩⟩⟩⟩, ?_⟩
  rintro b w1 ⟨h1, hb⟩
  refine ⟨fun _ => alive12_spec h1 hR', fun h => ?_⟩
  obtain ⟨g1, g2, g3, g4⟩ := hb h
  clear hb h h0
  obtain ⟨N, rfl⟩ : ∃ N : Nat, n = N := ⟨n.toNat, by omega⟩
  have hf : freeN (fmt0 250).bs = 137 := by rw [fmt0_bs, freeN_bs0 (by decide)]
  refine Fresh_st h1 (n := 250) (by decide) (by decide) fun k g w2 h2 => ⟨fun h => (by cases h), fun _ => zeros_st h2 (n := N) (by omega) fun w3 h3 => ?_⟩
  have hlen : (List.replicate N (0 : UInt8)).length = N := List.length_replicate
  generalize List.replicate N (0 : UInt8) = b at *
  have hnn : needN b.length ≤ 9 ∧ 2 ≤ needN b.length := by unfold needN; split <;> omega
  refine Put_chain h3 (by decide) (by decide) (by omega) (by decide) (fun w4 hlf _ => by omega) fun w4 hle h4 => ?_
  have hhas := put_has (gen := 1) (tag := 9) hle
  have hchn := putS_chn (D := fmt0 250) (gen := 1) (tag := 9) (b := b) (by decide) (by decide) (by omega) rfl hle (by rw [fmt0_bs, bs0_len]; decide) (DeskS.ok h3).u0
  have hdat := dataOf_put (D := fmt0 250) (gen := 1) (tag := 9) (b := b) (by omega) (n := needN b.length)
  have hpr := fun i => placeP_range (fmt0 250) (needN b.length) i
  have hused := fun i hi => place_used (D := fmt0 250) (n := needN b.length) (i := i) hi hle
  have hnum : ∀ i, (linkP (fmt0 250) 1 9 b (needN b.length) i).number = (i : Int) := fun i => rfl
  rw [← putS_bs (gen := 1) (tag := 9) (b := b) (n := needN b.length)] at hused
  rw [fmt0_bs, bs0_len] at hpr
  have hu1 := (DeskS.ok h3).u1
  generalize linkP (fmt0 250) 1 9 b (needN b.length) = L at *
  generalize placeP (fmt0 250) (needN b.length) = P at *
  generalize needN b.length = m at *
  generalize (putS (fmt0 250) 1 9 b m m).1 = D at *
  refine Sectors_chn h4 hchn hhas (by have := hpr 0; omega) fun pl w5 h5 => ?_
  have hpl : pl.len = m := by have := (h5.has (by decide)).1; simpa using this
  refine ⟨fun b w' => b = false ∧ St w' (Row EI T.y_int pl ((List.range m).map P) :: DeskS k g (1001 + 40) D :: [Old w]), ⟨fun h => absurd rfl h, fun _ => ⟨fun h => absurd rfl h, fun _ => ⟨decide_eq_false (by omega), h5⟩⟩⟩, ?_⟩
  rintro v w6 ⟨rfl, h6⟩
  refine ⟨fun h => (by cases h), fun _ => ?_⟩
  intro wa1
  replace h6 : St wa1 _ := h6.drew
  clear_value wa1
  obtain ⟨i, hi, hil⟩ := tmod_nat g3 (n := pl.len) (by omega)
  obtain ⟨j, hj, hjl⟩ := tmod_nat g4 (n := pl.len) (by omega)
  rw [hi, hj]
  have hli : i < m := by omega
  have hlj : j < m := by omega
  obtain ⟨ad, had, _, hci⟩ := (h6.has (by decide)).at (j := i) (by simpa using hli)
  have hci := hci 0 (.int .i64 (P i)) (by simp [EI])
  refine ⟨by omega, by omega, ad, had, by omega, by omega, P i, by rw [addr_add0] at hci; exact hci, Get_st h6.sw (by have := hpr i; omega) ?_⟩
  rw [(hhas i hli).1, (hhas i hli).2]
  have hll := layLk_len (hchn.ok i hli)
  obtain ⟨ad', had', _, hcj⟩ := (h6.has (by decide)).at (j := j) (by simpa using hlj)
  have hcj := hcj 0 (.int .i64 (P j)) (by simp [EI])
  have hpj := hpr j
  have hP1 : P j ≠ 1 := fun e => by
    have := (hused j hlj).2
    rw [e] at this
    have h2 : (fmt0 250).bs.getD (1 : Int).toNat false = true := hu1
    rw [h2] at this; cases this
  refine ⟨fun b w' => b = false ∧ St w' (DeskS k g (1001 + 40 + 1) (setD D (P j) (layLk (L i))) :: [Old w]), ⟨fun h => absurd rfl h, fun _ => ⟨fun h => absurd (by rw [tx_size, hll]; rfl) h, fun _ => ⟨ad', had', by omega, by omega, P j, by rw [addr_add0] at hcj; exact hcj, Set_st h6.sw (by decide) (by omega) (fun h => ?_) (fun _ _ h => absurd hll h) fun w7 _ _ _ h7 => ⟨rfl, h7.d2⟩⟩⟩⟩, ?_⟩
  · rcases h with h | h
    · exact absurd h hP1
    · rw [(hused j hlj).1] at h; cases h
  rintro v w7 ⟨rfl, h7⟩
  refine ⟨fun h => (by cases h), fun _ => ?_⟩
  have hset := get_set D (P j) (layLk (L i))
  by_cases hij : i = j
  · subst hij
    have hhas2 : HasC (setD D (P i) (layLk (L i))) L P m := fun t ht => by
      rw [(hset _).1, (hset _).2]
      by_cases he : P t = P i
      · have := hchn.inj t i ht hli he
        subst this
        simp
      · rw [if_neg he, if_neg he]; exact hhas t ht
    refine Get_chn h7 hchn hhas2 (by have := hpr 0; omega) fun w8 h8 => ?_
    intro wa2
    replace h8 : St wa2 (Cs _ _ _ :: _) := h8.new _ _
    clear_value wa2
    refine ⟨h8.wr0 (by simp), ?_⟩
    intro wa3
    replace h8 : St wa3 _ := h8.set0 _
    clear_value wa3
    refine ⟨h8.wr (by simp), ?_⟩
    intro wa4
    replace h8 : St wa4 _ := h8.set 1 _
    clear_value wa4
    refine ⟨h8.wr (by simp), ?_⟩
    intro wa5
    replace h8 : St wa5 _ := h8.set 2 _
    clear_value wa5
    refine ⟨h8.wr (by simp), ?_⟩
    intro wa6
    replace h8 : St wa6 _ := h8.set 3 _
    clear_value wa6
    simp only [List.set_cons_zero, List.set_cons_succ] at h8
    refine ⟨fun _ => ⟨fun _ => ⟨_, h8.cell 3, ?_⟩, fun h => absurd rfl h⟩, fun h => absurd rfl h⟩
    rw [hdat, tx_size, hlen]
    have e : ((N : Int) == (N : Int)) = true := by simp
    rw [e]
    exact hR' _ h8.drop.drop
  · have hwalk : walkD (setD D (P j) (layLk (L i))) (P 0) = ([], [], 25) := by
      refine hchn.bad hlj (fun t ht => ?_) (by rw [(hset _).2, if_pos rfl]) ?_
      · have he : P t ≠ P j := fun he => by have := hchn.inj t j (by omega) hlj he; omega
        rw [(hset _).1, (hset _).2, if_neg he, if_neg he]
        exact hhas t (by omega)
      · rw [(hset _).1, if_pos rfl, readLk_lay (hchn.ok i hli)]
        simp only [Bool.true_and]
        exact step_num (by rw [hnum]; simp; omega)
    refine Get_none h7 (by have := hpr 0; omega) hwalk fun w8 h8 => ?_
    intro wa7
    replace h8 : St wa7 (Cs _ _ _ :: _) := h8.new _ _
    clear_value wa7
    refine ⟨h8.wr0 (by simp), ?_⟩
    intro wa8
    replace h8 : St wa8 _ := h8.set0 _
    clear_value wa8
    refine ⟨h8.wr (by simp), ?_⟩
    intro wa9
    replace h8 : St wa9 _ := h8.set 1 _
    clear_value wa9
    refine ⟨h8.wr (by simp), ?_⟩
    intro wa10
    replace h8 : St wa10 _ := h8.set 2 _
    clear_value wa10
    refine ⟨h8.wr (by simp), ?_⟩
    intro wa11
    replace h8 : St wa11 _ := h8.set 3 _
    clear_value wa11
    simp only [List.set_cons_zero, List.set_cons_succ] at h8
    refine ⟨fun h => by omega, fun _ => ⟨fun _ => ?_, fun h => absurd rfl h⟩⟩
    refine ⟨_, h8.cell0, _, h8.cell 1, _, h8.cell 2, _, h8.cell 3, ?_⟩
    exact hR' _ h8.drop.drop
end Go.Proofs.YtepclihkniaieaaGreatDoor
