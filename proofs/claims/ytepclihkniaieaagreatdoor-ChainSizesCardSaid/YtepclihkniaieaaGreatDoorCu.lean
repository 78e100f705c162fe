/- ChainSizes: the walk. -/
import Derived.Test.YtepclihkniaieaaGreatDoorCq
set_option linter.unusedVariables false
namespace Go.Proofs.YtepclihkniaieaaGreatDoor
open Go Go.Vc Go.RowKit Go.Lib

theorem giveL_get (bs : List Bool) {i : Nat} (hi : i < bs.length) (zs : List Int) : (giveL bs zs).getD i false = (bs.getD i false && decide ((i : Int) ∉ zs)) := by
  refine snoc_ind (P := fun zs => (giveL bs zs).getD i false = (bs.getD i false && decide ((i : Int) ∉ zs))) (by simp [giveL]) (fun l x ih => ?_) zs
  have hl := giveL_len bs l
  rw [giveL_app]
  by_cases hx : x = (i : Int)
  · have e : decide ((i : Int) ∉ l ++ [x]) = false := by simp [hx]
    rw [e, Bool.and_false]
    split
    · have : x.toNat = i := by omega
      rw [this]; simp [hl, hi]
    · rename_i hu
      simp only [usedB, Bool.and_eq_true, decide_eq_true_eq, not_and, Bool.not_eq_true] at hu
      have := hu (by omega) (by omega)
      have e2 : x.toNat = i := by omega
      rw [e2] at this; exact this
  · have e : decide ((i : Int) ∉ l ++ [x]) = decide ((i : Int) ∉ l) := by
      have : ¬ (i : Int) = x := fun h => hx h.symm
      simp [this]
    rw [e]
    split
    · rename_i hu
      simp only [usedB, Bool.and_eq_true, decide_eq_true_eq] at hu
      have : x.toNat ≠ i := by omega
      rw [← ih]
      simp only [List.getD_eq_getElem?_getD]
      rw [List.getElem?_set_ne this]
    · exact ih

/-- what Put took is given back -/
theorem give_take {D : DkV} {n : Nat} (hn : n ≤ freeN D.bs) : giveL (takeN D.bs n) ((List.range n).map (placeP D n)) = D.bs := by
  have hl := takeN_len D.bs n
  refine List.ext_getElem (by rw [giveL_len, hl]) fun i h1 h2 => ?_
  have g := giveL_get (takeN D.bs n) (i := i) (by omega) ((List.range n).map (placeP D n))
  have e1 : (giveL (takeN D.bs n) ((List.range n).map (placeP D n))).getD i false = (giveL (takeN D.bs n) ((List.range n).map (placeP D n)))[i] := by simp [h1]
  have e2 : D.bs.getD i false = D.bs[i] := by simp [h2]
  rw [← e1, ← e2, g, Bool.eq_iff_iff, Bool.and_eq_true, take_get _ _ _ h2, decide_eq_true_eq]
  have hm : (i : Int) ∈ (List.range n).map (placeP D n) ↔ ∃ t, t < n ∧ freeAt (takeN D.bs t) = i := by
    rw [List.mem_map]
    constructor
    · rintro ⟨j, hj, he⟩
      have hj := List.mem_range.1 hj
      unfold placeP at he
      rw [if_pos hj] at he
      exact ⟨n - 1 - j, by omega, by omega⟩
    · rintro ⟨t, ht, he⟩
      refine ⟨n - 1 - t, List.mem_range.2 (by omega), ?_⟩
      unfold placeP
      rw [if_pos (by omega)]
      have : n - 1 - (n - 1 - t) = t := by omega
      rw [this, he]
  rw [hm]
  constructor
  · rintro ⟨h | h, hno⟩
    · exact h
    · exact absurd h hno
  · refine fun h => ⟨.inl h, fun ⟨t, ht, he⟩ => ?_⟩
    have := take_was (bs := D.bs) (t := t) (by omega)
    rw [he, h] at this; cases this

theorem place_ok {D : DkV} {n : Nat} (hn : n ≤ freeN D.bs) (h0 : D.bs.getD 0 false = true) (h1 : D.bs.getD 1 false = true) {i : Nat} (hi : i < n) : 2 ≤ placeP D n i := by
  have h := (place_used hi hn).2
  have hr := (placeP_range D n i).1
  rcases Int.lt_or_le (placeP D n i) 2 with h2 | h2
  · have : (placeP D n i).toNat = 0 ∨ (placeP D n i).toNat = 1 := by omega
    rcases this with e | e <;> rw [e] at h
    · rw [h0] at h; cases h
    · rw [h1] at h; cases h
  · exact h2

theorem drop_ok {D : DkV} {n : Nat} {P : Nat → Int} (hinj : ∀ i j, i < n → j < n → P i = P j → i = j) (hP : ∀ i, i < n → 2 ≤ P i ∧ usedB D.bs (P i) = true) : dropOk D.bs ((List.range n).map P) := fun i hi => by
  have hi' : i < n := by simpa using hi
  have e : ((List.range n).map P)[i] = P i := by simp
  rw [e]
  have := hP i hi'
  refine ⟨by omega, by omega, this.2, fun hm => ?_⟩
  rw [List.mem_take_iff_getElem] at hm
  obtain ⟨j, hj, he⟩ := hm
  simp at hj he
  have := hinj j i (by omega) hi' he
  omega

section
variable {w : World} {X : List As}
theorem Among_st {sl : Sl} {zs : List Int} (hT : Ints w sl zs) (hz : zs.length ≤ 1000000) {x : Int} {R : Bool → World → Prop} (hR : R (decide (x ∈ zs)) w) : F.masonryref1_Among sl x w R := by
  apply E.masonryref1_Among
  unfold V.masonryref1_Among
  try simp (config := { zeta := false }) only [cnd_all]
  have hl := hT.1
  refine ⟨Cnt zs.length fun m w' => w' = w ∧ x ∉ zs.take m, cntM zs.length, Cnt.zero ⟨rfl, by simp⟩, ?_⟩
  rintro _ w1 ⟨m, rfl, hm, rfl, hall⟩
  refine ⟨fun hlt => ?_, fun hge => ?_⟩
  · have hlt : m < zs.length := by omega
    obtain ⟨a, ha, hc⟩ := hT.2 m zs[m] (by simp [hlt])
    refine ⟨a, ha, by omega, by omega, zs[m], by simpa using hc, fun he => ?_, fun he => Cnt.next hlt (by omega) ⟨rfl, ?_⟩⟩
    · have e1 : decide (x ∈ zs) = true := by rw [decide_eq_true_eq, ← he]; exact List.getElem_mem _
      rw [e1] at hR; exact hR
    · rw [List.take_succ_eq_append_getElem hlt]
      simp only [List.mem_append, List.mem_singleton, not_or]
      exact ⟨hall, fun h => he h.symm⟩
  · have hmm : m = zs.length := by omega
    subst hmm
    rw [List.take_length] at hall
    rw [decide_eq_false hall] at hR; exact hR

theorem Ints.take {sl : Sl} {zs : List Int} (hT : Ints w sl zs) {m : Nat} (hm : m ≤ zs.length) (c : Nat) : Ints w ⟨sl.a, m, c⟩ (zs.take m) :=
  ⟨by simp [hm], fun j v hj => by
    rw [List.getElem?_take] at hj
    split at hj
    · exact hT.2 j v hj
    · cases hj⟩

/-- the bytes that are filled in -/
def cycB (s : Bs) (n : Nat) : Bs := (List.range n).map fun i => s.getD (i % s.length) 0
theorem cycB_len (s : Bs) (n : Nat) : (cycB s n).length = n := by simp [cycB]

set_option maxHeartbeats 1000000 in
theorem ChainSizes_spec {n tag : Int} {s : Bs} {R : Bool → World → Prop} (hR : ∀ w', Below w.heap.size w w' → R true w') : F.masonrylaw12_ChainSizes n tag (tx s) w R := by
  apply E.masonrylaw12_ChainSizes
  unfold V.masonrylaw12_ChainSizes
  try simp (config := { zeta := false }) only [cnd_all]
  have h0 := St.start w
  have hR' : ∀ w', St w' [Old w] → R true w' := fun w' h => hR w' h.old
  clear hR
  refine ⟨fun b w' => St w' [Old w] ∧ (b = false → 0 ≤ n ∧ n ≤ 9440 ∧ 0 ≤ tag ∧ tag ≤ 200 ∧ 1 ≤ s.length ∧ s.length ≤ 100), ⟨fun h => ⟨h0, fun h => (by cases h)⟩, fun h1 => ⟨fun h => ⟨h0, fun h => (by cases h)⟩, fun h2 => ⟨fun h => ⟨h0, fun h => (by cases h)⟩, fun h3 => ⟨fun h => ⟨h0, fun h => (by cases h)⟩, fun h4 => ⟨fun h => ⟨h0, fun h => (by cases h)⟩, fun h5 => ⟨fun h => ⟨h0, fun h => (by cases h)⟩, fun h6 => alive12_spec h0 fun w1 hw => ⟨hw, fun _ => by omega⟩⟩⟩⟩⟩⟩⟩, ?_⟩
  rintro b w1 ⟨h1, hb⟩
  refine ⟨fun _ => alive12_spec h1 hR', fun h => ?_⟩
  obtain ⟨g1, g2, g3, g4, g5, g6⟩ := hb h
  clear hb h h0
  obtain ⟨N, rfl⟩ : ∃ N : Nat, n = N := ⟨n.toNat, by omega⟩
  refine St.makeB h1 (n := N) (by omega) fun l w2 hl h2 => ?_
  refine ⟨Cnt N fun m w' => St w' [Row EB T.y_uint8 l (cycB s m ++ List.replicate (N - m) 0), Old w], cntM N, Cnt.zero (by simpa [cycB] using h2), ?_⟩
  rintro _ w3 ⟨m, rfl, hm, h3⟩
  refine ⟨fun hlt => ?_, fun hge => ?_⟩
  · have hlt : m < N := by omega
    obtain ⟨a, ha, _, _⟩ := (h3.has (by decide)).at (j := m) (by simp [cycB_len]; omega)
    have e1 : (m : Int).tmod (s.length : Int) = ((m % s.length : Nat) : Int) := (Int.ofNat_tmod m s.length).symm
    have hml := Nat.mod_lt m (show 0 < s.length by omega)
    rw [e1, tx_at]
    obtain ⟨q1, q2⟩ := St.setB h3 (k := m) (by simp [cycB_len]; omega) (s.getD (m % s.length) 0) ha
    refine ⟨by omega, by omega, by omega, a, ha, by omega, by omega, q1, ?_⟩
    intro w4
    have h4 : St w4 _ := q2
    clear_value w4
    refine Cnt.next hlt (by omega) ?_
    have e : (cycB s m ++ List.replicate (N - m) 0).set m (s.getD (m % s.length) 0) = cycB s (m + 1) ++ List.replicate (N - (m + 1)) 0 := by
      obtain ⟨t, ht⟩ : ∃ t, N - m = t + 1 := ⟨N - m - 1, by omega⟩
      have ht2 : N - (m + 1) = t := by omega
      rw [ht, ht2, List.set_append_right _ _ (by rw [cycB_len]; omega), cycB_len, Nat.sub_self, List.replicate_succ, List.set_cons_zero]
      simp [cycB, List.range_succ]
    rw [e] at h4
    exact h4
  have hmm : m = N := by omega
  subst hmm
  have hcl := cycB_len s m
  rw [Nat.sub_self, List.replicate_zero, List.append_nil] at h3
  generalize cycB s m = b at *
  have hf : freeN (fmt0 200).bs = 87 := by rw [fmt0_bs, freeN_bs0 (by decide)]
  refine Fresh_st h3 (n := 200) (by decide) (by decide) fun k g w4 h4 => ⟨fun h => (by cases h), fun _ => St.strB rfl h4.sw ?_⟩
  have hnn : needN b.length ≤ 40 ∧ 1 ≤ needN b.length := by unfold needN; split <;> omega
  have hmax : imax (w64 ((w64 (w64 ((m : Int) + 236) - 1)).tdiv 236)) 1 = (needN b.length : Int) := by
    have e1 : w64 ((m : Int) + 236) = (m : Int) + 236 := w64_id (by omega) (by omega)
    have e2 : w64 ((m : Int) + 236 - 1) = ((m + 235 : Nat) : Int) := by rw [w64_id (by omega) (by omega)]; omega
    have e3 : ((m + 235 : Nat) : Int).tdiv 236 = (((m + 235) / 236 : Nat) : Int) := (Int.ofNat_tdiv _ _).symm
    rw [e1, e2, e3, w64_id (by omega) (by omega), hcl]
    unfold imax needN
    split <;> split <;> omega
  refine Put_chain h4 (by decide) ⟨g3, g4⟩ (by omega) (by decide) (fun w5 hlf _ => by omega) fun w5 hle h5 => ?_
  have hk5 := DeskS.ok h5
  have hk4 := DeskS.ok h4
  have hhas := put_has (gen := 3) (tag := tag) hle
  have hchn := putS_chn (D := fmt0 200) (gen := 3) (tag := tag) (b := b) (by decide) ⟨g3, g4⟩ (by omega) rfl hle (by rw [fmt0_bs, bs0_len]; decide) hk4.u0
  have hdat := dataOf_put (D := fmt0 200) (gen := 3) (tag := tag) (b := b) (by omega) (n := needN b.length)
  have hpr := fun i => placeP_range (fmt0 200) (needN b.length) i
  rw [fmt0_bs, bs0_len] at hpr
  have hused := fun i hi => place_used (D := fmt0 200) (n := needN b.length) (i := i) hi hle
  have h2p := fun i hi => place_ok (D := fmt0 200) (n := needN b.length) (i := i) hle hk4.u0 hk4.u1 hi
  have hgive := give_take (D := fmt0 200) hle
  have hl0 : (linkP (fmt0 200) 3 tag b (needN b.length) 0).gen = 3 ∧ (linkP (fmt0 200) 3 tag b (needN b.length) 0).tag = tag ∧ (linkP (fmt0 200) 3 tag b (needN b.length) 0).refs = 1 := ⟨rfl, rfl, rfl⟩
  rw [← putS_bs (gen := 3) (tag := tag) (b := b) (n := needN b.length)] at hused hgive
  have hbl : (fmt0 200).bs.length = 89 := by rw [fmt0_bs, bs0_len]
  generalize linkP (fmt0 200) 3 tag b (needN b.length) = L at *
  generalize placeP (fmt0 200) (needN b.length) = P at *
  have hN : needN b.length = needN m := by rw [hcl]
  generalize needN b.length = q at *
  generalize (putS (fmt0 200) 3 tag b q q).1 = D at *
  generalize fmt0 200 = D0 at *
  refine Get_chn h5 hchn hhas (by have := hpr 0; omega) fun w6 h6 => ?_
  rw [hl0.1, hl0.2.1, hl0.2.2, hdat]
  intro wa1
  replace h6 : St wa1 (Cs _ _ _ :: _) := h6.new _ _
  clear_value wa1
  refine ⟨h6.wr0 (by simp), ?_⟩
  intro wa2
  replace h6 : St wa2 _ := h6.set0 _
  clear_value wa2
  refine ⟨h6.wr (by simp), ?_⟩
  intro wa3
  replace h6 : St wa3 _ := h6.set 1 _
  clear_value wa3
  refine ⟨h6.wr (by simp), ?_⟩
  intro wa4
  replace h6 : St wa4 _ := h6.set 2 _
  clear_value wa4
  refine ⟨h6.wr (by simp), ?_⟩
  intro wa5
  replace h6 : St wa5 _ := h6.set 3 _
  clear_value wa5
  simp only [List.set_cons_zero, List.set_cons_succ] at h6
  generalize w6.heap.size = z at *
  refine Sectors_chn h6.sw hchn hhas (by have := hpr 0; omega) fun pl w7 h7 => ?_
  have hpl : pl.len = q := by have := (h7.has (by decide)).1; simpa using this
  have hrow := h7
  refine ⟨fun v w' => v = false ∧ St w' (Row EI T.y_int pl ((List.range q).map P) :: DeskS k g (1001 + 40) D :: [Old w]), ⟨fun h => absurd rfl h, fun _ => ⟨fun h => absurd rfl h, fun _ => ⟨fun h => absurd rfl h, fun _ => ?_⟩⟩⟩, ?_⟩
  · have q7 := h7.up2
    refine ⟨_, q7.cell0, _, q7.cell 1, _, q7.cell 2, _, q7.cell 3, ?_⟩
    refine St.strB rfl q7.up3 ⟨fun h => absurd h (by simp [tx_eq]), fun _ => Need_chain (by omega) ?_⟩
    rw [← hN, hpl]
    refine ⟨fun h => absurd rfl h, fun _ => ⟨by decide, ?_, ?_⟩⟩
    · rw [hmax]; simp
    · exact h7.d3.d3
  rintro v w8 ⟨rfl, h8⟩
  refine ⟨fun h => (by cases h), fun _ => ?_⟩
  refine ⟨Cnt q fun i w' => St w' (Row EI T.y_int pl ((List.range q).map P) :: DeskS k g (1001 + 40) D :: [Old w]), cntM q, Cnt.zero h8, ?_⟩
  rintro _ w9 ⟨i, rfl, hi, h9⟩
  refine ⟨fun hlt => ?_, fun hge => ?_⟩
  · have hlt : i < q := by omega
    intro wa6
    replace h9 : St wa6 _ := h9.drew
    clear_value wa6
    obtain ⟨ad, had, _, hc⟩ := (h9.has (by decide)).at (j := i) (by simpa using hlt)
    have hc := hc 0 (.int .i64 (P i)) (by simp [EI])
    rw [addr_add0] at hc
    have hcap := Own.cap_ge h9.own
    refine ⟨ad, had, by omega, by omega, P i, hc, fun h => absurd (h2p i hlt) (by omega), fun _ => ⟨by omega, by omega, ad, had, by omega, by omega, P i, hc, ?_⟩⟩
    rw [slA0]
    refine Among_st (Ints.take (St.ints h9) (by simp; omega) _) (by simp; omega) ⟨hc, fun h => ?_, fun _ => Cnt.next hlt (by omega) h9⟩
    exfalso
    have h := of_decide_eq_true h
    rw [List.mem_take_iff_getElem] at h
    obtain ⟨j, hj, he⟩ := h
    simp at hj he
    have := hchn.inj j i (by omega) hlt he
    omega
  have hiq : i = q := by omega
  subst hiq
  have hwalk := hchn.walk hhas
  have hdok : dropOk D.bs ((List.range i).map P) := drop_ok hchn.inj fun j hj => ⟨h2p j hj, (hused j hj).1⟩
  refine Drop_chain h9.drop (by have := hpr 0; omega) (fun z hz => ?_) (fun w10 he _ => absurd (by rw [hwalk]) he) (fun w10 _ hn _ => absurd (by rw [hwalk]; exact hdok) hn) fun w10 _ _ h10 => ?_
  · rw [hwalk] at hz
    obtain ⟨j, _, rfl⟩ := List.mem_map.1 hz
    have := hpr j; omega
  rw [hwalk] at h10
  refine ⟨fun _ => Room_st h10 fun r w11 h11 => ⟨fun _ => Room_st h11.drop fun r2 w12 h12 => Free_st h12 ?_ fun w13 h13 => ?_, fun h => (by simp at h)⟩, fun h => absurd rfl h⟩
  · show (giveL D.bs _).length ≤ _
    rw [hgive]; omega
  · show R (((giveL D.bs ((List.range i).map P)).length : Int) - ((allL (giveL D.bs ((List.range i).map P)) (giveL D.bs ((List.range i).map P)).length).length : Int) == 87) w13
    rw [hgive]
    have hfa := freeN_all D0.bs
    have hal := allL_len D0.bs D0.bs.length
    have e : ((D0.bs.length : Int) - ((allL D0.bs D0.bs.length).length : Int) == 87) = true := by rw [beq_iff_eq]; omega
    rw [e]
    exact hR' _ h13.drop.drop
end
end Go.Proofs.YtepclihkniaieaaGreatDoor
