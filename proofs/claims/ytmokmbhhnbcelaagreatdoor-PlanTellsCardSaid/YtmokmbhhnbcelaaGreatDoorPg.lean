/- plan: Put. -/
import Derived.Test.YtmokmbhhnbcelaaGreatDoorPe
import Derived.Test.YtmokmbhhnbcelaaGreatDoorCp
set_option linter.unusedVariables false
namespace Go.Proofs.YtmokmbhhnbcelaaGreatDoor
open Go Go.Vc Go.RowKit Go.Lib

theorem mayP_zero {gen : Int} {l : List Pc} (h : mayP gen l = 0) : (1 ≤ gen ∧ gen ≤ 3) ∧ (∀ p ∈ l, pcOk p = true) ∧ sumP l ≤ 1200 := by
  unfold mayP at h
  split at h
  · cases h
  · split at h
    · rename_i ha
      split at h
      · cases h
      · exact ⟨by omega, List.all_eq_true.1 ha, by omega⟩
    · cases h
section
variable {w : World} {X : List As} {k g c : Nat} {D : DkV}
set_option maxHeartbeats 1000000 in
theorem Put_plan (h : St w (DeskS k g c D :: X)) {gen : Int} {sl : Sl} {l : List Pc} (hx : ∀ w', St w' X → Has EPc w' sl l) (hn : l.length ≤ 1000) (hc : c ≤ 900000) {R : Int → Int → World → Prop}
    (hE : ∀ w', mayP gen l ≠ 0 → St w' (DeskS k g c D :: X) → R 0 (mayP gen l) w')
    (hF : ∀ w', mayP gen l = 0 → freeN D.bs < needN (layP l).length → St w' (DeskS k g (c + 40) D :: X) → R 0 20 w')
    (hR : ∀ w', mayP gen l = 0 → needN (layP l).length ≤ freeN D.bs → St w' (DeskS k g (c + 40) (putS D gen 2 (layP l) (needN (layP l).length) (needN (layP l).length)).1 :: X) → R (placeP D (needN (layP l).length) 0) 0 w') : F.plan_Put (some (blk k)) gen sl w R := by
  apply E.plan_Put
  unfold V.plan_Put
  try simp (config := { zeta := false }) only [cnd_all, Nat.reduceAdd]
  have hs := (hx w h.drop).1
  refine may_plan h (fun w' hw => hx w' hw.drop) hn fun w1 h1 => ⟨fun hne => hE w1 hne h1, fun h0 => ?_⟩
  obtain ⟨hg, hall, hsum⟩ := mayP_zero h0
  have hlo := sumP_pos (pcOk_len hall)
  intro w2
  have h2 : St w2 (Cs w1.heap.size [.slice none 0 0, .int .i64 0] T.y_bits_Out :: DeskS k g c D :: X) := h1.new _ _
  clear_value w2
  generalize w1.heap.size = q at *
  refine ⟨fun i w' => ∃ m : Nat, i = m ∧ m ≤ l.length ∧ St w' (OutS q (layP (l.take m)) :: DeskS k g c D :: X), fun i _ => ((l.length : Int) - i).toNat, ⟨0, rfl, Nat.zero_le _, OutS.of h2⟩, ?_⟩
  rintro i w3 ⟨m, rfl, hm, h3⟩
  refine ⟨fun hlt => ?_, fun hge => ?_⟩
  · have hlt : m < l.length := by omega
    obtain ⟨ad, ha, hal, c0, c1⟩ := Has.pc (hx _ h3.drop.drop) hlt
    have hp := hall l[m] (List.getElem_mem hlt)
    simp only [pcOk, decide_eq_true_eq] at hp
    have hll := layP_len (l.take m)
    rw [List.length_take] at hll
    refine ⟨ad, ha, by omega, by omega, _, c0, _, c1, ?_⟩
    intro wa1
    replace h3 : St wa1 (Cs _ _ _ :: _) := h3.new _ _
    clear_value wa1
    refine ⟨h3.wr0 (by simp), ?_⟩
    intro wa2
    replace h3 : St wa2 _ := h3.set0 _
    clear_value wa2
    refine ⟨h3.wr (by simp), ?_⟩
    intro wa3
    replace h3 : St wa3 _ := h3.set 1 _
    clear_value wa3
    simp only [List.set_cons_zero, List.set_cons_succ] at h3
    intro wa4
    replace h3 : St wa4 _ := h3.drew
    clear_value wa4
    refine ⟨_, h3.cell0, _, h3.cell 1, fun w7 g1 hB7 hg7 hn7 ho7 w8 hB8 => ?_⟩
    have h8 := (h3.fz.iv hB7 hg7 hn7 ho7).iv0 hB8
    refine OutS.half (bs := layP (l.take m)) (vs := [l[m].1]) h8.up3.up2.sw (fun v hv => by simp at hv; omega) (by simp; omega) rfl fun w9 h9 => ?_
    obtain ⟨k9, h9⟩ := h9.sw.drop.sw.kp
    have q9 := h9.up2
    refine ⟨k9, q9.cell 1, q9.cell0, fun w10 g2 hB10 hg10 hn10 ho10 w11 hB11 => ?_⟩
    refine OutS.byte (vs := [l[m].2]) ((h9.iv hB10 hg10 hn10 ho10).iv0 hB11).up2.up2.sw (fun v hv => by simp at hv; omega) (by simp [leBytes_len]; omega) rfl fun w12 h12 => ?_
    obtain ⟨k12, h12⟩ := h12.sw.drop.sw.kp
    have q12 := h12.up2
    refine ⟨k12, q12.cell 1, q12.cell0, fun w13 hB13 => ?_⟩
    have h13 := (h12.iv0 hB13).drop.d2
    have e : layP (l.take m) ++ [l[m].1].flatMap (leBytes 2) ++ [l[m].2].flatMap (leBytes 1) = layP (l.take (m + 1)) := by
      rw [List.take_succ_eq_append_getElem hlt, layP_app]
      simp [layP]
    rw [e] at h13
    rw [w64_succ (by omega)]
    exact ⟨⟨m + 1, rfl, hlt, h13⟩, by show ((l.length : Int) - ((m + 1 : Nat) : Int)).toNat < ((l.length : Int) - (m : Int)).toNat; omega⟩
  · have hmm : m = l.length := by omega
    subst hmm
    rw [List.take_length] at h3
    refine OutS.end_ h3 fun w4 h4 => ⟨fun h => absurd rfl h, fun _ => ?_⟩
    exact Put_chain h4.drop hg (by decide) (by rw [layP_len]; omega) hc (fun w5 hlf h5 => hF w5 h0 hlf h5) fun w5 hle h5 => hR w5 h0 hle h5
end
end Go.Proofs.YtmokmbhhnbcelaaGreatDoor

/- plan: Get. -/
set_option linter.unusedVariables false
namespace Go.Proofs.YtmokmbhhnbcelaaGreatDoor
open Go Go.Vc Go.RowKit Go.Lib

def PlOk (x : Lk) (s : Bs) : Prop := x.tag = 2 ∧ s.length % 3 = 0 ∧ mayP x.gen (pcs s (s.length / 3)) = 0
section
variable {w : World} {X : List As} {k g c : Nat} {D : DkV}
set_option maxHeartbeats 2000000 in
theorem Get_plan (h : St w (DeskS k g c D :: X)) {a : Int} (ha : -9223372036854775808 ≤ a ∧ a < 9223372036854775808) (hlen : ∀ x xs, (walkD D a).1 = x :: xs → (dataOf (x :: xs)).length ≤ 3000) {R : Int → Int → Sl → Int → World → Prop}
    (hE : ∀ w', (walkD D a).2.2 ≠ 0 → St w' (DeskS k g c D :: X) → R 0 0 ⟨none, 0, 0⟩ (walkD D a).2.2 w')
    (hB : ∀ x xs w', (walkD D a).1 = x :: xs → (walkD D a).2.2 = 0 → ¬ PlOk x (dataOf (x :: xs)) → St w' (DeskS k g c D :: X) → R 0 0 ⟨none, 0, 0⟩ 25 w')
    (hR : ∀ x xs pl w', (walkD D a).1 = x :: xs → (walkD D a).2.2 = 0 → PlOk x (dataOf (x :: xs)) → St w' (Row EPc T.y_api_Piece pl (pcs (dataOf (x :: xs)) ((dataOf (x :: xs)).length / 3)) :: DeskS k g c D :: X) → R x.gen x.refs pl 0 w') : F.plan_Get (some (blk k)) a w R := by
  apply E.plan_Get
  unfold V.plan_Get
  try simp (config := { zeta := false }) only [cnd_all, Nat.reduceAdd]
  intro wa1
  replace h : St wa1 (Cs _ _ _ :: _) := h.new _ _
  clear_value wa1
  generalize w.heap.size = z at *
  refine Get_chain h.sw ha (fun w2 he h2 => ?_) fun x xs w2 hx he h2 => ?_
  · intro wa2
    replace h2 : St wa2 (Cs _ _ _ :: _) := h2.new _ _
    clear_value wa2
    refine ⟨h2.wr0 (by simp), ?_⟩
    intro wa3
    replace h2 : St wa3 _ := h2.set0 _
    clear_value wa3
    refine ⟨h2.wr (by simp), ?_⟩
    intro wa4
    replace h2 : St wa4 _ := h2.set 1 _
    clear_value wa4
    refine ⟨h2.wr (by simp), ?_⟩
    intro wa5
    replace h2 : St wa5 _ := h2.set 2 _
    clear_value wa5
    refine ⟨h2.wr (by simp), ?_⟩
    intro wa6
    replace h2 : St wa6 _ := h2.set 3 _
    clear_value wa6
    simp only [List.set_cons_zero, List.set_cons_succ] at h2
    refine ⟨fun _ => ?_, fun h => absurd h he⟩
    have q := h2.up2
    refine ⟨q.wr0 (by simp), ?_⟩
    intro wa7
    replace q : St wa7 _ := q.set0 _
    clear_value wa7
    refine ⟨q.wr (by simp), ?_⟩
    intro wa8
    replace q : St wa8 _ := q.set 1 _
    clear_value wa8
    refine ⟨q.wr (by simp), ?_⟩
    intro wa9
    replace q : St wa9 _ := q.set 2 _
    clear_value wa9
    simp only [List.set_cons_zero, List.set_cons_succ] at q
    refine ⟨_, q.cell0, _, q.cell 1, ⟨none, 0, 0⟩, q.cell 2, ?_⟩
    exact hE _ he q.drop.drop
  have hlen := hlen x xs hx
  have hBb := hB x xs
  have hRr := hR x xs
  generalize dataOf (x :: xs) = s at *
  intro wa10
  replace h2 : St wa10 (Cs _ _ _ :: _) := h2.new _ _
  clear_value wa10
  refine ⟨h2.wr0 (by simp), ?_⟩
  intro wa11
  replace h2 : St wa11 _ := h2.set0 _
  clear_value wa11
  refine ⟨h2.wr (by simp), ?_⟩
  intro wa12
  replace h2 : St wa12 _ := h2.set 1 _
  clear_value wa12
  refine ⟨h2.wr (by simp), ?_⟩
  intro wa13
  replace h2 : St wa13 _ := h2.set 2 _
  clear_value wa13
  refine ⟨h2.wr (by simp), ?_⟩
  intro wa14
  replace h2 : St wa14 _ := h2.set 3 _
  clear_value wa14
  simp only [List.set_cons_zero, List.set_cons_succ] at h2
  refine ⟨fun h => absurd rfl h, fun _ => ?_⟩
  refine ⟨_, h2.cell0, _, h2.cell 2, ?_⟩
  generalize w2.heap.size = y at *
  -- chain, desk, z
  intro wa15
  have h3 : St wa15 (Cs _ _ _ :: _) := h2.new _ _
  clear_value wa15
  refine ⟨h3.wr0 (by simp), ?_⟩
  intro wa16
  replace h3 : St wa16 _ := h3.set0 _
  clear_value wa16
  refine ⟨h3.wr (by simp), ?_⟩
  intro wa17
  replace h3 : St wa17 _ := h3.set 1 _
  clear_value wa17
  refine ⟨h3.wr (by simp), ?_⟩
  intro wa18
  replace h3 : St wa18 _ := h3.set 2 _
  clear_value wa18
  simp only [List.set_cons_zero, List.set_cons_succ] at h3
  refine ⟨_, h3.sw.cell 3, InS.on h3 fun g2 w4 h4 => ⟨_, h4.up2.cell 3, by decide, ?_⟩⟩
  -- In, plan, chain, desk, z
  rw [tx_size]
  have e3 : w64 (((s.length : Nat) : Int).tdiv 3) = ((s.length / 3 : Nat) : Int) := by
    have : ((s.length : Nat) : Int).tdiv 3 = ((s.length / 3 : Nat) : Int) := (Int.ofNat_tdiv s.length 3).symm
    rw [this]
    exact w64_id (by omega) (by omega)
  rw [e3]
  have hsplit : 3 * (s.length / 3) ≤ s.length := Nat.mul_div_le _ _
  generalize hN : s.length / 3 = N at *
  generalize wa14.heap.size = pb at *
  refine ⟨fun i w' => ∃ (m : Nat) (pl : Sl), i = m ∧ m ≤ N ∧ St w' (InS g2 (s.drop (3 * m)) 0 :: Row EPc T.y_api_Piece pl (pcs s m) :: Cs pb [.int .i64 x.gen, .int .i64 x.refs, .slice pl.a pl.len pl.cap] T.y_plan_Plan :: Cs y [.int .i64 x.gen, .int .i64 x.tag, .int .i64 x.refs, .string (tx s)] T.y_chain_Chain :: DeskS k g c D :: Cs z [.int .i64 0, .int .i64 0, .slice none 0 0] T.y_plan_Plan :: X), fun i _ => ((N : Int) - i).toNat, ⟨0, ⟨none, 0, 0⟩, rfl, Nat.zero_le _, (h4.row0 EPc T.y_api_Piece).sw⟩, ?_⟩
  rintro i w5 ⟨m, pl, rfl, hm, h5⟩
  refine ⟨fun hlt => ?_, fun hge => ?_⟩
  · have hlt : m < N := by omega
    refine InS.half h5 (by rw [List.length_drop]; omega) fun w6 h6 => ?_
    rw [half_at (s := s) (j := m) (by omega)] at h6 ⊢
    intro wa19
    replace h6 : St wa19 (Cs _ _ _ :: _) := h6.new _ _
    clear_value wa19
    refine ⟨h6.wr0 (by simp), ?_⟩
    intro wa20
    replace h6 : St wa20 _ := h6.set0 _
    clear_value wa20
    refine ⟨h6.wr (by simp), ?_⟩
    intro wa21
    replace h6 : St wa21 _ := h6.set 1 _
    clear_value wa21
    simp only [List.set_cons_zero, List.set_cons_succ] at h6
    refine InS.byte h6.sw (by rw [List.length_drop]; omega) fun w7 h7 => ?_
    rw [byte_at (s := s) (j := m) (by omega)] at h7 ⊢
    have q := h7.sw
    refine ⟨q.wr (by simp), ?_⟩
    intro wa22
    replace q : St wa22 _ := q.set 1 _
    clear_value wa22
    refine ⟨pl, q.up3.cell 2, _, q.cell0, _, q.cell 1, ?_⟩
    intro wa23
    replace q : St wa23 (Cs _ _ _ :: _) := q.new _ _
    clear_value wa23
    refine St.app elt_pc q.up3 (sl := ⟨some (blk _), 1, 1⟩) (ys := [pcAt s m]) (q.lit (xs := [pcAt s m]) rfl (by simp [Enc.all, EPc]) 1) rfl (by simp [pcs_len]; omega) (by simp [pcs_len]; omega) fun pl2 w8 h8 hl8 => ?_
    have q2 := h8.up4
    refine ⟨q2.wr (by simp), ?_⟩
    intro wa24
    replace q2 : St wa24 _ := q2.set 2 _
    clear_value wa24
    have q3 := (q2.d3.d3).sw.up2
    rw [← pcs_succ] at q3
    rw [w64_succ (by omega)]
    exact ⟨⟨m + 1, pl2, rfl, hlt, q3⟩, by show ((N : Int) - ((m + 1 : Nat) : Int)).toNat < ((N : Int) - (m : Int)).toNat; omega⟩
  · have hmm : m = N := by omega
    subst hmm
    have h6 := h5.drop
    refine ⟨fun b w' => (b = true ↔ ¬ PlOk x s) ∧ St w' (Row EPc T.y_api_Piece pl (pcs s m) :: Cs pb [.int .i64 x.gen, .int .i64 x.refs, .slice pl.a pl.len pl.cap] T.y_plan_Plan :: Cs y [.int .i64 x.gen, .int .i64 x.tag, .int .i64 x.refs, .string (tx s)] T.y_chain_Chain :: DeskS k g c D :: Cs z [.int .i64 0, .int .i64 0, .slice none 0 0] T.y_plan_Plan :: X), ⟨_, h6.up2.cell 1, fun ht => ⟨⟨fun _ hp => ht hp.1, fun _ => rfl⟩, h6⟩, fun ht => ⟨_, h6.up2.cell 3, by decide, fun h3' => ?_, fun h3' => ⟨_, h6.sw.cell0, pl, h6.sw.cell 2, ?_⟩⟩⟩, ?_⟩
    · rw [tx_size] at h3'
      refine ⟨⟨fun _ hp => h3' ?_, fun _ => rfl⟩, h6⟩
      have := hp.2.1
      have e : ((s.length : Nat) : Int).tmod 3 = ((s.length % 3 : Nat) : Int) := (Int.ofNat_tmod s.length 3).symm
      rw [e, this]; rfl
    · rw [tx_size] at h3'
      have e : ((s.length : Nat) : Int).tmod 3 = ((s.length % 3 : Nat) : Int) := (Int.ofNat_tmod s.length 3).symm
      rw [e] at h3'
      refine may_plan h6 (fun w' hw => hw.has (by decide)) (by rw [pcs_len]; omega) fun w9 h9 => ⟨⟨fun hb hp => ?_, fun hn => ?_⟩, h9⟩
      · have := hp.2.2
        rw [hN] at this
        rw [this] at hb
        simp at hb
      · simp only [bne_iff_ne, ne_eq]
        intro h0
        exact hn ⟨ht, by omega, by rw [hN]; exact h0⟩
    rintro b w9 ⟨hb, h9⟩
    refine ⟨fun hbt => ?_, fun hbf => ?_⟩
    · have q := h9.up4
      refine ⟨q.wr0 (by simp), ?_⟩
      intro wa25
      replace q : St wa25 _ := q.set0 _
      clear_value wa25
      refine ⟨q.wr (by simp), ?_⟩
      intro wa26
      replace q : St wa26 _ := q.set 1 _
      clear_value wa26
      refine ⟨q.wr (by simp), ?_⟩
      intro wa27
      replace q : St wa27 _ := q.set 2 _
      clear_value wa27
      simp only [List.set_cons_zero, List.set_cons_succ] at q
      refine ⟨_, q.cell0, _, q.cell 1, ⟨none, 0, 0⟩, q.cell 2, ?_⟩
      exact hBb _ hx he (hb.1 hbt) (q.drop.drop.drop.drop)
    · have q := h9.up4
      refine ⟨_, q.up2.cell0, _, q.up2.cell 1, pl, q.up2.cell 2, ?_⟩
      refine ⟨q.wr0 (by simp), ?_⟩
      intro wa28
      replace q : St wa28 _ := q.set0 _
      clear_value wa28
      refine ⟨q.wr (by simp), ?_⟩
      intro wa29
      replace q : St wa29 _ := q.set 1 _
      clear_value wa29
      refine ⟨q.wr (by simp), ?_⟩
      intro wa30
      replace q : St wa30 _ := q.set 2 _
      clear_value wa30
      simp only [List.set_cons_zero, List.set_cons_succ] at q
      refine ⟨_, q.cell0, _, q.cell 1, pl, q.cell 2, ?_⟩
      have hp : PlOk x s := Classical.byContradiction fun hn => by rw [hb.2 hn] at hbf; cases hbf
      exact hRr pl _ hx he hp q.drop.d2.d2
end
end Go.Proofs.YtmokmbhhnbcelaaGreatDoor
