/- WalPlays: the walk. -/
import Derived.Test.YtepclihkniaieaaGreatDoorWk
set_option linter.unusedVariables false
namespace Go.Proofs.YtepclihkniaieaaGreatDoor
open Go Go.Vc Go.RowKit Go.Lib Go.Maps Go.Proofs

section
variable {w w' : World} {X : List As}
set_option maxHeartbeats 4000000 in
theorem WalPlays_st (h : St w X) {n at_ : Int} {sl : Sl} {os : List OpV} (hx : ∀ w', St w' X → OpsIn w' sl os) {R : Bool → World → Prop} (hR : ∀ w', St w' X → R true w') : F.masonrylaw9_WalPlays n sl at_ w R := by
  apply E.masonrylaw9_WalPlays
  unfold V.masonrylaw9_WalPlays
  try simp (config := { zeta := false }) only [cnd_all, Nat.reduceAdd]
  refine ⟨fun b w' => St w' X ∧ (b = false → 140 ≤ n ∧ n ≤ 400 ∧ os.length ≤ 30 ∧ ∀ o ∈ os, o.W.len ≤ 6000 ∧ o.L.len ≤ 6000), ?_, ?_⟩
  · refine ⟨fun _ => ⟨h, fun h => (by cases h)⟩, fun h1 => ⟨fun _ => ⟨h, fun h => (by cases h)⟩, fun h2 => Light_st h hx fun b w1 h3 hb => ⟨fun _ => ⟨h3, fun h => (by cases h)⟩, fun hbt => alive9_st h3 fun w2 h4 => ⟨h4, fun _ => ?_⟩⟩⟩⟩
    have hbt : b = true := by simpa using hbt
    exact ⟨by omega, by omega, hb hbt⟩
  rintro b1 w1 ⟨h1, hb⟩
  refine ⟨fun _ => alive9_st h1 hR, fun hb1 => ?_⟩
  obtain ⟨hn1, hn2, hos, hsz⟩ := hb hb1
  obtain ⟨n, rfl⟩ := Int.eq_ofNat_of_zero_le (show 0 ≤ n by omega)
  have hn1 : 140 ≤ n := by omega
  have hn2 : n ≤ 400 := by omega
  have hq0 : Quiet (newD n) 0 := Quiet.new hn1 (by omega)
  have hl0 := newD_hd n (by omega)
  have hz0 : homeL (newD n).l = List.replicate (n - 111) zeroS := list_ext (by simp [homeL_len, hl0]) fun i hi => by
    rw [homeL_len, hl0] at hi
    rw [hq0.home (by decide), homeAt_new (by omega)]
    simp [hi]
  refine newdisk_st h1 (n := n) hn1 (by omega) fun g w2 h2 => ⟨fun h => absurd rfl h, fun _ => ?_⟩
  generalize hd : newD n = d0 at *
  have hm0 : d0.many = 0 := by rw [← hd]; rfl
  refine Open_quiet h2 hq0 fun u w3 h3 => ?_
  refine ⟨fun b w' => b = false ∧ w' = w3, ⟨fun h => absurd rfl h, fun _ => ⟨rfl, rfl⟩⟩, ?_⟩
  rintro _ _ ⟨rfl, rfl⟩
  refine ⟨fun h => (by cases h), fun _ => ?_⟩
  -- home
  have e111 : w64 ((n : Int) - 111) = ((n - 111 : Nat) : Int) := by rw [w64_id (by omega) (by omega)]; omega
  rw [e111]
  refine ⟨fun l i w' => ∃ m : Nat, i = m ∧ m ≤ n - 111 ∧ St w' (Row ET T.y_string l (List.replicate m zeroS) :: WalS u g ⟨0, false, 0⟩ :: DskS g d0 :: X), fun _ i _ => (((n - 111 : Nat) : Int) - i).toNat, ⟨0, rfl, Nat.zero_le _, h3.row0 ET T.y_string⟩, ?_⟩
  rintro hl _ w4 ⟨m, rfl, hm, h4⟩
  refine ⟨fun hlt => ?_, fun hge => ?_⟩
  · have hlt : m < n - 111 := by omega
    refine Zeros_st h4 fun w5 h5 => ?_
    intro wa1
    replace h5 : St wa1 (Cs _ _ _ :: _) := h5.new _ _
    clear_value wa1
    refine St.app elt_str h5.sw (sl := ⟨some (blk w5.heap.size), 1, 1⟩) (ys := [zeroS]) (h5.lit (xs := [zeroS]) rfl rfl 1) rfl (by simp; omega) (by simp; omega) fun l2 w6 h6 hl6 => ?_
    have h7 := h6.d2
    rw [w64_succ (by omega)]
    refine ⟨⟨m + 1, rfl, hlt, ?_⟩, by show (((n - 111 : Nat) : Int) - ((m + 1 : Nat) : Int)).toNat < (((n - 111 : Nat) : Int) - (m : Int)).toNat; omega⟩
    rw [List.replicate_succ']; exact h7
  have hmm : m = n - 111 := by omega
  subst hmm
  -- the acts
  refine ⟨fun wp hl seq i w' => ∃ (m : Nat) (u : Nat) (d : Ds) (commits : Int), i = m ∧ m ≤ os.length ∧ wp = some (blk u) ∧ St w' (WalS u g ⟨seq, false, commits⟩ :: DskS g d :: Row ET T.y_string hl (homeL d.l) :: X) ∧ Quiet d seq ∧ d.l.length = n ∧ 0 ≤ seq ∧ seq ≤ m ∧ 0 ≤ commits ∧ commits ≤ m ∧ d.many ≤ 1000 * m,
    fun _ _ _ i _ => ((os.length : Int) - i).toNat, ⟨0, u, d0, 0, rfl, Nat.zero_le _, rfl, by rw [hz0]; exact h4.up2.up2, hq0, hl0, Int.le_refl _, Int.le_refl _, Int.le_refl _, Int.le_refl _, by omega⟩, ?_⟩
  clear hq0 hl0 hz0 h4 hd hm0 h3 h2 hl u d0
  rintro _ hl seq _ w5 ⟨m, u, d, commits, rfl, hm, rfl, h5, hq, hdl, hs0, hs1, hc0, hc1, hmn⟩
  refine ⟨fun hlt => ?_, fun _ => hR _ h5.drop.drop.drop⟩
  have hop := hx _ h5.drop.drop.drop
  have hsl := hop.1.1
  have hlt : m < os.length := by omega
  have hmany := hq.many
  have hhl : (homeL d.l).length = n - 111 := by rw [homeL_len, hdl]
  have hsd : sizeD d = (d.l.length : Int) - 111 := rfl
  obtain ⟨a, ha, hal, c0, c1, c2, c3⟩ := hop.at hlt
  obtain ⟨hb1, hb2⟩ := hsz _ (List.getElem_mem hlt)
  have hin : ∀ w', St w' X → Has EW w' os[m].W os[m].ws ∧ NilOk os[m].W ∧ Ints w' os[m].L os[m].ks := fun w' hw => (hx w' hw).2 _ (List.getElem_mem hlt)
  refine ⟨a, ha, by omega, by omega, _, c0, _, c1, _, c2, _, c3, ?_⟩
  intro wa2
  replace h5 : St wa2 (Cs _ _ _ :: _) := h5.new _ _
  clear_value wa2
  refine ⟨h5.wr0 (by simp), ?_⟩
  intro wa3
  replace h5 : St wa3 _ := h5.set0 _
  clear_value wa3
  refine ⟨h5.wr (by simp), ?_⟩
  intro wa4
  replace h5 : St wa4 _ := h5.set 1 _
  clear_value wa4
  refine ⟨h5.wr (by simp), ?_⟩
  intro wa5
  replace h5 : St wa5 _ := h5.set 2 _
  clear_value wa5
  refine ⟨h5.wr (by simp), ?_⟩
  intro wa6
  replace h5 : St wa6 _ := h5.set 3 _
  clear_value wa6
  simp only [List.set_cons_zero, List.set_cons_succ] at h5
  -- what is to be shown behind each act
  refine ⟨fun wp hl2 seq2 w' => ∃ (u2 : Nat) (d2 : Ds) (commits2 : Int), wp = some (blk u2) ∧ St w' (WalS u2 g ⟨seq2, false, commits2⟩ :: DskS g d2 :: Row ET T.y_string hl2 (homeL d2.l) :: X) ∧ Quiet d2 seq2 ∧ d2.l.length = n ∧ 0 ≤ seq2 ∧ seq2 ≤ m + 1 ∧ 0 ≤ commits2 ∧ commits2 ≤ m + 1 ∧ d2.many ≤ 1000 * (m + 1), ⟨_, h5.cell0, fun hk1 => ⟨_, h5.cell 2, ?_⟩, fun hk1 => ⟨fun hk2 => ?_, fun hk2 => ⟨fun hk3 => ?_, fun hk3 => ?_⟩⟩⟩, ?_⟩
  · -- a commit
    have hnil := (hin _ h5.drop.drop.drop.drop).2.1
    have hwl : os[m].ws.length ≤ 6000 := by have := (hin _ h5.drop.drop.drop.drop).1.1; omega
    refine St.app0 elt_wr h5.drop ((hin _ h5.drop.drop.drop.drop).1) hnil (by omega) (by omega) fun l5 w6 h6 hl6 => ?_
    generalize os[m].ws = ws at *
    have hN : sizeD d = (hl.len : Int) := by have := (h6.up3.has (by decide)).1; omega
    refine ⟨fun want named w' => ∃ (ws' : List Wr1) (zs : List Int), ws'.length = ws.length ∧ St w' (Row EW T.y_api_Write l5 ws' :: Row EI T.y_int named zs :: WalS u g ⟨seq, false, commits⟩ :: DskS g d :: Row ET T.y_string hl (homeL d.l) :: X) ∧ ((want = 0 ∧ zs = nextT (keysW ws') ∧ ∀ y ∈ ws', badW (sizeD d) y = 0) ∨ (want ≠ 0 ∧ lastE (sizeD d) ws' = want)), ?_, ?_⟩
    · refine ⟨fun want named k w' => ∃ (m : Nat) (zs : List Int), k = m ∧ m ≤ ws.length ∧ St w' (Row EW T.y_api_Write l5 (fillW ws m) :: Row EI T.y_int named zs :: WalS u g ⟨seq, false, commits⟩ :: DskS g d :: Row ET T.y_string hl (homeL d.l) :: X) ∧ ((want = 0 ∧ zs = nextT (keysW ((fillW ws m).take m)) ∧ ∀ y ∈ (fillW ws m).take m, badW (sizeD d) y = 0) ∨ (want ≠ 0 ∧ lastE (sizeD d) (fillW ws m) = want)),
        fun _ _ k _ => ((ws.length : Int) - k).toNat, ⟨0, [], rfl, Nat.zero_le _, by rw [fillW_zero]; exact (h6.row0 EI T.y_int).sw, .inl ⟨rfl, nextT_nil.symm, fun y hy => by simp at hy⟩⟩, ?_⟩
      rintro want named _ w7 ⟨j, zs, rfl, hj, h7, hor⟩
      refine ⟨fun hlt => ⟨fun hw0 => ?_, fun hw0 => ?_⟩, fun hge => ?_⟩
      · have hlt : j < ws.length := by have := (h7.has (by decide)).1; rw [fillW_len] at this; omega
        rcases hor with ⟨_, hz, hok⟩ | ⟨h, _⟩
        case inr => exact absurd hw0 h
        subst hw0
        have hat := fillW_at ws hlt
        obtain ⟨b, hb, hbl, c0, c1⟩ := Has.wr (h7.has (by decide)) (m := j) (by rw [fillW_len]; exact hlt)
        have ex : (fillW ws j)[j]'(by rw [fillW_len]; exact hlt) = ws[j] := (List.getElem?_eq_some_iff.1 hat).2
        rw [ex] at c0 c1
        refine ⟨fun w' => St w' (Row EW T.y_api_Write l5 (fillW ws (j + 1)) :: Row EI T.y_int named zs :: WalS u g ⟨seq, false, commits⟩ :: DskS g d :: Row ET T.y_string hl (homeL d.l) :: X), ⟨b, hb, by omega, by omega, _, c1, fun hsm => ?_, fun hbig => ?_⟩, ?_⟩
        · rw [tx_size] at hsm
          have hsm : ws[j].2.length < 60 := by omega
          refine ⟨b, hb, by omega, by omega, _, c1, fill_st h7 (by omega) fun w8 h8 => ?_⟩
          obtain ⟨k1, k2⟩ := St.setW h8 hat (fillS ws[j].2) hb
          refine ⟨b, hb, by omega, by omega, k1, ?_⟩
          intro w9
          have h9 : St w9 _ := k2
          clear_value w9
          have e : (ws[j].1, fillS ws[j].2) = fill1 ws[j] := by unfold fill1; rw [if_pos hsm]
          rw [e, fillW_succ ws hlt] at h9
          exact h9
        · rw [tx_size] at hbig
          have e : fillW ws (j + 1) = fillW ws j := by
            rw [← fillW_succ ws hlt]
            unfold fill1
            rw [if_neg (by omega)]
            apply List.ext_getElem?
            intro i
            by_cases h : i = j
            · subst h; rw [List.getElem?_set_self (by rw [fillW_len]; exact hlt), hat]
            · rw [List.getElem?_set_ne (Ne.symm h)]
          show St w7 _
          rw [e]; exact h7
        intro w8 h8
        have hat1 := fillW_at1 ws hlt
        have ht1 := fillW_take1 ws hlt
        have ht2 := fillW_take2 ws hlt
        rw [← ht2] at hok hz ht1
        obtain ⟨b', hb', hbl', c0, c1⟩ := Has.wr (h8.has (by decide)) (m := j) (by rw [fillW_len]; exact hlt)
        rw [hb] at hb'
        injection hb' with hb'
        subst hb'
        have ex1 : (fillW ws (j + 1))[j]'(by rw [fillW_len]; exact hlt) = fill1 ws[j] := (List.getElem?_eq_some_iff.1 hat1).2
        rw [ex1] at c0 c1
        have hfl := fillW_len ws (j + 1)
        have hzl : zs.length ≤ 6000 := by
          rw [hz]
          have := nextT_len (keysW ((fillW ws (j + 1)).take j))
          simp only [keysW, List.length_map, List.length_take] at this ⊢
          omega
        have fin : ∀ (want : Int) (named : Sl) (zs : List Int) (w' : World), St w' (Row EW T.y_api_Write l5 (fillW ws (j + 1)) :: Row EI T.y_int named zs :: WalS u g ⟨seq, false, commits⟩ :: DskS g d :: Row ET T.y_string hl (homeL d.l) :: X) → ((want = 0 ∧ zs = nextT (keysW ((fillW ws (j + 1)).take (j + 1))) ∧ ∀ y ∈ (fillW ws (j + 1)).take (j + 1), badW (sizeD d) y = 0) ∨ (want ≠ 0 ∧ lastE (sizeD d) (fillW ws (j + 1)) = want)) →
            (∃ (m : Nat) (zs : List Int), w64 ((j : Int) + 1) = m ∧ m ≤ ws.length ∧ St w' (Row EW T.y_api_Write l5 (fillW ws m) :: Row EI T.y_int named zs :: WalS u g ⟨seq, false, commits⟩ :: DskS g d :: Row ET T.y_string hl (homeL d.l) :: X) ∧ ((want = 0 ∧ zs = nextT (keysW ((fillW ws m).take m)) ∧ ∀ y ∈ (fillW ws m).take m, badW (sizeD d) y = 0) ∨ (want ≠ 0 ∧ lastE (sizeD d) (fillW ws m) = want))) ∧ ((ws.length : Int) - w64 ((j : Int) + 1)).toNat < ((ws.length : Int) - (j : Int)).toNat := fun want named zs w' hw hor => by
          rw [w64_succ (by omega)]
          exact ⟨⟨j + 1, zs, rfl, hlt, hw, hor⟩, by omega⟩
        refine ⟨fun v w' => w' = w8 ∧ v = decide ((fill1 ws[j]).1 < 0 ∨ (hl.len : Int) ≤ (fill1 ws[j]).1), ⟨b, hb, by omega, by omega, _, c0, fun hneg => ⟨rfl, by simp [hneg]⟩, fun hneg => ⟨b, hb, by omega, by omega, _, c0, rfl, by simp [hneg]⟩⟩, ?_⟩
        rintro v w9 ⟨rfl, rfl⟩
        refine ⟨fun hv => ?_, fun hv => ⟨b, hb, by omega, by omega, _, c1, fun hne => ?_, fun heq => ⟨b, hb, by omega, by omega, _, c0, Put_st h8.sw (by omega) fun l6 w10 h10 => ?_⟩⟩⟩
        · have hv := of_decide_eq_true hv
          have e : badW (sizeD d) (fill1 ws[j]) = 15 := by unfold badW; rw [if_pos (by omega)]
          exact fin 15 named zs _ h8 (.inr ⟨by decide, by rw [lastE_bad hok hat1 (by rw [e]; decide), e]⟩)
        · have hv := of_decide_eq_false hv
          rw [tx_size] at hne
          have e : badW (sizeD d) (fill1 ws[j]) = 1 := by unfold badW; rw [if_neg (by omega), if_pos (by omega)]
          exact fin 1 named zs _ h8 (.inr ⟨by decide, by rw [lastE_bad hok hat1 (by rw [e]; decide), e]⟩)
        · have hv := of_decide_eq_false hv
          rw [tx_size] at heq
          refine fin 0 l6 _ _ h10.sw (.inl ⟨rfl, ?_, fun y hy => ?_⟩)
          · rw [hz, nextT_snoc, ht1]
            simp [keysW]
          · rw [ht1] at hy
            rcases List.mem_append.1 hy with hy | hy
            · exact hok y hy
            · simp only [List.mem_cons, List.not_mem_nil, or_false] at hy
              subst hy
              unfold badW; rw [if_neg (by omega), if_neg (by omega)]
      · rcases hor with ⟨h, _⟩ | h
        · exact absurd h hw0
        · exact ⟨_, zs, fillW_len ws j, h7, .inr h⟩
      · have hjj : j = ws.length := by have := (h7.has (by decide)).1; rw [fillW_len] at this; omega
        rw [List.take_of_length_le (by rw [fillW_len]; omega)] at hor
        exact ⟨_, zs, fillW_len ws j, h7, hor⟩
    rintro want named w7 ⟨ws', zs, hl', h7, hor⟩
    have hnl := (h7.sw.has (by decide)).1
    refine ⟨fun want2 w' => w' = w7 ∧ lastE (sizeD d) ws' = want2, ?_, ?_⟩
    · refine ⟨fun b w' => w' = w7 ∧ b = decide (want = 0 ∧ 110 < zs.length), ⟨fun h0 => ⟨rfl, ?_⟩, fun h0 => ⟨rfl, ?_⟩⟩, ?_⟩
      · rw [Bool.eq_iff_iff]
        simp only [decide_eq_true_eq]
        omega
      · rw [decide_eq_false (fun h => h0 h.1)]
      · rintro b w' ⟨rfl, rfl⟩
        refine ⟨fun hb => ⟨rfl, ?_⟩, fun hb => ⟨rfl, ?_⟩⟩
        · have hb := of_decide_eq_true hb
          rcases hor with ⟨_, hz, hok⟩ | ⟨h, _⟩
          · rw [lastE_none hok, ← hz, if_pos hb.2]
          · exact absurd hb.1 h
        · have hb := of_decide_eq_false hb
          rcases hor with ⟨h0, hz, hok⟩ | ⟨_, h⟩
          · rw [lastE_none hok, ← hz, if_neg (fun h => hb ⟨h0, h⟩), h0]
          · exact h
    rintro _ w8 ⟨rfl, rfl⟩
    have hnil5 : NilOk l5 := fun ha => (Own.isNil h7.own ha).1
    have h8 : St w8 (Row EW T.y_api_Write l5 ws' :: WalS u g ⟨seq, false, commits⟩ :: DskS g d :: Row ET T.y_string hl (homeL d.l) :: X) := h7.d2
    refine LentW_st h8 (h8.has (by decide)) hnil5 (by omega) fun l2 w9 h9 hcap => ?_
    have h10 := h9.up3.up3
    refine Commit_q h10 hq (fun w' hw => Has.pre (hw.has (by decide)) _) (by omega) hs0 (by omega) ⟨hc0, by omega⟩ (by omega) (fun w10 hne h11 => ?_) (fun d' w10 hE q1 q2 q3 q4 q5 h11 => ?_) fun hE hne ha seq' l' many w10 s1 s2 s3 s4 h11 => ?_
    · refine StaysW_st h11.up2 (fun w' hw => hw.up2.has (by decide)) (by omega) (by omega) fun w11 h12 => ⟨fun h => (by cases h), fun _ => ⟨fun _ => ⟨fun h => absurd rfl h, fun _ => ⟨u, d, commits, rfl, ?_, hq, hdl, hs0, by omega, hc0, by omega, by omega⟩⟩, fun h => absurd h hne⟩⟩
      exact h12.drop.d3
    · refine StaysW_st h11.up2 (fun w' hw => hw.up2.has (by decide)) (by omega) (by omega) fun w11 h12 => ⟨fun h => (by cases h), fun _ => ⟨fun h => absurd hE h, fun _ => ⟨fun _ => ?_, fun h => absurd rfl h⟩⟩⟩
      have h13 := h12.drop
      have hok := (lastE_zero hE).1
      have hl5 := (h8.has (by decide)).1
      refine after_st h13 (h13.up3.has (by decide)) (fun ha => (Own.isNil h13.up3.own ha).1) (by omega) (fun w' hw => hw.up2.has (by decide)) (by omega) (fun x hx => by have := hok x hx; omega) fun l8 w12 h14 => ?_
      refine ⟨fun v w' => w' = w12 ∧ v = if ws' = [] then seq else seq + 1, ⟨fun hpos => ⟨rfl, ?_⟩, fun hz => ⟨rfl, ?_⟩⟩, ?_⟩
      · have : ws' ≠ [] := fun e => by subst e; simp at hl5; omega
        rw [if_neg this, w64_id (by omega) (by omega)]
      · have : ws' = [] := List.eq_nil_of_length_eq_zero (by omega)
        rw [if_pos this]
      rintro _ w13 ⟨rfl, rfl⟩
      refine Seq_st h14.drop ⟨fun h => absurd rfl h, fun _ => ⟨u, d', if ws' = [] then commits else commits + 1, rfl, ?_, q1, by omega, by split <;> omega, by split <;> omega, by split <;> omega, by split <;> omega, by omega⟩⟩
      rw [q3]
      exact h14.up2.up2.d4.d4
    · refine StaysW_st h11.up2 (fun w' hw => hw.up2.has (by decide)) (by omega) (by omega) fun w11 h12 => ⟨fun h => (by cases h), fun _ => ⟨fun h => absurd hE h, fun _ => ⟨fun h => (by cases h), fun _ => ⟨fun _ => ?_, fun h => absurd rfl h⟩⟩⟩⟩
      have h13 := h12.drop
      have hok := (lastE_zero hE).1
      refine On_st h13.sw ⟨fun _ => ?_, fun h => (by cases h)⟩
      refine ⟨fun b w' => b = false ∧ w' = w11, Up_st h13 ⟨fun h => (by cases h), fun _ => Commit_down h13 rfl ⟨rfl, rfl⟩⟩, ?_⟩
      rintro _ w13 ⟨rfl, rfl⟩
      refine ⟨fun h => (by cases h), fun _ => ?_⟩
      have hO : Opn (offD l' many) (seq + 1) := ⟨s1, rfl, rfl, s4.1⟩
      have hsq : 0 ≤ (hdOf l').seq ∧ (hdOf l').seq ≤ seq + 1 := s1.seq
      refine again_st h13.sw rfl hO (by omega) (by show many < _; omega) fun u2 d2 w14 q1 q2 q3 q4 q5 h14 => ⟨fun h => (by cases h), fun _ => ?_⟩
      have q2 : d2.l.length = l'.length := q2
      have q3 : homeL d2.l = homeL l' := q3
      have q4 : d2.many ≤ many + 300 := q4
      have q1 : Quiet d2 (hdOf l').seq := q1
      have h14 : St w14 (WalS u2 g ⟨(hdOf l').seq, false, 0⟩ :: DskS g d2 :: _) := h14
      have hhl3 : (homeL d2.l).length = n - 111 := by rw [homeL_len, q2, s2, hdl]
      refine ⟨fun hl3 w' => St w' (WalS u2 g ⟨(hdOf l').seq, false, 0⟩ :: DskS g d2 :: Row ET T.y_string hl3 (homeL d2.l) :: X), is_st h14 rfl q1 hsq.1 (h14.up4.has (by decide)) (by omega) ⟨fun hf => ?_, fun ht => ?_⟩, ?_⟩
      · have hf := of_decide_eq_false hf
        have e : homeL d2.l = setAll (homeL d.l) ws' := by
          rw [q3]
          rw [q3] at hf
          exact s3.resolve_left hf
        refine after_st h14 (h14.up4.has (by decide)) (fun ha => (Own.isNil h14.up4.own ha).1) (by omega) (fun w' hw => hw.up3.has (by decide)) (by omega) (fun x hx => by have := hok x hx; omega) fun l9 w15 h15 => ?_
        rw [← e] at h15
        exact h15.up2.up2.d4.d4.d4
      · have ht := of_decide_eq_true ht
        rw [ht]
        exact h14.d3.d3
      intro hl3 w15 h15
      exact Seq_st h15 ⟨u2, d2, 0, rfl, h15, q1, by omega, hsq.1, by show (hdOf l').seq ≤ (m : Int) + 1; omega, Int.le_refl _, by omega, by omega⟩
  · -- the power goes
    refine ⟨_, h5.cell 3, Crash_st h5.up2 hq.off (fun w' hw => (hin w' hw.drop.drop.drop).2.2) fun k ys w6 hys h6 => ?_⟩
    rw [hq.ws] at hys
    have := List.sublist_nil.1 hys
    subst this
    have hO : Opn (fallD d [] d.many) seq := ⟨by show Snd (setAll d.safe []) _; rw [hq.safe]; exact (hq.opn hs0).snd, rfl, rfl, hmany⟩
    have el : (fallD d [] d.many).l = d.l := hq.safe
    refine again_st h6 rfl hO (by omega) (by show d.many < _; omega) fun u2 d2 w7 q1 q2 q3 q4 q5 h7 => ?_
    rw [el, hq.hd] at q1 h7
    rw [el] at q2 q3
    refine ⟨u2, d2, 0, rfl, ?_, q1, by omega, hs0, by omega, Int.le_refl _, by omega, ?_⟩
    · rw [q3]; exact h7.d3.d3
    · have : d2.many ≤ d.many + 300 := q4
      omega
  · -- the power is armed
    refine ⟨_, h5.cell 1, _, h5.cell 3, Arm_st h5.up2 (hin _ h5.drop.drop.drop.drop).2.2 (by have := (hin _ h5.drop.drop.drop.drop).2.2.1; omega) fun w6 h6 => ?_⟩
    refine ⟨u, { d with armed := decide (0 ≤ imin (imax os[m].a 0) 60) }, commits, rfl, ?_, ⟨hq.off, hq.safe, hq.ws, hq.lo, hq.hi, hq.head, hq.hlen, hq.many, hq.secs⟩, hdl, hs0, by omega, hc0, by omega, by show d.many ≤ _; omega⟩
    exact h6.d2.sw
  · -- opened anew
    refine Open_quiet h5.up2 hq fun u2 w6 h6 => ⟨fun p w' => p = some (blk u2) ∧ w' = w6, ⟨fun h => absurd rfl h, fun _ => ⟨rfl, rfl⟩⟩, ?_⟩
    rintro _ _ ⟨rfl, rfl⟩
    exact ⟨u2, d, 0, rfl, h6.d3.d3, hq, hdl, hs0, by omega, Int.le_refl _, by omega, by omega⟩
  · rintro _ hl2 seq2 w6 ⟨u2, d2, commits2, rfl, h6, hq2, hdl2, r1, r2, r3, r4, r5⟩
    have hhl2 : (homeL d2.l).length = n - 111 := by rw [homeL_len, hdl2]
    have hll := (h6.up2.has (by decide)).1
    refine ⟨fun b w' => b = false ∧ w' = w6, ⟨fun h => (by cases h), fun _ => is_st h6 rfl hq2 r1 (h6.up2.has (by decide)) rfl ?_⟩, ?_⟩
    · rw [decide_eq_true rfl]
      exact ⟨fun h => (by cases h), fun _ => Up_st h6 ⟨rfl, rfl⟩⟩
    rintro _ w7 ⟨rfl, rfl⟩
    have fin : (∃ (m' : Nat) (u : Nat) (d : Ds) (commits : Int), w64 ((m : Int) + 1) = m' ∧ m' ≤ os.length ∧ some (blk u2) = some (blk u) ∧ St w7 (WalS u g ⟨seq2, false, commits⟩ :: DskS g d :: Row ET T.y_string hl2 (homeL d.l) :: X) ∧ Quiet d seq2 ∧ d.l.length = n ∧ 0 ≤ seq2 ∧ seq2 ≤ m' ∧ 0 ≤ commits ∧ commits ≤ m' ∧ d.many ≤ 1000 * m') ∧ ((os.length : Int) - w64 ((m : Int) + 1)).toNat < ((os.length : Int) - (m : Int)).toNat := by
      rw [w64_succ (by omega)]
      exact ⟨⟨m + 1, u2, d2, commits2, rfl, hlt, rfl, h6, hq2, hdl2, r1, by omega, r3, by omega, by omega⟩, by omega⟩
    refine ⟨fun h => (by cases h), fun _ => Read_q h6 rfl hq2 r1 (fun h0 h1 => ?_) fun hr t => ?_⟩
    · refine ⟨fun _ => ⟨fun h => ?_, fun _ => fin⟩, fun h => absurd h0 h⟩
      rw [decide_eq_true (show at_ < (hl2.len : Int) by omega)] at h
      cases h
    · refine ⟨fun h0 => ⟨fun h => ?_, fun _ => fin⟩, fun _ => ⟨fun h => (by cases h), fun _ => fin⟩⟩
      rw [decide_eq_false (show ¬ at_ < (hl2.len : Int) by omega)] at h
      cases h
end
theorem WalPlays_spec {w : World} {n at_ : Int} {l : Sl} {lZ : List OpV} (hl : OpsIn w l lZ) {R : Bool → World → Prop} (hR : ∀ w', Below w.heap.size w w' → R true w') : F.masonrylaw9_WalPlays n l at_ w R :=
  WalPlays_st (St.start w) (fun w' h => hl.fr (St.old h)) fun w' h => hR w' (St.old h)
end Go.Proofs.YtepclihkniaieaaGreatDoor
