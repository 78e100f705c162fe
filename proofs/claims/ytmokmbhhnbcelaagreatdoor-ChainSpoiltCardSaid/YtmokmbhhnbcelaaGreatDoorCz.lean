/- ChainSpoilt: the walk. -/
import Derived.Test.YtmokmbhhnbcelaaGreatDoorCy
import Derived.Test.YtmokmbhhnbcelaaGreatDoorCu
set_option linter.unusedVariables false
namespace Go.Proofs.YtmokmbhhnbcelaaGreatDoor
open Go Go.Vc Go.RowKit Go.Lib

section
variable {w : World} {X : List As}
set_option maxHeartbeats 4000000 in
theorem ChainSpoilt_st (h : St w X) {a b : Bs} {more at_ by_ : Int} {swap : Bool} (hat : at_ < 9223372036854775808) {R : Bool → World → Prop} (hR : ∀ w', St w' X → R true w') : F.masonrylaw12_ChainSpoilt (tx a) (tx b) more at_ by_ swap w R := by
  apply E.masonrylaw12_ChainSpoilt
  unfold V.masonrylaw12_ChainSpoilt
  try simp (config := { zeta := false }) only [cnd_all, Nat.reduceAdd]
  refine ⟨fun v w' => St w' X ∧ (v = false → a.length ≤ 400 ∧ b.length ≤ 400 ∧ 0 ≤ more ∧ more ≤ 900 ∧ 0 ≤ at_), ?_, ?_⟩
  · refine ⟨fun _ => ⟨h, fun h => (by cases h)⟩, fun h1 => ⟨fun _ => ⟨h, fun h => (by cases h)⟩, fun h2 => ⟨fun _ => ⟨h, fun h => (by cases h)⟩, fun h3 => ⟨fun _ => ⟨h, fun h => (by cases h)⟩, fun h4 => ⟨fun _ => ⟨h, fun h => (by cases h)⟩, fun h5 => alive12_spec h fun w1 hw => ⟨hw, fun _ => ?_⟩⟩⟩⟩⟩⟩
    omega
  rintro v w1 ⟨h1, hv⟩
  refine ⟨fun _ => alive12_spec h1 hR, fun hv0 => ?_⟩
  obtain ⟨ha, hb, hm0, hm1, ha0⟩ := hv hv0
  obtain ⟨more, rfl⟩ := Int.eq_ofNat_of_zero_le hm0
  obtain ⟨at_, rfl⟩ := Int.eq_ofNat_of_zero_le ha0
  have hf : freeN (fmt0 250).bs = 137 := by rw [fmt0_bs, freeN_bs0 (by decide)]
  have hbl0 : (fmt0 250).bs.length = 139 := by rw [fmt0_bs, bs0_len]
  refine Fresh_st h1 (n := 250) (by decide) (by decide) fun k g w2 h2 => ⟨fun h => (by cases h), fun _ => Zeros_st h2 (n := more) (by omega) fun w3 h3 => ⟨by rw [tx_size, tx_size]; simp; omega, ?_⟩⟩
  rw [tx_app]
  have hal : (a ++ List.replicate more 0).length ≤ 1300 := by simp; omega
  generalize a ++ List.replicate more 0 = a at *
  have hna : 1 ≤ needN a.length ∧ needN a.length ≤ 6 := by unfold needN; split <;> omega
  have hnb : 1 ≤ needN b.length ∧ needN b.length ≤ 6 := by unfold needN; split <;> omega
  have h00 : (fmt0 250).bs.getD 0 false = true := (DeskS.ok h3).u0
  have h01 : (fmt0 250).bs.getD 1 false = true := (DeskS.ok h3).u1
  refine Put_chain h3 (by decide) (by decide) (by omega) (by decide) (fun w4 hlf _ => by omega) fun w4 hle h4 => ?_
  have hbs1 := putS_bs (D := fmt0 250) (gen := 2) (tag := 7) (b := a) (n := needN a.length) (needN a.length)
  have hfr1 := freeN_take (bs := (fmt0 250).bs) (j := needN a.length) (by omega)
  have T := Two.puts (D := fmt0 250) (gen := 2) (tag := 7) (gen' := 2) (tag' := 8) (a := a) (b := b) (by decide) (by decide) (by decide) (by decide) (by omega) (by omega) (by omega) h00 (by omega)
  have hp2 : ∀ i, i < needN a.length → 2 ≤ placeP (fmt0 250) (needN a.length) i ∧ placeP (fmt0 250) (needN a.length) i < 65536 ∧ usedB (takeN (fmt0 250).bs (needN a.length)) (placeP (fmt0 250) (needN a.length) i) = true := fun i hi => ⟨place_ok (by omega) h00 h01 hi, by have := placeP_range (fmt0 250) (needN a.length) i; omega, (place_used hi (by omega)).1⟩
  have hda := dataOf_put (D := fmt0 250) (gen := 2) (tag := 7) (b := a) (by omega) (n := needN a.length)
  generalize linkP (fmt0 250) 2 7 a (needN a.length) = Lx at *
  generalize placeP (fmt0 250) (needN a.length) = Px at *
  generalize hD1 : (putS (fmt0 250) 2 7 a (needN a.length) (needN a.length)).1 = D1 at *
  rw [← hbs1] at hp2 hfr1
  have hl1 : D1.bs.length = 139 := by rw [hbs1, takeN_len, hbl0]
  refine Put_chain h4 (by decide) (by decide) (by omega) (by decide) (fun w5 hlf _ => by omega) fun w5 hle2 h5 => ?_
  have hbs2 := putS_bs (D := D1) (gen := 2) (tag := 8) (b := b) (n := needN b.length) (needN b.length)
  have hpy := placeP_range D1 (needN b.length) 0
  have hdb := dataOf_put (D := D1) (gen := 2) (tag := 8) (b := b) (by omega) (n := needN b.length)
  have hn0 : (linkP D1 2 8 b (needN b.length) 0).number = 0 := rfl
  generalize linkP D1 2 8 b (needN b.length) = Ly at *
  generalize placeP D1 (needN b.length) = Py at *
  generalize (putS D1 2 8 b (needN b.length) (needN b.length)).1 = D at *
  have hu : ∀ i, i < needN a.length → usedB D.bs (Px i) = true := fun i hi => by
    have h1 := (hp2 i hi).2.2
    have h2 := hp2 i hi
    simp only [usedB, Bool.and_eq_true, decide_eq_true_eq] at h1 ⊢
    rw [hbs2, takeN_len]
    exact ⟨h1.1, h1.2.1, (take_get D1.bs _ (Px i).toNat (by omega)).2 (.inl h1.2.2)⟩
  have hpy2 : 0 ≤ Py 0 ∧ Py 0 < 65536 := by omega
  generalize needN a.length = na at *
  generalize needN b.length = nb at *
  have hPx0 := hp2 0 (by omega)
  refine Sectors_chn h5 T.cx T.hx (by omega) fun pl w6 h6 => ?_
  have hpl : pl.len = na := by have := (h6.has (by decide)).1; simpa using this
  refine ⟨fun v w' => w' = w6 ∧ v = false, ⟨fun h => absurd rfl h, fun _ => ⟨fun h => absurd rfl h, fun _ => ⟨fun h => absurd rfl h, fun _ => ⟨rfl, ?_⟩⟩⟩⟩, ?_⟩
  · simp; omega
  rintro v w7 ⟨rfl, rfl⟩
  refine ⟨fun h => (by cases h), fun _ => ?_⟩
  have em : (at_ : Int).tmod ((pl.len : Nat) : Int) = ((at_ % na : Nat) : Int) := by rw [hpl]; exact (Int.ofNat_tmod at_ na).symm
  have hi : at_ % na < na := Nat.mod_lt _ (by omega)
  have hdv : w64 ((at_ : Int).tdiv ((pl.len : Nat) : Int)) = ((at_ / na : Nat) : Int) := by
    rw [hpl]
    have : (at_ : Int).tdiv (na : Int) = ((at_ / na : Nat) : Int) := (Int.ofNat_tdiv at_ na).symm
    rw [this]
    have h2 : at_ / na ≤ at_ := Nat.div_le_self _ _
    generalize at_ / na = q at *
    exact w64_id (by omega) (by omega)
  rw [em, hdv]
  have emk : ((at_ / na : Nat) : Int).tmod 256 = ((at_ / na % 256 : Nat) : Int) := (Int.ofNat_tmod (at_ / na) 256).symm
  have hkm : at_ / na % 256 < 256 := Nat.mod_lt _ (by decide)
  rw [emk]
  generalize at_ % na = i at *
  generalize at_ / na % 256 = kk at *
  obtain ⟨ad, had, hal2, hc⟩ := (h6.has (by decide)).at (j := i) (by simpa using hi)
  have hc0 := hc 0 (.int .i64 (Px i)) (by simp [EI])
  rw [Vc.addr_add0] at hc0
  have hpi := hp2 i hi
  obtain ⟨gx1, gx2⟩ := T.hx i hi
  have hLx := T.cx.ok i hi
  have hll := layLk_len hLx
  have hne : ((pl.len : Nat) : Int) ≠ 0 := by omega
  refine ⟨hne, ad, had, by omega, by omega, _, by simpa [EI] using hc0, Get_st h6.drop (by omega) ?_⟩
  rw [gx1, gx2]
  refine ⟨fun v w' => w' = w7 ∧ v = false, ⟨fun h => absurd rfl h, fun _ => ⟨rfl, ?_⟩⟩, ?_⟩
  · rw [tx_size, hll]; rfl
  rintro v w8 ⟨rfl, rfl⟩
  refine ⟨fun h => (by cases h), fun _ => ⟨fun hsw => ?_, fun hsw => ?_⟩⟩
  · -- one is the other's first
    obtain ⟨gy1, gy2⟩ := T.hy 0 (by omega)
    have hLy := T.cy.ok 0 (by omega)
    refine Get_st h6.drop (by omega) ?_
    rw [gy1, gy2]
    refine ⟨fun v w' => v = false ∧ St w' (DeskS k g (1001 + 40 + 40 + 1) (setD D (Px i) (layLk (Ly 0))) :: X), ⟨fun h => absurd rfl h, fun _ => Set_st h6.drop (by decide) (by rw [layLk_len hLy]; decide) (fun hor => ?_) (fun _ _ hl => absurd (layLk_len hLy) hl) fun w9 _ _ _ h9 => ⟨rfl, h9⟩⟩, ?_⟩
    · rcases hor with h | h
      · omega
      · rw [hu i hi] at h; cases h
    rintro v w9 ⟨rfl, h9⟩
    refine ⟨fun h => (by cases h), fun _ => ?_⟩
    by_cases h0 : i = 0
    · subst h0
      obtain ⟨Pz, hz0, hcz, hhz⟩ := T.swap0
      have hyy := T.other hi (layLk (Ly 0))
      rw [← hz0]
      rw [← hz0] at h9 hhz hyy
      refine Get_chn h9 hcz hhz (by rw [hz0]; omega) fun w10 h10 => ?_
      intro wa1
      replace h10 : St wa1 (Cs _ _ _ :: _) := h10.new _ _
      clear_value wa1
      refine ⟨h10.wr0 (by simp), ?_⟩
      intro wa2
      replace h10 : St wa2 _ := h10.set0 _
      clear_value wa2
      refine ⟨h10.wr (by simp), ?_⟩
      intro wa3
      replace h10 : St wa3 _ := h10.set 1 _
      clear_value wa3
      refine ⟨h10.wr (by simp), ?_⟩
      intro wa4
      replace h10 : St wa4 _ := h10.set 2 _
      clear_value wa4
      refine ⟨h10.wr (by simp), ?_⟩
      intro wa5
      replace h10 : St wa5 _ := h10.set 3 _
      clear_value wa5
      simp only [List.set_cons_zero, List.set_cons_succ] at h10
      refine ⟨hne, fun _ => ?_, fun h => absurd (by rfl) h⟩
      refine Get_chn h10.sw T.cy hyy hpy2 fun w11 h11 => ?_
      intro wa6
      replace h11 : St wa6 (Cs _ _ _ :: _) := h11.new _ _
      clear_value wa6
      refine ⟨h11.wr0 (by simp), ?_⟩
      intro wa7
      replace h11 : St wa7 _ := h11.set0 _
      clear_value wa7
      refine ⟨h11.wr (by simp), ?_⟩
      intro wa8
      replace h11 : St wa8 _ := h11.set 1 _
      clear_value wa8
      refine ⟨h11.wr (by simp), ?_⟩
      intro wa9
      replace h11 : St wa9 _ := h11.set 2 _
      clear_value wa9
      refine ⟨h11.wr (by simp), ?_⟩
      intro wa10
      replace h11 : St wa10 _ := h11.set 3 _
      clear_value wa10
      simp only [List.set_cons_zero, List.set_cons_succ] at h11
      have q := h11.up2
      refine ⟨fun _ => ⟨_, q.cell0, _, q.cell 1, _, q.cell 2, _, q.cell 3, _, h11.cell0, _, h11.cell 1, _, h11.cell 2, _, h11.cell 3, ?_⟩, fun h => absurd rfl h⟩
      have hh := hR _ h11.drop.drop.drop
      simpa [tx_eq] using hh
    · have hb := T.swap1 hi (by omega) hn0
      refine Get_none h9 (by omega) hb fun w10 h10 => ?_
      intro wa11
      replace h10 : St wa11 (Cs _ _ _ :: _) := h10.new _ _
      clear_value wa11
      refine ⟨h10.wr0 (by simp), ?_⟩
      intro wa12
      replace h10 : St wa12 _ := h10.set0 _
      clear_value wa12
      refine ⟨h10.wr (by simp), ?_⟩
      intro wa13
      replace h10 : St wa13 _ := h10.set 1 _
      clear_value wa13
      refine ⟨h10.wr (by simp), ?_⟩
      intro wa14
      replace h10 : St wa14 _ := h10.set 2 _
      clear_value wa14
      refine ⟨h10.wr (by simp), ?_⟩
      intro wa15
      replace h10 : St wa15 _ := h10.set 3 _
      clear_value wa15
      simp only [List.set_cons_zero, List.set_cons_succ] at h10
      refine ⟨hne, fun hx => absurd (by omega) h0, fun _ => ⟨fun _ => ?_, fun h => absurd rfl h⟩⟩
      refine ⟨_, h10.cell0, _, h10.cell 1, _, h10.cell 2, _, h10.cell 3, ?_⟩
      exact hR _ h10.drop.drop
  · -- a byte is another one
    refine St.bytes h6 fun g2 cap w9 h9 => ⟨hne, by decide, blk g2, rfl, by omega, by show (kk : Int) < (((layLk (Lx i)).length : Nat) : Int); omega, _, by simpa using BzS.get h9 (k := kk) (by omega), blk g2, rfl, by omega, by show (kk : Int) < (((layLk (Lx i)).length : Nat) : Int); omega, ?_⟩
    have ek : ((kk : Int).toNat * 1) = kk := by simp
    rw [ek, xorB_eq]
    obtain ⟨k1, k2⟩ := BzS.set h9 (k := kk) (by omega) (xorB ((layLk (Lx i)).getD kk 0) by_)
    refine ⟨k1, ?_⟩
    intro w10
    have h10 : St w10 _ := k2
    clear_value w10
    refine BzS.str h10 (by simp) ?_
    have hcl : ((layLk (Lx i)).set kk (xorB ((layLk (Lx i)).getD kk 0) by_)).length = 256 := by rw [List.length_set, hll]
    have hz : wr .u8 by_ = 0 → (layLk (Lx i)).set kk (xorB ((layLk (Lx i)).getD kk 0) by_) = layLk (Lx i) := fun h0 => by
      rw [xorB_zero h0]
      have e : (layLk (Lx i)).getD kk 0 = (layLk (Lx i))[kk]'(by omega) := by simp [show kk < (layLk (Lx i)).length by omega]
      rw [e, List.set_getElem_self]
    have hnz : wr .u8 by_ ≠ 0 → (readLk ((layLk (Lx i)).set kk (xorB ((layLk (Lx i)).getD kk 0) by_))).2 = false := fun h0 => readLk_spoilt hLx hkm (xorB_ne h0)
    generalize (layLk (Lx i)).set kk (xorB ((layLk (Lx i)).getD kk 0) by_) = c at *
    refine Set_st h10.drop.drop (by decide) (by omega) (fun hor => ?_) (fun _ _ hl => absurd hcl hl) fun w11 _ _ _ h11 => ⟨fun h => absurd rfl h, fun _ => ?_⟩
    · rcases hor with h | h
      · omega
      · rw [hu i hi] at h; cases h
    have hyy := T.other hi c
    by_cases hw : wr .u8 by_ = 0
    · rw [hz hw] at h11 hyy
      refine Get_chn h11 T.cx (T.same hi) (by omega) fun w12 h12 => ?_
      rw [hda]
      intro wa16
      replace h12 : St wa16 (Cs _ _ _ :: _) := h12.new _ _
      clear_value wa16
      refine ⟨h12.wr0 (by simp), ?_⟩
      intro wa17
      replace h12 : St wa17 _ := h12.set0 _
      clear_value wa17
      refine ⟨h12.wr (by simp), ?_⟩
      intro wa18
      replace h12 : St wa18 _ := h12.set 1 _
      clear_value wa18
      refine ⟨h12.wr (by simp), ?_⟩
      intro wa19
      replace h12 : St wa19 _ := h12.set 2 _
      clear_value wa19
      refine ⟨h12.wr (by simp), ?_⟩
      intro wa20
      replace h12 : St wa20 _ := h12.set 3 _
      clear_value wa20
      simp only [List.set_cons_zero, List.set_cons_succ] at h12
      refine Get_chn h12.sw T.cy hyy hpy2 fun w13 h13 => ?_
      rw [hdb]
      intro wa21
      replace h13 : St wa21 (Cs _ _ _ :: _) := h13.new _ _
      clear_value wa21
      refine ⟨h13.wr0 (by simp), ?_⟩
      intro wa22
      replace h13 : St wa22 _ := h13.set0 _
      clear_value wa22
      refine ⟨h13.wr (by simp), ?_⟩
      intro wa23
      replace h13 : St wa23 _ := h13.set 1 _
      clear_value wa23
      refine ⟨h13.wr (by simp), ?_⟩
      intro wa24
      replace h13 : St wa24 _ := h13.set 2 _
      clear_value wa24
      refine ⟨h13.wr (by simp), ?_⟩
      intro wa25
      replace h13 : St wa25 _ := h13.set 3 _
      clear_value wa25
      simp only [List.set_cons_zero, List.set_cons_succ] at h13
      refine ⟨fun v w' => v = false ∧ w' = wa25, ⟨fun h => absurd rfl h, fun _ => ⟨_, h13.cell 3, ?_⟩⟩, ?_⟩
      · rw [tx_eq]; simp
      rintro v w14 ⟨rfl, rfl⟩
      refine ⟨fun h => (by cases h), fun _ => ⟨fun _ => ⟨fun _ => ⟨_, h13.up2.cell 3, ?_⟩, fun h => absurd rfl h⟩, fun h => absurd hw h⟩⟩
      rw [tx_eq, decide_eq_true rfl]
      exact hR _ h13.drop.drop.drop
    · have hbad := T.bad hi (t := c) (by rw [hnz hw]; rfl)
      refine Get_none h11 (by omega) hbad fun w12 h12 => ?_
      intro wa26
      replace h12 : St wa26 (Cs _ _ _ :: _) := h12.new _ _
      clear_value wa26
      refine ⟨h12.wr0 (by simp), ?_⟩
      intro wa27
      replace h12 : St wa27 _ := h12.set0 _
      clear_value wa27
      refine ⟨h12.wr (by simp), ?_⟩
      intro wa28
      replace h12 : St wa28 _ := h12.set 1 _
      clear_value wa28
      refine ⟨h12.wr (by simp), ?_⟩
      intro wa29
      replace h12 : St wa29 _ := h12.set 2 _
      clear_value wa29
      refine ⟨h12.wr (by simp), ?_⟩
      intro wa30
      replace h12 : St wa30 _ := h12.set 3 _
      clear_value wa30
      simp only [List.set_cons_zero, List.set_cons_succ] at h12
      refine Get_chn h12.sw T.cy hyy hpy2 fun w13 h13 => ?_
      rw [hdb]
      intro wa31
      replace h13 : St wa31 (Cs _ _ _ :: _) := h13.new _ _
      clear_value wa31
      refine ⟨h13.wr0 (by simp), ?_⟩
      intro wa32
      replace h13 : St wa32 _ := h13.set0 _
      clear_value wa32
      refine ⟨h13.wr (by simp), ?_⟩
      intro wa33
      replace h13 : St wa33 _ := h13.set 1 _
      clear_value wa33
      refine ⟨h13.wr (by simp), ?_⟩
      intro wa34
      replace h13 : St wa34 _ := h13.set 2 _
      clear_value wa34
      refine ⟨h13.wr (by simp), ?_⟩
      intro wa35
      replace h13 : St wa35 _ := h13.set 3 _
      clear_value wa35
      simp only [List.set_cons_zero, List.set_cons_succ] at h13
      refine ⟨fun v w' => v = false ∧ w' = wa35, ⟨fun h => absurd rfl h, fun _ => ⟨_, h13.cell 3, ?_⟩⟩, ?_⟩
      · rw [tx_eq]; simp
      rintro v w14 ⟨rfl, rfl⟩
      refine ⟨fun h => (by cases h), fun _ => ⟨fun h => absurd h hw, fun _ => Refs_bad h13.drop (by omega) hbad fun w15 h15 => Sectors_bad h15 (by omega) hbad fun pl2 w16 h16 => ⟨fun _ => ?_, fun h => absurd rfl h⟩⟩⟩
      have q := h16.sw
      refine ⟨_, q.cell0, _, q.cell 1, _, q.cell 2, _, q.cell 3, fun _ => ⟨fun _ => ⟨fun _ => Drop_bad h16 (by omega) hbad fun w17 h17 => hR _ h17.drop.drop, fun h => absurd rfl h⟩, fun h => absurd rfl h⟩, fun h => ?_⟩
      first
        | (have h2 : true = false := h; cases h2)
        | exact absurd ⟨rfl, rfl, rfl, rfl⟩ h
        | exact absurd rfl h
end
theorem ChainSpoilt_spec {w : World} {a b : Bs} {more at_ by_ : Int} {swap : Bool} (hat_ : at_ < 9223372036854775808) {R : Bool → World → Prop} (hR : ∀ w', Below w.heap.size w w' → R true w') : F.masonrylaw12_ChainSpoilt (tx a) (tx b) more at_ by_ swap w R :=
  ChainSpoilt_st (St.start w) hat_ fun w' h => hR w' (St.old h)
end Go.Proofs.YtmokmbhhnbcelaaGreatDoor
