/- TableKeeps: the walk. -/
import Derived.Test.YtmokmbhhnbcelaaGreatDoorTp
import Derived.Test.YtmokmbhhnbcelaaGreatDoorRd
set_option linter.unusedVariables false
namespace Go.Proofs.YtmokmbhhnbcelaaGreatDoor
open Go Go.Vc Go.RowKit Go.Lib

abbrev Nl := Sl × List Nm
def Lists (w : World) (l : Sl) (ls : List Nl) : Prop := Has (ES Nm) w l ls ∧ ∀ p ∈ ls, Has EN w p.1 p.2
theorem Lists.fr {w w' : World} {l : Sl} {ls : List Nl} (h : Lists w l ls) (hB : Below w.heap.size w w') : Lists w' l ls := ⟨h.1.fr (fr_below hB), fun p hp => (h.2 p hp).fr (fr_below hB)⟩
theorem Lists.at {w : World} {l : Sl} {ls : List Nl} (h : Lists w l ls) {m : Nat} (hm : m < ls.length) : ∃ ad, l.a = some ad ∧ m < l.len ∧ w.cell? (ad.add (m * 1)) = some (.slice ls[m].1.a ls[m].1.len ls[m].1.cap) := by
  obtain ⟨ad, ha, hl, hc⟩ := h.1.at hm
  have h0 := hc 0 _ rfl
  rw [Vc.addr_add0] at h0
  exact ⟨ad, ha, hl, h0⟩
section
variable {w : World} {X : List As}
theorem alive21_st (h : St w X) {R : Bool → World → Prop} (hR : ∀ w', St w' X → R true w') : F.masonrylaw21_alive w R := alive_spec fun w' hB => hR w' (h.below hB)
theorem RefLay_st (h : St w X) {sl : Sl} {ns : List Nm} (hx : Has EN w sl ns) (hb : ns.length ≤ 1000) (hl : ∀ n ∈ ns, n.1.length ≤ 2000) {R : ByteArray → Int → World → Prop} (hR : ∀ w', St w' X → R (tx (layNames ns).1) (layNames ns).2 w') : F.masonryref1_LayNames sl w R :=
  RefLay_spec (Has.names hx) (by omega) (fun n hn => by have := hl n hn; omega) fun w' hB => hR w' (h.below hB)
theorem lay_nil : (layNames []).2 = 0 := by decide +kernel
theorem Tab.lay {D : DkV} {gen at_ : Int} {ns : List Nm} {es : List Ent} (h : Tab D gen ns es at_) : (layNames ns).2 = 0 := by
  rcases h.or with ⟨_, r2, _⟩ | ⟨e, _, _, _, _, _, r6, _⟩
  · rw [r2]; exact lay_nil
  · exact r6
set_option maxHeartbeats 4000000 in
theorem TableKeeps_st (h : St w X) {gen : Int} {l : Sl} {ls : List Nl} (hx : ∀ w', St w' X → Lists w' l ls) {R : Bool → World → Prop} (hR : ∀ w', St w' X → R true w') : F.masonrylaw21_TableKeeps gen l w R := by
  apply E.masonrylaw21_TableKeeps
  unfold V.masonrylaw21_TableKeeps
  try simp (config := { zeta := false }) only [cnd_all, Nat.reduceAdd]
  have hs := (hx w h).1.1
  refine ⟨fun b w' => St w' X ∧ (b = false → ls.length ≤ 12 ∧ 1 ≤ gen ∧ gen ≤ 3), ⟨fun _ => ⟨h, fun h => (by cases h)⟩, fun h1 => ⟨fun _ => ⟨h, fun h => (by cases h)⟩, fun h2 => ⟨fun _ => ⟨h, fun h => (by cases h)⟩, fun h3 => alive21_st h fun w1 hw => ⟨hw, fun _ => by omega⟩⟩⟩⟩, ?_⟩
  rintro b w1 ⟨h1, hb⟩
  refine ⟨fun _ => alive21_st h1 hR, fun hbf => ?_⟩
  obtain ⟨hl12, hg1, hg2⟩ := hb hbf
  refine Fresh_st h1 (n := 150) (by decide) (by decide) fun k g w2 h2 => ⟨fun h => (by cases h), fun _ => ?_⟩
  have hH := Have.fmt (n := 150) (by decide) (by decide)
  have hb0 : (fmt0 150).bs.length = 39 := by rw [fmt0_bs, bs0_len]
  refine ⟨fun at_ hv i w' => ∃ (m c : Nat) (D : DkV) (es : List Ent) (ns : List Nm), i = ((m : Nat) : Int) ∧ m ≤ ls.length ∧ c ≤ 1001 + 40 * m ∧ Tab D gen ns es at_ ∧ D.bs.length = 39 ∧ ns.length ≤ 60 ∧ (∀ n ∈ ns, n.1.length ≤ 2000) ∧ St w' (Row EN T.y_masonryref1_Name hv ns :: DeskS k g c D :: X), fun _ _ i _ => ((ls.length : Int) - i).toNat, ⟨0, 1001, fmt0 150, [], [], rfl, Nat.zero_le _, by omega, ⟨hH, .inl ⟨rfl, rfl, rfl⟩⟩, hb0, by simp, by simp, h2.row0 EN T.y_masonryref1_Name⟩, ?_⟩
  rintro at_ hv i w3 ⟨m, c, D, es, ns, rfl, hm, hc, hT, hbl, hn60, hn2k, h3⟩
  refine ⟨fun hlt => ?_, fun hge => hR _ h3.drop.drop⟩
  have hlt : m < ls.length := by omega
  have L1 : ∀ {w'}, St w' X → ∃ ad, l.a = some ad ∧ m < l.len ∧ w'.cell? (ad.add (m * 1)) = some (.slice ls[m].1.a ls[m].1.len ls[m].1.cap) := fun hw => (hx _ hw).at hlt
  have L2 : ∀ {w'}, St w' X → Has EN w' ls[m].1 ls[m].2 := fun hw => (hx _ hw).2 _ (List.getElem_mem hlt)
  generalize ls[m] = p at *
  obtain ⟨sl, ms⟩ := p
  simp only at L1 L2
  obtain ⟨a1, ha1, hal1, c1⟩ := L1 h3.drop.drop
  refine ⟨a1, ha1, by omega, by omega, sl, c1, ?_⟩
  refine Light21_st h3 (fun w' hw => L2 hw.drop.drop) fun b w4 h4 hb => ⟨fun _ => hR _ h4.drop.drop, fun hbt => ?_⟩
  obtain ⟨hm60, hm2k⟩ := hb (by simpa using hbt)
  obtain ⟨a2, ha2, hal2, c2⟩ := L1 h4.drop.drop
  refine ⟨a2, ha2, by omega, by omega, sl, c2, ?_⟩
  refine plain_st h4 (fun w' hw => L2 hw.drop.drop) (by omega) fun o w5 h5 => ?_
  refine RefLay_st h5 (h5.has (by decide)) (by omega) hm2k fun w6 h6 => ?_
  have h6 := h6.drop
  obtain ⟨a3, ha3, hal3, c3⟩ := L1 h6.drop.drop
  refine ⟨a3, ha3, by omega, by omega, sl, c3, ?_⟩
  refine F.table_Put_mono (R := fun n1 n2 w' => n2 = (layNames ms).2 ∧ (n2 ≠ 0 → n1 = 0) ∧ ∃ (c' : Nat) (D' : DkV) (es' : List Ent), c' ≤ 1001 + 40 * (m + 1) ∧ Tab D' gen (if n2 = 0 then ms else ns) es' (if n2 = 0 then n1 else at_) ∧ D'.bs.length = 39 ∧ St w' (DeskS k g c' D' :: Row EN T.y_masonryref1_Name hv ns :: X)) ?_ ?_
  · refine Put_table h6.sw hT ⟨hg1, hg2⟩ (by omega) hbl (fun w' hw => L2 hw.drop) (by omega) hm2k (fun w7 hne h7 => ⟨rfl, fun _ => rfl, c, D, es, by omega, ?_, hbl, h7⟩) fun a D' es' w7 h0 hT' hb' h7 => ⟨h0.symm, fun h => absurd rfl h, c + 40, D', es', by omega, ?_, hb', h7⟩
    · rw [if_neg hne, if_neg hne]; exact hT
    · rw [if_pos rfl, if_pos rfl]; exact hT'
  rintro n1 n2 w7 ⟨e2, e1, c', D', es', hc', hT', hb', h7⟩
  subst e2
  refine ⟨fun v w' => w' = w7 ∧ v = false, ⟨fun h => absurd rfl h, fun _ => ⟨fun hne => ⟨rfl, by rw [e1 hne]; rfl⟩, fun _ => ⟨rfl, rfl⟩⟩⟩, ?_⟩
  rintro v w8 ⟨rfl, rfl⟩
  refine ⟨fun h => (by cases h), fun _ => ?_⟩
  refine ⟨fun at2 hv2 w' => ∃ ns2 : List Nm, Tab D' gen ns2 es' at2 ∧ ns2.length ≤ 60 ∧ (∀ n ∈ ns2, n.1.length ≤ 2000) ∧ St w' (DeskS k g c' D' :: Row EN T.y_masonryref1_Name hv2 ns2 :: X), ⟨fun h0 => ?_, fun hne => ?_⟩, ?_⟩
  · rw [if_pos h0, if_pos h0] at hT'
    obtain ⟨a4, ha4, hal4, c4⟩ := L1 h7.drop.drop
    refine ⟨a4, ha4, by omega, by omega, sl, c4, ?_⟩
    exact plain_st h7 (fun w' hw => L2 hw.drop.drop) (by omega) fun o2 w9 h9 => ⟨ms, hT', hm60, hm2k, h9.d3.sw⟩
  · rw [if_neg hne, if_neg hne] at hT'
    exact ⟨ns, hT', hn60, hn2k, h7⟩
  rintro at2 hv2 w9 ⟨ns2, hT2, hn60', hn2k', h9⟩
  have hvl := (h9.sw.has (by decide)).1
  refine Get_table h9 hT2 (gn := gen) (fun _ _ hne _ => absurd rfl hne) fun tl w10 _ h10 => ?_
  refine ⟨fun v w' => v = false ∧ St w' (DeskS k g c' D' :: Row EN T.y_masonryref1_Name hv2 ns2 :: X), ⟨fun h => absurd rfl h, fun _ => same21_st h10 (fun w' hw => hw.has (by decide)) (fun w' hw => hw.up2.has (by decide)) (by omega) fun w11 h11 => ⟨fun h => (by cases h), fun _ => ⟨?_, h11.drop⟩⟩⟩, ?_⟩
  · rcases hT2.or with ⟨_, r2, r3⟩ | ⟨e, r1, r2, r3, _⟩
    · rw [r2] at hvl
      simp [r3, hvl]
    · have hat := hT2.hv.at_ (e := e) (by rw [r1]; exact List.mem_singleton.2 rfl)
      have h0 : ns2.length ≠ 0 := fun hh => r2 (List.eq_nil_of_length_eq_zero hh)
      have e1 : (at2 == 0) = false := by rw [beq_eq_false_iff_ne]; omega
      have e2 : ((((hv2.len : Nat) : Int)) == 0) = false := by rw [beq_eq_false_iff_ne]; omega
      rw [e1, e2]; rfl
  rintro v w11 ⟨rfl, h11⟩
  refine ⟨fun h => (by cases h), fun _ => ?_⟩
  refine ⟨fun w' => St w' (DeskS k g c' D' :: Row EN T.y_masonryref1_Name hv2 ns2 :: X), ⟨fun hpos => ⟨by decide, ?_⟩, fun _ => h11⟩, ?_⟩
  · have hgm : w64 (gen.tmod 3 + 1) ≠ gen := by
      have : gen = 1 ∨ gen = 2 ∨ gen = 3 := by omega
      rcases this with rfl | rfl | rfl <;> decide
    refine Get_table h11 hT2 (fun w12 _ _ h12 => ?_) fun tl2 w12 heq h12 => absurd (heq (by omega)) hgm
    refine ⟨fun v w' => v = false ∧ w' = w12, ⟨fun h => absurd rfl h, fun _ => ⟨rfl, rfl⟩⟩, ?_⟩
    rintro v w13 ⟨rfl, rfl⟩
    exact ⟨fun h => (by cases h), fun _ => h12⟩
  rintro w12 h12
  refine RefLay_st h12 (h12.sw.has (by decide)) (by omega) hn2k' fun w13 h13 => ?_
  have hl2 := layNames_len hT2.lay
  have hal : (allL D'.bs D'.bs.length).length = 2 + (allP es').length := by
    rw [hT2.hv.all]
    simp only [List.length_cons, nextT_nd hT2.hv.nd]; omega
  refine ⟨fun used w' => w' = w13 ∧ used = ((2 + (allP es').length : Nat) : Int), ⟨fun hpos => ⟨by decide, rfl, ?_⟩, fun hno => ⟨rfl, ?_⟩⟩, ?_⟩
  · rcases hT2.or with ⟨_, r2, r3⟩ | ⟨e, r1, r2, r3, r4, r5, r6, r7⟩
    · omega
    · have h3 : (allP es').length = needN (layNames ns2).1.length := by
        rw [r1, allP_cons, List.length_append, Ent.ps_len]
        unfold Ent.n
        rw [r7]; simp [allP]
      rw [h3]
      have hnd : needN (layNames ns2).1.length ≤ 5 := by unfold needN; split <;> omega
      have e1 : w64 (((layNames ns2).1.length : Int) + 235) = (((layNames ns2).1.length + 235 : Nat) : Int) := by rw [w64_id (by omega) (by omega)]; omega
      have e2 : ((((layNames ns2).1.length + 235 : Nat) : Int)).tdiv 236 = ((((layNames ns2).1.length + 235) / 236 : Nat) : Int) := (Int.ofNat_tdiv _ 236).symm
      have e3 : imax (((((layNames ns2).1.length + 235) / 236 : Nat) : Int)) 1 = (needN (layNames ns2).1.length : Int) := by unfold needN imax; split <;> split <;> omega
      try rw [tx_size]
      rw [e1, e2, w64_id (x := ((((layNames ns2).1.length + 235) / 236 : Nat) : Int)) (by omega) (by omega), e3, w64_id (by omega) (by omega)]
      omega
  · rcases hT2.or with ⟨r1, r2, r3⟩ | ⟨e, r1, r2, r3, _⟩
    · rw [r1]; rfl
    · have hat := hT2.hv.at_ (e := e) (by rw [r1]; exact List.mem_singleton.2 rfl)
      omega
  rintro used w14 ⟨rfl, rfl⟩
  refine Room_st h13 fun r1 w15 h15 => ⟨fun h => (by cases h), fun _ => Room_st h15.sw fun r2 w16 h16 => All_st h16 (by omega) fun al w17 h17 => ?_⟩
  have hall := (h17.has (by decide)).1
  refine ⟨fun hne => absurd (by rw [hall, hal]) hne, fun _ => ?_⟩
  rw [w64_succ (by omega)]
  exact ⟨⟨m + 1, c', D', es', ns2, rfl, hlt, hc', hT2, hb', hn60', hn2k', (h17.drop.drop.d2).sw⟩, by show ((ls.length : Int) - ((m + 1 : Nat) : Int)).toNat < ((ls.length : Int) - (m : Int)).toNat; omega⟩
end
end Go.Proofs.YtmokmbhhnbcelaaGreatDoor
