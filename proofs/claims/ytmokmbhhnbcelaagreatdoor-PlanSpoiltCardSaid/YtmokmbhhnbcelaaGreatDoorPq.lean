/- PlanSpoilt: the walk. -/
import Derived.Test.YtmokmbhhnbcelaaGreatDoorPp
import Derived.Test.YtmokmbhhnbcelaaGreatDoorBa
set_option linter.unusedVariables false
namespace Go.Proofs.YtmokmbhhnbcelaaGreatDoor
open Go Go.Vc Go.RowKit Go.Lib

/-- how far the law's loop goes -/
structure PlW (tag : Int) (s : Bs) (m : Nat) (good : Bool) (size : Int) : Prop where
  le : m ≤ s.length / 3
  size : size = sumP (pcs s m)
  good : good = true ↔ (tag = 2 ∧ s.length % 3 = 0 ∧ ∀ p ∈ pcs s m, pcOk p = true)
theorem pcs_mono {s : Bs} {m n : Nat} (h : m ≤ n) {p : Pc} (hp : p ∈ pcs s m) : p ∈ pcs s n := by
  unfold pcs at hp ⊢
  obtain ⟨i, hi, rfl⟩ := List.mem_map.1 hp
  exact List.mem_map.2 ⟨i, List.mem_range.2 (by have := List.mem_range.1 hi; omega), rfl⟩
theorem sumP_le {s : Bs} : ∀ m, 0 ≤ sumP (pcs s m) ∧ sumP (pcs s m) ≤ 256 * m
  | 0 => by simp [pcs, sumP]
  | m + 1 => by
    have ih := sumP_le (s := s) m
    have := pcAt_range s m
    rw [pcs_succ, sumP_app]
    have e : sumP [pcAt s m] = (pcAt s m).2 := by simp [sumP]
    rw [e]; omega

section
variable {w : World} {X : List As}
set_option maxHeartbeats 4000000 in
theorem PlanSpoilt_st (h : St w X) {gen tag : Int} {s : Bs} {R : Bool → World → Prop} (hR : ∀ w', St w' X → R true w') : F.masonrylaw20_PlanSpoilt gen tag (tx s) w R := by
  apply E.masonrylaw20_PlanSpoilt
  unfold V.masonrylaw20_PlanSpoilt
  try simp (config := { zeta := false }) only [cnd_all, Nat.reduceAdd]
  refine ⟨fun b w' => St w' X ∧ (b = false → s.length ≤ 300), ⟨fun _ => ⟨h, fun h => (by cases h)⟩, fun h1 => alive20_st h fun w1 hw => ⟨hw, fun _ => by omega⟩⟩, ?_⟩
  rintro b w1 ⟨h1, hb⟩
  refine ⟨fun _ => alive20_st h1 hR, fun hbf => ?_⟩
  have hn := hb hbf
  have hf : freeN (fmt0 150).bs = 37 := by rw [fmt0_bs, freeN_bs0 (by decide)]
  refine Fresh_st h1 (n := 150) (by decide) (by decide) fun k g w2 h2 => ⟨fun h => (by cases h), fun _ => ?_⟩
  have hH := Have.fmt (n := 150) (by decide) (by decide)
  by_cases hgt : (1 ≤ gen ∧ gen ≤ 3) ∧ (0 ≤ tag ∧ tag ≤ 200)
  · obtain ⟨hg, ht⟩ := hgt
    have hnd : needN s.length ≤ 2 := by unfold needN; split <;> omega
    refine Put_E h2 hH hg ht (by omega) (by decide) (fun w3 hlt _ => by omega) fun w3 D e' hle e1 e2 e3 e4 hfr hH' h3 => ⟨fun h => absurd rfl h, fun _ => ?_⟩
    have he' : e' ∈ [] ++ [e'] := by simp
    refine ⟨fun good size w' => w' = w3 ∧ PlW tag s 0 good size, ⟨fun h => ⟨by decide, rfl, Nat.zero_le _, rfl, ?_⟩, fun h => ⟨rfl, Nat.zero_le _, rfl, ?_⟩⟩, ?_⟩
    · have e : ((s.length : Nat) : Int).tmod 3 = ((s.length % 3 : Nat) : Int) := (Int.ofNat_tmod s.length 3).symm
      rw [e]
      simp only [pcs, List.range_zero, List.map_nil, List.not_mem_nil, false_implies, implies_true, and_true, h, true_and]
      rw [beq_iff_eq]; omega
    · simp only [h, false_and]
      exact ⟨fun h => (by cases h), fun h => h.elim⟩
    rintro good size w4 ⟨rfl, hW⟩
    have hfin : ∀ {m good size}, PlW tag s m good size → (good = true → m = s.length / 3) → (PlE e'.x ↔ (good = true ∧ size ≤ 1200)) := fun {m good size} hW hm => by
      unfold PlE mayP
      rw [e1, e2, e4, if_neg (by omega)]
      constructor
      · rintro ⟨a1, a2, a3⟩
        by_cases hall : (pcs s (s.length / 3)).all pcOk = true
        · rw [if_pos hall] at a3
          have hg2 : good = true := hW.good.2 ⟨a1, a2, fun p hp => List.all_eq_true.1 hall p (pcs_mono hW.le hp)⟩
          have := hW.size
          rw [hm hg2] at this
          refine ⟨hg2, ?_⟩
          split at a3
          · cases a3
          · omega
        · rw [if_neg hall] at a3; cases a3
      · rintro ⟨a1, a2⟩
        obtain ⟨b1, b2, b3⟩ := hW.good.1 a1
        rw [hm a1] at b3
        have := hW.size
        rw [hm a1] at this
        refine ⟨b1, b2, ?_⟩
        rw [if_pos (List.all_eq_true.2 b3), if_neg (by omega)]
    refine ⟨fun good size w' => St w' (DeskS k g (1001 + 40) D :: X) ∧ (PlE e'.x ↔ (good = true ∧ size ≤ 1200)), ?_, ?_⟩
    · refine ⟨fun good size i w' => ∃ m : Nat, i = ((3 * m : Nat) : Int) ∧ PlW tag s m good size ∧ St w' (DeskS k g (1001 + 40) D :: X), fun _ _ i _ => (1000 - i).toNat, ⟨0, rfl, hW, h3⟩, ?_⟩
      rintro good size i w5 ⟨m, rfl, hW, h5⟩
      have hle := hW.le
      have hi2 : w64 (((3 * m : Nat) : Int) + 2) = ((3 * m + 2 : Nat) : Int) := by rw [w64_id (by omega) (by omega)]; omega
      rw [hi2]
      refine ⟨fun hlt => ⟨fun hg2 => ?_, fun hg2 => ⟨h5, hfin hW (fun h => by rw [hg2] at h; cases h)⟩⟩, fun hge => ⟨h5, hfin hW (fun _ => by omega)⟩⟩
      subst hg2
      intro wa1
      replace h5 : St wa1 _ := h5.drew
      clear_value wa1
      have hlt' : 3 * m + 3 ≤ s.length := by omega
      have hb2 := byte_get (s := s) (j := 3 * m + 2) (by omega)
      have hb2 : sAt (tx s) ((3 * m + 2 : Nat) : Int) = (pcAt s m).2 := by rw [tx_at]; exact hb2.symm
      have hpr := pcAt_range s m
      have hext : (tx s).extract (((3 * m : Nat) : Int)).toNat (((3 * m + 2 : Nat) : Int)).toNat = tx ((s.drop (3 * m)).take 2) := by
        rw [Int.toNat_natCast, Int.toNat_natCast, tx_ext]
        congr 2; omega
      rw [hb2, hext]
      refine ⟨by omega, by omega, by omega, by omega, by omega, Num_spec (by simp; omega) ?_⟩
      have hp1 : ((leVal ((s.drop (3 * m)).take 2) : Nat) : Int) = (pcAt s m).1 := rfl
      rw [hp1]
      have hsz := hW.size
      have hsl := sumP_le (s := s) m
      have e5 : w64 (pcAt s m).1 = (pcAt s m).1 := w64_id (by omega) (by omega)
      have e6 : w64 (pcAt s m).2 = (pcAt s m).2 := w64_id (by omega) (by omega)
      have e7 : w64 (size + (pcAt s m).2) = size + (pcAt s m).2 := w64_id (by omega) (by omega)
      have e8 : w64 (((3 * m : Nat) : Int) + 3) = ((3 * (m + 1) : Nat) : Int) := by rw [w64_id (by omega) (by omega)]; omega
      rw [e5, e6, e7, e8]
      have nx : ∀ v : Bool, v = pcOk (pcAt s m) → (∃ m' : Nat, ((3 * (m + 1) : Nat) : Int) = ((3 * m' : Nat) : Int) ∧ PlW tag s m' v (size + (pcAt s m).2) ∧ St wa1 (DeskS k g (1001 + 40) D :: X)) ∧ (1000 - ((3 * (m + 1) : Nat) : Int)).toNat < (1000 - ((3 * m : Nat) : Int)).toNat := fun v hv => by
        refine ⟨⟨m + 1, rfl, ⟨by omega, ?_, ?_⟩, h5⟩, by omega⟩
        · rw [hsz, pcs_succ, sumP_app]; simp [sumP]
        · obtain ⟨b1, b2, b3⟩ := hW.good.1 rfl
          rw [hv, pcs_succ]
          constructor
          · intro hk
            refine ⟨b1, b2, fun p hp => ?_⟩
            rcases List.mem_append.1 hp with hp | hp
            · exact b3 p hp
            · simp only [List.mem_cons, List.not_mem_nil, or_false] at hp
              subst hp; exact hk
          · rintro ⟨_, _, hall⟩
            exact hall _ (List.mem_append_right _ (List.mem_cons_self ..))
      refine ⟨fun c1 => ⟨fun c2 => ⟨fun c3 => nx _ ?_, fun c3 => nx _ ?_⟩, fun c2 => nx _ ?_⟩, fun c1 => nx _ ?_⟩
      · unfold pcOk
        rw [Bool.eq_iff_iff, decide_eq_true_iff, decide_eq_true_iff]; omega
      · unfold pcOk
        rw [eq_comm, decide_eq_false_iff_not]; omega
      · unfold pcOk
        rw [eq_comm, decide_eq_false_iff_not]; omega
      · unfold pcOk
        rw [eq_comm, decide_eq_false_iff_not]; omega
    rintro good size w5 ⟨h5, hiff⟩
    haveI := Classical.propDecidable (PlE e'.x)
    have K3 : ∀ (w' : World), (good = true → decide (size ≤ 1200) = decide (PlE e'.x)) ∧ (good = false → false = decide (PlE e'.x)) := fun w' => by
      constructor
      · intro hg2
        rw [Bool.eq_iff_iff, decide_eq_true_iff, decide_eq_true_iff, hiff]
        simp [hg2]
      · intro hg2
        rw [eq_comm, decide_eq_false_iff_not, hiff]
        simp [hg2]
    refine Get_planE h5 hH' (by simp) (by rw [e4]; omega) (fun w6 hno h6 => ?_) fun pl w6 hp h6 => ?_
    · intro wa2
      replace h6 : St wa2 (Cs _ _ _ :: _) := h6.new _ _
      clear_value wa2
      refine ⟨h6.wr0 (by simp), ?_⟩
      intro wa3
      replace h6 : St wa3 _ := h6.set0 _
      clear_value wa3
      refine ⟨h6.wr (by simp), ?_⟩
      intro wa4
      replace h6 : St wa4 _ := h6.set 1 _
      clear_value wa4
      refine ⟨h6.wr (by simp), ?_⟩
      intro wa5
      replace h6 : St wa5 _ := h6.set 2 _
      clear_value wa5
      simp only [List.set_cons_zero, List.set_cons_succ] at h6
      refine ⟨fun v w' => w' = wa5 ∧ v = decide (PlE e'.x), ⟨fun c => ⟨rfl, (K3 w6).1 c⟩, fun c => ⟨rfl, (K3 w6).2 c⟩⟩, ?_⟩
      rintro v w7 ⟨rfl, rfl⟩
      rw [decide_eq_false hno]
      refine ⟨fun h => (by cases h), fun _ => ⟨fun _ => ⟨⟨none, 0, 0⟩, h6.cell 2, fun _ => ⟨_, h6.cell 1, fun _ => ?_, fun h => absurd rfl h⟩, fun h => absurd rfl h⟩, fun h => absurd rfl h⟩⟩
      refine Drop_planE h6.drop hH' (by rw [e4]; omega) (fun w8 _ h8 => ?_) fun w8 hp _ _ => absurd hp hno
      rw [show ((25 : Int) == 25) = true from rfl]
      exact hR _ h8.drop
    · have hpl := (h6.has (by decide)).1
      rw [pcs_len, e4] at hpl
      intro wa6
      replace h6 : St wa6 (Cs _ _ _ :: _) := h6.new _ _
      clear_value wa6
      refine ⟨h6.wr0 (by simp), ?_⟩
      intro wa7
      replace h6 : St wa7 _ := h6.set0 _
      clear_value wa7
      refine ⟨h6.wr (by simp), ?_⟩
      intro wa8
      replace h6 : St wa8 _ := h6.set 1 _
      clear_value wa8
      refine ⟨h6.wr (by simp), ?_⟩
      intro wa9
      replace h6 : St wa9 _ := h6.set 2 _
      clear_value wa9
      simp only [List.set_cons_zero, List.set_cons_succ] at h6
      refine ⟨fun v w' => w' = wa9 ∧ v = decide (PlE e'.x), ⟨fun c => ⟨rfl, (K3 w6).1 c⟩, fun c => ⟨rfl, (K3 w6).2 c⟩⟩, ?_⟩
      rintro v w7 ⟨rfl, rfl⟩
      rw [decide_eq_true hp]
      refine ⟨fun _ => ⟨fun _ => ⟨pl, h6.cell 2, by decide, ?_⟩, fun h => absurd rfl h⟩, fun h => (by cases h)⟩
      have e : w64 (((s.length : Nat) : Int).tdiv 3) = ((s.length / 3 : Nat) : Int) := by
        have : ((s.length : Nat) : Int).tdiv 3 = ((s.length / 3 : Nat) : Int) := (Int.ofNat_tdiv s.length 3).symm
        rw [this]
        exact w64_id (by omega) (by omega)
      rw [e, hpl, beq_self_eq_true]
      exact hR _ h6.drop.drop.drop
  · exact Put_arg hgt ⟨fun _ => by rw [show ((1 : Int) == 1) = true from rfl]; exact hR _ h2.drop, fun h => absurd h (by decide)⟩
end
theorem PlanSpoilt_spec {w : World} {gen tag : Int} {s : Bs} {R : Bool → World → Prop} (hR : ∀ w', Below w.heap.size w w' → R true w') : F.masonrylaw20_PlanSpoilt gen tag (tx s) w R :=
  PlanSpoilt_st (St.start w) fun w' h => hR w' (St.old h)
end Go.Proofs.YtmokmbhhnbcelaaGreatDoor
