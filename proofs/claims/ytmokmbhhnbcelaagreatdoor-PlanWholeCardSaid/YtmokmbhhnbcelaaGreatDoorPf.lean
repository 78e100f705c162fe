/- plan: Put. -/
import Derived.Test.YtmokmbhhnbcelaaGreatDoorPe
import Derived.Test.YtmokmbhhnbcelaaGreatDoorCp
set_option linter.unusedVariables false
namespace Go.Proofs.YtmokmbhhnbcelaaGreatDoor
open Go Go.Vc Go.RowKit Go.Lib

theorem mayP_zero {gen : Int} {l : List Pc} (h : mayP gen l = 0) : (1 ≤ gen ∧ gen ≤ 3) ∧ (∀ p ∈ l, pcOk p = true) ∧ sumP l ≤ 1200 := by
  unfold mayP at h
  split at h
  · cases h
  · split at h
    · rename_i ha
      split at h
      · cases h
      · exact ⟨by omega, List.all_eq_true.1 ha, by omega⟩
    · cases h
section
variable {w : World} {X : List As} {k g c : Nat} {D : DkV}
set_option maxHeartbeats 1000000 in
theorem Put_plan (h : St w (DeskS k g c D :: X)) {gen : Int} {sl : Sl} {l : List Pc} (hx : ∀ w', St w' X → Has EPc w' sl l) (hn : l.length ≤ 1000) (hc : c ≤ 900000) {R : Int → Int → World → Prop}
    (hE : ∀ w', mayP gen l ≠ 0 → St w' (DeskS k g c D :: X) → R 0 (mayP gen l) w')
    (hF : ∀ w', mayP gen l = 0 → freeN D.bs < needN (layP l).length → St w' (DeskS k g (c + 40) D :: X) → R 0 20 w')
    (hR : ∀ w', mayP gen l = 0 → needN (layP l).length ≤ freeN D.bs → St w' (DeskS k g (c + 40) (putS D gen 2 (layP l) (needN (layP l).length) (needN (layP l).length)).1 :: X) → R (placeP D (needN (layP l).length) 0) 0 w') : F.plan_Put (some (blk k)) gen sl w R := by
  apply E.plan_Put
  unfold V.plan_Put
  try simp (config := { zeta := false }) only [cnd_all, Nat.reduceAdd]
  have hs := (hx w h.drop).1
  refine may_plan h (fun w' hw => hx w' hw.drop) hn fun w1 h1 => ⟨fun hne => hE w1 hne h1, fun h0 => ?_⟩
  obtain ⟨hg, hall, hsum⟩ := mayP_zero h0
  have hlo := sumP_pos (pcOk_len hall)
  intro w2
  have h2 : St w2 (Cs w1.heap.size [.slice none 0 0, .int .i64 0] T.y_bits_Out :: DeskS k g c D :: X) := h1.new _ _
  clear_value w2
  generalize w1.heap.size = q at *
  refine ⟨fun i w' => ∃ m : Nat, i = m ∧ m ≤ l.length ∧ St w' (OutS q (layP (l.take m)) :: DeskS k g c D :: X), fun i _ => ((l.length : Int) - i).toNat, ⟨0, rfl, Nat.zero_le _, OutS.of h2⟩, ?_⟩
  rintro i w3 ⟨m, rfl, hm, h3⟩
  refine ⟨fun hlt => ?_, fun hge => ?_⟩
  · have hlt : m < l.length := by omega
    obtain ⟨ad, ha, hal, c0, c1⟩ := Has.pc (hx _ h3.drop.drop) hlt
    have hp := hall l[m] (List.getElem_mem hlt)
    simp only [pcOk, decide_eq_true_eq] at hp
    have hll := layP_len (l.take m)
    rw [List.length_take] at hll
    refine ⟨ad, ha, by omega, by omega, _, c0, _, c1, ?_⟩
    intro wa1
    replace h3 : St wa1 (Cs _ _ _ :: _) := h3.new _ _
    clear_value wa1
    refine ⟨h3.wr0 (by simp), ?_⟩
    intro wa2
    replace h3 : St wa2 _ := h3.set0 _
    clear_value wa2
    refine ⟨h3.wr (by simp), ?_⟩
    intro wa3
    replace h3 : St wa3 _ := h3.set 1 _
    clear_value wa3
    simp only [List.set_cons_zero, List.set_cons_succ] at h3
    intro wa4
    replace h3 : St wa4 _ := h3.drew
    clear_value wa4
    refine ⟨_, h3.cell0, _, h3.cell 1, fun w7 g1 hB7 hg7 hn7 ho7 w8 hB8 => ?_⟩
    have h8 := (h3.fz.iv hB7 hg7 hn7 ho7).iv0 hB8
    refine OutS.half (bs := layP (l.take m)) (vs := [l[m].1]) h8.up3.up2.sw (fun v hv => by simp at hv; omega) (by simp; omega) rfl fun w9 h9 => ?_
    obtain ⟨k9, h9⟩ := h9.sw.drop.sw.kp
    have q9 := h9.up2
    refine ⟨k9, q9.cell 1, q9.cell0, fun w10 g2 hB10 hg10 hn10 ho10 w11 hB11 => ?_⟩
    refine OutS.byte (vs := [l[m].2]) ((h9.iv hB10 hg10 hn10 ho10).iv0 hB11).up2.up2.sw (fun v hv => by simp at hv; omega) (by simp [leBytes_len]; omega) rfl fun w12 h12 => ?_
    obtain ⟨k12, h12⟩ := h12.sw.drop.sw.kp
    have q12 := h12.up2
    refine ⟨k12, q12.cell 1, q12.cell0, fun w13 hB13 => ?_⟩
    have h13 := (h12.iv0 hB13).drop.d2
    have e : layP (l.take m) ++ [l[m].1].flatMap (leBytes 2) ++ [l[m].2].flatMap (leBytes 1) = layP (l.take (m + 1)) := by
      rw [List.take_succ_eq_append_getElem hlt, layP_app]
      simp [layP]
    rw [e] at h13
    rw [w64_succ (by omega)]
    exact ⟨⟨m + 1, rfl, hlt, h13⟩, by show ((l.length : Int) - ((m + 1 : Nat) : Int)).toNat < ((l.length : Int) - (m : Int)).toNat; omega⟩
  · have hmm : m = l.length := by omega
    subst hmm
    rw [List.take_length] at h3
    refine OutS.end_ h3 fun w4 h4 => ⟨fun h => absurd rfl h, fun _ => ?_⟩
    exact Put_chain h4.drop hg (by decide) (by rw [layP_len]; omega) hc (fun w5 hlf h5 => hF w5 h0 hlf h5) fun w5 hle h5 => hR w5 h0 hle h5
end
end Go.Proofs.YtmokmbhhnbcelaaGreatDoor
