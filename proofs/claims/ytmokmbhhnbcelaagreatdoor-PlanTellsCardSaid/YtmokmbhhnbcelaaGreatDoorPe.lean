/- plan: Size, Cut, may; masonrybook.SamePieces. -/
import Derived.Test.YtmokmbhhnbcelaaGreatDoorPb
set_option linter.unusedVariables false
namespace Go.Proofs.YtmokmbhhnbcelaaGreatDoor
open Go Go.Vc Go.RowKit Go.Lib

theorem elt_pc : Elt Pg T.y_sl_api_Piece T.y_api_Piece 2 16 := by
  refine ⟨by kernel_rfl, ?_, by decide⟩
  have h : (Pg.info? T.y_api_Piece).map (fun i => (i.zero, i.size, i.bytes)) = some (some (.agg #[.int .i64 0, .int .i64 0]), 2, 16) := by kernel_rfl
  obtain ⟨i, hi, h2⟩ := Option.map_eq_some_iff.1 h
  simp only [Prod.mk.injEq] at h2
  exact ⟨i, _, hi, h2.1, h2.2.1, h2.2.2, rfl⟩
theorem Has.pc {w : World} {l : Sl} {xs : List Pc} (h : Has EPc w l xs) {m : Nat} (hm : m < xs.length) : ∃ ad, l.a = some ad ∧ m < l.len ∧ w.cell? (ad.add (m * 2)) = some (.int .i64 xs[m].1) ∧ w.cell? ((ad.add (m * 2)).add 1) = some (.int .i64 xs[m].2) := by
  obtain ⟨ad, ha, hl, hc⟩ := h.at hm
  have h0 := hc 0 _ rfl
  rw [Vc.addr_add0] at h0
  exact ⟨ad, ha, hl, h0, hc 1 _ rfl⟩
theorem cutF_eq (from_ to_ : Int) (s : CutV) (p : Pc) : cutF from_ to_ s p = if imax s.at_ from_ < imin (s.at_ + p.2) to_ then ⟨s.at_ + p.2, s.out ++ [p], if s.out = [] then imax (w64 (from_ - s.at_)) 0 else s.ahead, imax (w64 (s.at_ + p.2 - to_)) 0⟩ else ⟨s.at_ + p.2, s.out, s.ahead, s.behind⟩ := by
  have e1 : ∀ a b : Int, max a b = imax a b := fun a b => by unfold imax; split <;> omega
  have e2 : ∀ a b : Int, min a b = imin a b := fun a b => by unfold imin; split <;> omega
  unfold cutF
  simp only [e1, e2]
theorem cutF_len (from_ to_ : Int) (s : CutV) (p : Pc) : (cutF from_ to_ s p).out.length ≤ s.out.length + 1 := by
  unfold cutF
  split <;> simp
theorem LenOk.take {l : List Pc} (h : LenOk l) (m : Nat) : LenOk (l.take m) := fun p hp => h p (List.mem_of_mem_take hp)

section
variable {w : World} {X : List As}
theorem Size_plan (h : St w X) {sl : Sl} {l : List Pc} (hx : ∀ w', St w' X → Has EPc w' sl l) (hl : LenOk l) (hn : l.length ≤ 1000) {R : Int → World → Prop} (hR : ∀ w', St w' X → R (sumP l) w') : F.plan_Size sl w R := by
  apply E.plan_Size
  unfold V.plan_Size
  try simp (config := { zeta := false }) only [cnd_all, Nat.reduceAdd]
  have hs := (hx w h).1
  refine ⟨fun n i w' => ∃ m : Nat, i = m ∧ m ≤ l.length ∧ n = sumP (l.take m) ∧ St w' X, fun _ i _ => ((l.length : Int) - i).toNat, ⟨0, rfl, Nat.zero_le _, by simp [sumP], h⟩, ?_⟩
  rintro n i w1 ⟨m, rfl, hm, rfl, h1⟩
  refine ⟨fun hlt => ?_, fun hge => ?_⟩
  · have hlt : m < l.length := by omega
    obtain ⟨ad, ha, hal, c0, c1⟩ := Has.pc (hx _ h1) hlt
    have hb := sumP_pos (hl.take m)
    have hp := hl l[m] (List.getElem_mem hlt)
    rw [List.length_take] at hb
    refine ⟨ad, ha, by omega, by omega, _, c0, _, c1, ?_⟩
    intro wa1
    replace h1 : St wa1 (Cs _ _ _ :: _) := h1.new _ _
    clear_value wa1
    refine ⟨h1.wr0 (by simp), ?_⟩
    intro wa2
    replace h1 : St wa2 _ := h1.set0 _
    clear_value wa2
    refine ⟨h1.wr (by simp), ?_⟩
    intro wa3
    replace h1 : St wa3 _ := h1.set 1 _
    clear_value wa3
    simp only [List.set_cons_zero, List.set_cons_succ] at h1
    refine ⟨_, h1.cell 1, ?_⟩
    rw [w64_succ (by omega), w64_id (by omega) (by omega)]
    refine ⟨⟨m + 1, rfl, hlt, ?_, h1.drop⟩, by show ((l.length : Int) - ((m + 1 : Nat) : Int)).toNat < ((l.length : Int) - (m : Int)).toNat; omega⟩
    rw [List.take_succ_eq_append_getElem hlt, sumP_app]
    simp [sumP]
  · have hmm : m = l.length := by omega
    subst hmm
    rw [List.take_length]
    exact hR w1 h1
theorem Cut_plan (h : St w X) {from_ to_ : Int} {sl : Sl} {l : List Pc} (hx : ∀ w', St w' X → Has EPc w' sl l) (hl : LenOk l) (hn : l.length ≤ 1000) {R : Sl → Int → Int → World → Prop}
    (hR : ∀ o w', St w' (Row EPc T.y_api_Piece o (cutV from_ to_ l).out :: X) → R o (cutV from_ to_ l).ahead (cutV from_ to_ l).behind w') : F.plan_Cut from_ to_ sl w R := by
  apply E.plan_Cut
  unfold V.plan_Cut
  try simp (config := { zeta := false }) only [cnd_all, Nat.reduceAdd]
  have hs := (hx w h).1
  have hle : ∀ m, (((l.take m).foldl (cutF from_ to_) ⟨0, [], 0, 0⟩).out).length ≤ m := by
    intro m
    induction m with
    | zero => simp
    | succ m ih =>
      rcases Nat.lt_or_ge m l.length with hlt | hge
      · rw [List.take_succ_eq_append_getElem hlt, List.foldl_append]
        have := cutF_len from_ to_ ((l.take m).foldl (cutF from_ to_) ⟨0, [], 0, 0⟩) l[m]
        simp only [List.foldl_cons, List.foldl_nil]
        omega
      · rw [List.take_of_length_le (by omega)] at ih ⊢
        omega
  refine ⟨fun o at_ ah be i w' => ∃ m : Nat, i = m ∧ m ≤ l.length ∧ at_ = ((l.take m).foldl (cutF from_ to_) ⟨0, [], 0, 0⟩).at_ ∧ ah = ((l.take m).foldl (cutF from_ to_) ⟨0, [], 0, 0⟩).ahead ∧ be = ((l.take m).foldl (cutF from_ to_) ⟨0, [], 0, 0⟩).behind ∧ St w' (Row EPc T.y_api_Piece o ((l.take m).foldl (cutF from_ to_) ⟨0, [], 0, 0⟩).out :: X),
    fun _ _ _ _ i _ => ((l.length : Int) - i).toNat, ⟨0, rfl, Nat.zero_le _, rfl, rfl, rfl, h.row0 EPc T.y_api_Piece⟩, ?_⟩
  rintro o at_ ah be i w1 ⟨m, rfl, hm, rfl, rfl, rfl, h1⟩
  refine ⟨fun hlt => ?_, fun hge => ?_⟩
  · have hlt : m < l.length := by omega
    obtain ⟨ad, ha, hal, c0, c1⟩ := Has.pc (hx _ h1.drop) hlt
    have hb := sumP_pos (hl.take m)
    have hp := hl l[m] (List.getElem_mem hlt)
    rw [List.length_take] at hb
    have hat := cut_at from_ to_ (l.take m) ⟨0, [], 0, 0⟩
    have hlm := hle m
    have hstep : (l.take (m + 1)).foldl (cutF from_ to_) ⟨0, [], 0, 0⟩ = cutF from_ to_ ((l.take m).foldl (cutF from_ to_) ⟨0, [], 0, 0⟩) l[m] := by
      rw [List.take_succ_eq_append_getElem hlt, List.foldl_append]; rfl
    have hol := (h1.has (by decide)).1
    generalize (l.take m).foldl (cutF from_ to_) ⟨0, [], 0, 0⟩ = s at *
    simp only [Int.zero_add] at hat
    have hst := cutF_eq from_ to_ s l[m]
    rw [← hstep] at hst
    refine ⟨ad, ha, by omega, by omega, _, c0, _, c1, ?_⟩
    intro wa1
    replace h1 : St wa1 (Cs _ _ _ :: _) := h1.new _ _
    clear_value wa1
    refine ⟨h1.wr0 (by simp), ?_⟩
    intro wa2
    replace h1 : St wa2 _ := h1.set0 _
    clear_value wa2
    refine ⟨h1.wr (by simp), ?_⟩
    intro wa3
    replace h1 : St wa3 _ := h1.set 1 _
    clear_value wa3
    simp only [List.set_cons_zero, List.set_cons_succ] at h1
    have e1 : w64 (s.at_ + l[m].2) = s.at_ + l[m].2 := w64_id (by omega) (by omega)
    have e2 : w64 ((m : Int) + 1) = ((m + 1 : Nat) : Int) := w64_succ (by omega)
    refine ⟨_, h1.cell 1, ?_⟩
    rw [e1, e2]
    have hme : ((l.length : Int) - ((m + 1 : Nat) : Int)).toNat < ((l.length : Int) - (m : Int)).toNat := by omega
    refine ⟨fun hc => ?_, fun hc => ?_⟩
    · rw [if_pos hc] at hst
      refine ⟨fun a w' => w' = wa3 ∧ a = if s.out = [] then imax (w64 (from_ - s.at_)) 0 else s.ahead, ⟨fun h0 => ⟨rfl, ?_⟩, fun h0 => ⟨rfl, ?_⟩⟩, ?_⟩
      · rw [if_pos (List.eq_nil_of_length_eq_zero (by omega))]
      · rw [if_neg (fun e => by rw [e] at hol; simp at hol; omega)]
      rintro a w2 ⟨rfl, rfl⟩
      refine ⟨_, h1.cell0, _, h1.cell 1, ?_⟩
      intro wa4
      have h2 : St wa4 (Cs _ _ _ :: _) := h1.new _ _
      clear_value wa4
      refine St.app elt_pc h2.up2 (sl := ⟨some (blk w2.heap.size), 1, 1⟩) (ys := [l[m]]) (h2.lit (xs := [l[m]]) rfl (by simp [Enc.all, EPc]) 1) rfl (by simp; omega) (by simp; omega) fun o2 w3 h3 hl3 => ?_
      refine ⟨⟨m + 1, rfl, hlt, ?_, ?_, ?_, ?_⟩, hme⟩
      · rw [hst]
      · rw [hst]
      · rw [hst]
      · rw [hst]; exact h3.d3.d2
    · rw [if_neg hc] at hst
      refine ⟨⟨m + 1, rfl, hlt, ?_, ?_, ?_, ?_⟩, hme⟩
      · rw [hst]
      · rw [hst]
      · rw [hst]
      · rw [hst]; exact h1.drop
  · have hmm : m = l.length := by omega
    subst hmm
    rw [List.take_length] at h1 ⊢
    exact hR o w1 h1
end
end Go.Proofs.YtmokmbhhnbcelaaGreatDoor

/- plan: may; masonrybook.SamePieces. -/
set_option linter.unusedVariables false
namespace Go.Proofs.YtmokmbhhnbcelaaGreatDoor
open Go Go.Vc Go.RowKit Go.Lib

theorem pcOk_len {l : List Pc} (h : ∀ p ∈ l, pcOk p = true) : LenOk l := fun p hp => by
  have := h p hp
  simp only [pcOk, decide_eq_true_eq] at this
  omega
section
variable {w : World} {X : List As}
theorem may_plan (h : St w X) {gen : Int} {sl : Sl} {l : List Pc} (hx : ∀ w', St w' X → Has EPc w' sl l) (hn : l.length ≤ 1000) {R : Int → World → Prop} (hR : ∀ w', St w' X → R (mayP gen l) w') : F.plan_may gen sl w R := by
  apply E.plan_may
  unfold V.plan_may
  try simp (config := { zeta := false }) only [cnd_all, Nat.reduceAdd]
  have hs := (hx w h).1
  refine ⟨fun v w' => w' = w ∧ v = decide (gen < 1 ∨ 3 < gen), ⟨fun h1 => ⟨rfl, by simp [h1]⟩, fun h1 => ⟨rfl, by simp [h1]⟩⟩, ?_⟩
  rintro v w1 ⟨rfl, rfl⟩
  refine ⟨fun hv => ?_, fun hv => ?_⟩
  · have := hR w1 h
    unfold mayP at this
    rw [if_pos (of_decide_eq_true hv)] at this
    exact this
  have hv := of_decide_eq_false hv
  refine ⟨fun i w' => ∃ m : Nat, i = m ∧ m ≤ l.length ∧ (∀ p ∈ l.take m, pcOk p = true) ∧ St w' X, fun i _ => ((l.length : Int) - i).toNat, ⟨0, rfl, Nat.zero_le _, by simp, h⟩, ?_⟩
  rintro i w2 ⟨m, rfl, hm, hall, h2⟩
  refine ⟨fun hlt => ?_, fun hge => ?_⟩
  · have hlt : m < l.length := by omega
    obtain ⟨ad, ha, hal, c0, c1⟩ := Has.pc (hx _ h2) hlt
    refine ⟨ad, ha, by omega, by omega, _, c0, _, c1, ?_⟩
    intro wa1
    replace h2 : St wa1 (Cs _ _ _ :: _) := h2.new _ _
    clear_value wa1
    refine ⟨h2.wr0 (by simp), ?_⟩
    intro wa2
    replace h2 : St wa2 _ := h2.set0 _
    clear_value wa2
    refine ⟨h2.wr (by simp), ?_⟩
    intro wa3
    replace h2 : St wa3 _ := h2.set 1 _
    clear_value wa3
    simp only [List.set_cons_zero, List.set_cons_succ] at h2
    have bad : pcOk l[m] = false → R 1 wa3 := fun hb => by
      have := hR _ h2.drop
      unfold mayP at this
      rw [if_neg hv, if_neg] at this
      · exact this
      · intro ha
        have := List.all_eq_true.1 ha l[m] (List.getElem_mem hlt)
        rw [hb] at this; cases this
    have e2 : w64 ((m : Int) + 1) = ((m + 1 : Nat) : Int) := w64_succ (by omega)
    rw [e2]
    refine ⟨_, h2.cell0, fun hb => bad (by simp [pcOk]; omega), fun h1 => ⟨_, h2.cell0, fun hb => bad (by simp [pcOk]; omega), fun h3 => ⟨_, h2.cell 1, fun hb => bad (by simp [pcOk]; omega), fun h4 => ⟨_, h2.cell 1, fun hb => bad (by simp [pcOk]; omega), fun h5 => ⟨⟨m + 1, rfl, hlt, fun p hp => ?_, h2.drop⟩, by show ((l.length : Int) - ((m + 1 : Nat) : Int)).toNat < ((l.length : Int) - (m : Int)).toNat; omega⟩⟩⟩⟩⟩
    rw [List.take_succ_eq_append_getElem hlt] at hp
    rcases List.mem_append.1 hp with hp | hp
    · exact hall p hp
    · simp only [List.mem_cons, List.not_mem_nil, or_false] at hp
      subst hp
      simp only [pcOk, decide_eq_true_eq]
      omega
  · have hmm : m = l.length := by omega
    subst hmm
    rw [List.take_length] at hall
    refine Size_plan h2 hx (pcOk_len hall) hn fun w3 h3 => ?_
    have := hR _ h3
    unfold mayP at this
    rw [if_neg hv, if_pos (List.all_eq_true.2 hall)] at this
    refine ⟨fun hb => ?_, fun hb => ?_⟩
    · rw [if_pos (by omega)] at this; exact this
    · rw [if_neg (by omega)] at this; exact this
theorem SameP_st (h : St w X) {al bl : Sl} {xs ys : List Pc} (ha : ∀ w', St w' X → Has EPc w' al xs) (hb : ∀ w', St w' X → Has EPc w' bl ys) (hl : xs.length ≤ 1000000) {R : Bool → World → Prop} (hR : ∀ w', St w' X → R (decide (xs = ys)) w') : F.masonrybook_SamePieces al bl w R := by
  apply E.masonrybook_SamePieces
  unfold V.masonrybook_SamePieces
  try simp (config := { zeta := false }) only [cnd_all, Nat.reduceAdd]
  have h1 := (ha w h).1
  have h2 := (hb w h).1
  refine ⟨fun hne => ?_, fun heq => ?_⟩
  · have := hR w h
    rw [decide_eq_false (fun e => hne (by rw [h1, h2, e]))] at this
    exact this
  have hlen : xs.length = ys.length := by omega
  refine ⟨Cnt xs.length fun m w' => xs.take m = ys.take m ∧ St w' X, cntM xs.length, Cnt.zero ⟨rfl, h⟩, ?_⟩
  rintro _ w1 ⟨m, rfl, hm, htk, h3⟩
  refine ⟨fun hlt => ?_, fun hge => ?_⟩
  · have hlt : m < xs.length := by omega
    intro wa1
    replace h3 : St wa1 _ := h3.drew
    clear_value wa1
    obtain ⟨a, ha1, hal, c0, c1⟩ := Has.pc (ha _ h3) hlt
    obtain ⟨b, hb1, hbl, e0, e1⟩ := Has.pc (hb _ h3) (m := m) (by omega)
    refine ⟨a, ha1, by omega, by omega, _, c0, _, c1, b, hb1, by omega, by omega, _, e0, _, e1, fun hf => ?_, fun ht => Cnt.next hlt (by omega) ⟨?_, h3⟩⟩
    · have := hR _ h3
      rw [decide_eq_false (fun e => by subst e; simp at hf)] at this
      exact this
    · rw [List.take_succ_eq_append_getElem hlt, List.take_succ_eq_append_getElem (by omega), htk]
      simp at ht
      congr 1
      simp [Prod.ext_iff, ht]
  · have hmm : m = xs.length := by omega
    subst hmm
    rw [List.take_length] at htk
    have e : xs = ys := by rw [htk, hlen, List.take_length]
    have := hR _ h3
    rw [decide_eq_true e] at this; exact this
end
end Go.Proofs.YtmokmbhhnbcelaaGreatDoor
