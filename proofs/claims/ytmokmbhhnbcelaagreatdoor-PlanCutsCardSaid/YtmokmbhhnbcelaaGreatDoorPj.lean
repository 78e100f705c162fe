/- PlanCuts: the walk. -/
import Derived.Test.YtmokmbhhnbcelaaGreatDoorPh
import Derived.Test.YtmokmbhhnbcelaaGreatDoorRd
import Derived.Test.YtmokmbhhnbcelaaGreatDoorRows
set_option linter.unusedVariables false
namespace Go.Proofs.YtmokmbhhnbcelaaGreatDoor
open Go Go.Vc Go.RowKit Go.Lib

section
variable {w : World} {X : List As}
set_option maxHeartbeats 2000000 in
theorem PlanCuts_st (h : St w X) {from_ to_ : Int} {sl : Sl} {l : List Pc} (hx : ∀ w', St w' X → Has EPc w' sl l) {R : Bool → World → Prop} (hR : ∀ w', St w' X → R true w') : F.masonrylaw20_PlanCuts from_ to_ sl w R := by
  apply E.masonrylaw20_PlanCuts
  unfold V.masonrylaw20_PlanCuts
  try simp (config := { zeta := false }) only [cnd_all, Nat.reduceAdd]
  have hs := (hx w h).1
  refine ⟨fun b w' => St w' X ∧ (b = false → l.length ≤ 60), ⟨fun _ => ⟨h, fun h => (by cases h)⟩, fun h1 => alive20_st h fun w1 hw => ⟨hw, fun _ => by omega⟩⟩, ?_⟩
  rintro b w1 ⟨h1, hb⟩
  refine ⟨fun _ => alive20_st h1 hR, fun hbf => ?_⟩
  have hn := hb hbf
  have hle : ∀ m, (((l.take m).foldl (cutF from_ to_) ⟨0, [], 0, 0⟩).out).length ≤ m := by
    intro m
    induction m with
    | zero => simp
    | succ m ih =>
      rcases Nat.lt_or_ge m l.length with hlt | hge
      · rw [List.take_succ_eq_append_getElem hlt, List.foldl_append]
        have := cutF_len from_ to_ ((l.take m).foldl (cutF from_ to_) ⟨0, [], 0, 0⟩) l[m]
        simp only [List.foldl_cons, List.foldl_nil]
        omega
      · rw [List.take_of_length_le (by omega)] at ih ⊢
        omega
  refine ⟨fun at_ want a b i w' => ∃ m : Nat, i = m ∧ m ≤ l.length ∧ LenOk (l.take m) ∧ at_ = ((l.take m).foldl (cutF from_ to_) ⟨0, [], 0, 0⟩).at_ ∧ a = ((l.take m).foldl (cutF from_ to_) ⟨0, [], 0, 0⟩).ahead ∧ b = ((l.take m).foldl (cutF from_ to_) ⟨0, [], 0, 0⟩).behind ∧ St w' (Row EPc T.y_api_Piece want ((l.take m).foldl (cutF from_ to_) ⟨0, [], 0, 0⟩).out :: X),
    fun _ _ _ _ i _ => ((l.length : Int) - i).toNat, ⟨0, rfl, Nat.zero_le _, fun p hp => (by simp at hp), rfl, rfl, rfl, h1.row0 EPc T.y_api_Piece⟩, ?_⟩
  rintro at_ want a b i w2 ⟨m, rfl, hm, hok, rfl, rfl, rfl, h2⟩
  refine ⟨fun hlt => ?_, fun hge => ?_⟩
  · have hlt : m < l.length := by omega
    obtain ⟨ad, ha, hal, c0, c1⟩ := Has.pc (hx _ h2.drop) hlt
    refine ⟨fun v w' => w' = w2 ∧ v = decide (l[m].2 < 1 ∨ 128 < l[m].2), ⟨ad, ha, by omega, by omega, _, c1, fun h1 => ⟨rfl, by simp [h1]⟩, fun h1 => ⟨ad, ha, by omega, by omega, _, c1, rfl, by simp [h1]⟩⟩, ?_⟩
    rintro v w3 ⟨rfl, rfl⟩
    refine ⟨fun _ => hR _ h2.drop, fun hv => ?_⟩
    have hv := of_decide_eq_false hv
    have hok1 : LenOk (l.take (m + 1)) := fun p hp => by
      rw [List.take_succ_eq_append_getElem hlt] at hp
      rcases List.mem_append.1 hp with hp | hp
      · exact hok p hp
      · simp only [List.mem_cons, List.not_mem_nil, or_false] at hp
        subst hp; omega
    have hbs := sumP_pos hok
    rw [List.length_take] at hbs
    have hat := cut_at from_ to_ (l.take m) ⟨0, [], 0, 0⟩
    have hlm := hle m
    have hstep : (l.take (m + 1)).foldl (cutF from_ to_) ⟨0, [], 0, 0⟩ = cutF from_ to_ ((l.take m).foldl (cutF from_ to_) ⟨0, [], 0, 0⟩) l[m] := by
      rw [List.take_succ_eq_append_getElem hlt, List.foldl_append]; rfl
    have hol := (h2.has (by decide)).1
    generalize (l.take m).foldl (cutF from_ to_) ⟨0, [], 0, 0⟩ = s at *
    simp only [Int.zero_add] at hat
    have hst := cutF_eq from_ to_ s l[m]
    rw [← hstep] at hst
    have e1 : w64 (s.at_ + l[m].2) = s.at_ + l[m].2 := w64_id (by omega) (by omega)
    have e2 : w64 ((m : Int) + 1) = ((m + 1 : Nat) : Int) := w64_succ (by omega)
    have hme : ((l.length : Int) - ((m + 1 : Nat) : Int)).toNat < ((l.length : Int) - (m : Int)).toNat := by omega
    have hcond : (imax s.at_ from_ < imin (s.at_ + l[m].2) to_) ↔ (from_ < to_ ∧ s.at_ < to_ ∧ from_ < s.at_ + l[m].2) := by unfold imax imin; split <;> split <;> omega
    refine ⟨fun o a b w' => St w' (Row EPc T.y_api_Piece o ((l.take (m + 1)).foldl (cutF from_ to_) ⟨0, [], 0, 0⟩).out :: X) ∧ a = ((l.take (m + 1)).foldl (cutF from_ to_) ⟨0, [], 0, 0⟩).ahead ∧ b = ((l.take (m + 1)).foldl (cutF from_ to_) ⟨0, [], 0, 0⟩).behind, ?_, ?_⟩
    · refine ⟨fun v w' => w' = w3 ∧ v = decide (imax s.at_ from_ < imin (s.at_ + l[m].2) to_), ⟨fun h1 => ⟨fun h2 => ⟨ad, ha, by omega, by omega, _, c1, rfl, ?_⟩, fun h2 => ⟨rfl, ?_⟩⟩, fun h1 => ⟨rfl, ?_⟩⟩, ?_⟩
      · rw [e1, Bool.eq_iff_iff, decide_eq_true_iff, decide_eq_true_iff, hcond]
        omega
      · rw [eq_comm, decide_eq_false_iff_not, hcond]; omega
      · rw [eq_comm, decide_eq_false_iff_not, hcond]; omega
      rintro v w4 ⟨rfl, rfl⟩
      refine ⟨fun hc => ?_, fun hc => ?_⟩
      · rw [if_pos (of_decide_eq_true hc)] at hst
        refine ⟨fun a w' => w' = w4 ∧ a = if s.out = [] then imax (w64 (from_ - s.at_)) 0 else s.ahead, ⟨fun h0 => ⟨rfl, ?_⟩, fun h0 => ⟨rfl, ?_⟩⟩, ?_⟩
        · rw [if_pos (List.eq_nil_of_length_eq_zero (by omega))]
        · rw [if_neg (fun e => by rw [e] at hol; simp at hol; omega)]
        rintro a w5 ⟨rfl, rfl⟩
        refine ⟨ad, ha, by omega, by omega, _, c0, _, c1, ?_⟩
        intro wa1
        have h3 : St wa1 (Cs _ _ _ :: _) := h2.new _ _
        clear_value wa1
        refine St.app elt_pc h3.sw (sl := ⟨some (blk w5.heap.size), 1, 1⟩) (ys := [l[m]]) (h3.lit (xs := [l[m]]) rfl (by simp [Enc.all, EPc]) 1) rfl (by simp; omega) (by simp; omega) fun o2 w6 h6 hl6 => ?_
        obtain ⟨ad2, ha2, hal2, d0, d1⟩ := Has.pc (hx _ h6.drop.drop) hlt
        refine ⟨ad2, ha2, by omega, by omega, _, d1, ?_, ?_, ?_⟩
        · rw [hst]; exact h6.d2
        · rw [hst]
        · rw [hst, e1]
      · rw [if_neg (of_decide_eq_false hc)] at hst
        exact ⟨by rw [hst]; exact h2, by rw [hst], by rw [hst]⟩
    rintro o a b w4 ⟨h4, rfl, rfl⟩
    obtain ⟨ad2, ha2, hal2, d0, d1⟩ := Has.pc (hx _ h4.drop) hlt
    refine ⟨ad2, ha2, by omega, by omega, _, d1, ?_⟩
    rw [e1, e2]
    refine ⟨⟨m + 1, rfl, hlt, hok1, ?_, rfl, rfl, h4⟩, hme⟩
    rw [hst]; split <;> rfl
  · have hmm : m = l.length := by omega
    subst hmm
    rw [List.take_length] at h2 hok ⊢
    refine Cut_plan h2 (fun w' hw => hx w' hw.drop) hok (by omega) fun o w3 h3 => ?_
    have hol := hle l.length
    rw [List.take_length] at hol
    change St w3 (Row EPc T.y_api_Piece o (cutV from_ to_ l).out :: Row EPc T.y_api_Piece want (cutV from_ to_ l).out :: X) at h3
    refine ⟨fun _ => SameP_st h3 (fun w' hw => hw.has (by decide)) (fun w' hw => hw.sw.has (by decide)) (by show (cutV from_ to_ l).out.length ≤ _; unfold cutV; omega) fun w4 h4 => ?_, fun _ => SameP_st h3 (fun w' hw => hw.has (by decide)) (fun w' hw => hw.sw.has (by decide)) (by show (cutV from_ to_ l).out.length ≤ _; unfold cutV; omega) fun w4 h4 => ?_⟩
    · rw [decide_eq_true rfl]
      refine ⟨fun _ => ?_, fun h => (by cases h)⟩
      have := hR _ h4.drop.drop
      simpa [cutV] using this
    · rw [decide_eq_true rfl]
      refine ⟨fun _ => ⟨fun _ => ?_, fun h => absurd rfl h⟩, fun h => (by cases h)⟩
      have := hR _ h4.drop.drop
      simpa [cutV] using this
end
theorem PlanCuts_spec {w : World} {from_ to_ : Int} {l : Sl} {lZ : List Pc} (hl : Has EPc w l lZ) {R : Bool → World → Prop} (hR : ∀ w', Below w.heap.size w w' → R true w') : F.masonrylaw20_PlanCuts from_ to_ l w R :=
  PlanCuts_st (St.start w) (fun w' h => hl.fr (fr_below (St.old h))) fun w' h => hR w' (St.old h)
end Go.Proofs.YtmokmbhhnbcelaaGreatDoor

/- PlanCuts: what a reading of the pieces meets. -/
set_option linter.unusedVariables false
namespace Go.Proofs.YtmokmbhhnbcelaaGreatDoor
open Go Go.Vc Go.RowKit Go.Lib
theorem rd_int : Reads Tryz.prog 3 EI QI := reads_int Tryz.underlying3
theorem rd_pc : Reads Tryz.prog 45 EPc fun _ _ => True :=
  (reads_struct (En := EP EI (EP EI EU)) Tryz.underlying45 (by kernel_rfl) (.cons rfl (by kernel_rfl) rd_int (.cons rfl (by kernel_rfl) rd_int .nil))).to (fun v => (v.1, v.2.1)) (fun _ => rfl) fun _ _ _ => trivial
abbrev Pcs (w : World) (l : Sl) (xs : List Pc) : Prop := Has EPc w l xs
theorem rd_pcs : Reads Tryz.prog 43 (ES Pc) fun W v => Pcs W v.1 v.2 := (reads_slice Tryz.underlying43 (by kernel_rfl) rd_pc).to id (fun _ => rfl) fun W v h => h.1
end Go.Proofs.YtmokmbhhnbcelaaGreatDoor
