/- which Rooms lay alike; what is on a desk behind a Sync; masonrylaw11.alive. -/
import Derived.Test.YtmokmbhhnbcelaaGreatDoorDf
import Derived.Test.YtmokmbhhnbcelaaGreatDoorPp
import Derived.Test.YtmokmbhhnbcelaaGreatDoorBu
set_option linter.unusedVariables false
namespace Go.Proofs.YtmokmbhhnbcelaaGreatDoor
open Go Go.Vc Go.RowKit Go.Lib Go.Maps Go.Proofs

theorem normW_nil {ws : List Wr1} : normW ws = [] ↔ ws = [] := by
  constructor
  · intro h
    cases ws with
    | nil => rfl
    | cons p r =>
      have h1 : p.1 ∈ nextT (keysW (p :: r)) := by rw [(nextT_up _).2]; simp [keysW]
      have h2 := congrArg List.length h
      rw [normW_len] at h2
      simp only [List.length_nil] at h2
      rw [List.eq_nil_of_length_eq_zero h2] at h1
      cases h1
  · intro h
    subst h
    have : (normW []).length ≤ 0 := by rw [normW_len]; exact nextT_len _
    exact List.eq_nil_of_length_eq_zero (Nat.le_zero.1 this)

theorem fmt_room {d : Ds} {seq : Int} (hq : Quiet d seq) (hs : 0 ≤ seq ∧ seq ≤ 1000000) : homeAt (fmtD d seq (d.l.length - 111)).d 1 = layRoom (bs0 (d.l.length - 111)) := by
  have hlo := hq.lo
  obtain ⟨q1, q2, q3, q4⟩ := commit_facts hq hs.1 (by omega) (fmt_lastE hq)
  show homeAt (commitD d seq (fmtW (d.l.length - 111))) 1 = _
  rw [q4 1 (by omega), if_pos (by simp [fmtW, keysW])]
  simp [lastW, fmtW]

end Go.Proofs.YtmokmbhhnbcelaaGreatDoor

/- PlanTells: the walk. -/
set_option linter.unusedVariables false
namespace Go.Proofs.YtmokmbhhnbcelaaGreatDoor
open Go Go.Vc Go.RowKit Go.Lib

abbrev PcsN (w : World) (l : Sl) (xs : List Pc) : Prop := Has EPc w l xs ∧ NilOk l
theorem fmt0_clean {n : Nat} (h1 : 140 ≤ n) (h2 : n ≤ 2000) : written (fmt0 n) = [] := by
  have hr := fmt_room (Quiet.new h1 h2) (by decide)
  have e : (newD n).l.length = n := List.length_replicate
  rw [e] at hr
  have hb : (fmt0 n).bs = bs0 (n - 111) := fmt0_bs
  have hw : (fmt0 n).ws = [] := rfl
  unfold written
  rw [hb, hw, if_pos (show homeAt (fmt0 n).d 1 = _ from hr)]
  exact normW_nil.2 rfl
theorem lay_ranges {l : List Pc} (h : ∀ p ∈ l, pcOk p = true) : ∀ p ∈ l, 0 ≤ p.1 ∧ p.1 < 65536 ∧ 0 ≤ p.2 ∧ p.2 < 256 := fun p hp => by
  have := h p hp
  simp only [pcOk, decide_eq_true_eq] at this
  omega
section
variable {w : World} {X : List As} {k g c : Nat} {D : DkV} {es : List Ent}
theorem Put_planE (h : St w (DeskS k g c D :: X)) (hH : Have D es) {gen : Int} {sl : Sl} {l : List Pc} (hx : ∀ w', St w' X → Has EPc w' sl l) (hn : l.length ≤ 1000) (hc : c ≤ 900000) {R : Int → Int → World → Prop}
    (hE : ∀ w', mayP gen l ≠ 0 → St w' (DeskS k g c D :: X) → R 0 (mayP gen l) w')
    (hF : ∀ w', mayP gen l = 0 → freeN D.bs < needN (layP l).length → St w' (DeskS k g (c + 40) D :: X) → R 0 20 w')
    (hR : ∀ w' D' e', mayP gen l = 0 → needN (layP l).length ≤ freeN D.bs → e'.x.gen = gen → e'.x.tag = 2 → e'.x.refs = 1 → e'.x.data = layP l → freeN D'.bs + needN (layP l).length = freeN D.bs → Have D' (es ++ [e']) → St w' (DeskS k g (c + 40) D' :: X) → R e'.x.at_ 0 w') : F.plan_Put (some (blk k)) gen sl w R := by
  refine Put_plan h hx hn hc hE hF fun w' h0 hle h' => ?_
  obtain ⟨hg, hall, hsum⟩ := mayP_zero h0
  have hlen := layP_len l
  have hlo := sumP_pos (pcOk_len hall)
  refine hR w' _ ⟨⟨placeP D (needN (layP l).length) 0, gen, 2, 1, layP l⟩, linkP D gen 2 (layP l) (needN (layP l).length), placeP D (needN (layP l).length)⟩ h0 hle rfl rfl rfl rfl ?_ (hH.put hg (by decide) (by omega) hle) h'
  rw [putS_bs]
  exact freeN_take hle
set_option maxHeartbeats 4000000 in
theorem PlanTells_st (h : St w X) {gen by_ : Int} {sl : Sl} {l : List Pc} (hx : ∀ w', St w' X → Has EPc w' sl l) (hnl : NilOk sl) {R : Bool → World → Prop} (hR : ∀ w', St w' X → R true w') : F.masonrylaw20_PlanTells gen sl by_ w R := by
  apply E.masonrylaw20_PlanTells
  unfold V.masonrylaw20_PlanTells
  try simp (config := { zeta := false }) only [cnd_all, Nat.reduceAdd]
  have hs := (hx w h).1
  refine ⟨fun b w' => St w' X ∧ (b = false → l.length ≤ 100), ⟨fun _ => ⟨h, fun h => (by cases h)⟩, fun h1 => alive20_st h fun w1 hw => ⟨hw, fun _ => by omega⟩⟩, ?_⟩
  rintro b w1 ⟨h1, hb⟩
  refine ⟨fun _ => alive20_st h1 hR, fun hbf => ?_⟩
  have hn := hb hbf
  have hf : freeN (fmt0 150).bs = 37 := by rw [fmt0_bs, freeN_bs0 (by decide)]
  refine Fresh_st h1 (n := 150) (by decide) (by decide) fun k g w2 h2 => ⟨fun h => (by cases h), fun _ => ?_⟩
  have hH := Have.fmt (n := 150) (by decide) (by decide)
  refine ⟨fun good size w' => w' = w2 ∧ size = 0 ∧ good = decide (1 ≤ gen ∧ gen ≤ 3), ⟨fun h => ⟨rfl, rfl, by rw [Bool.eq_iff_iff, decide_eq_true_iff, decide_eq_true_iff]; omega⟩, fun h => ⟨rfl, rfl, by rw [eq_comm, decide_eq_false_iff_not]; omega⟩⟩, ?_⟩
  rintro good size w3 ⟨rfl, rfl, rfl⟩
  refine ⟨fun good size i w' => w' = w3 ∧ ∃ m : Nat, i = m ∧ m ≤ l.length ∧ (good = true ↔ (1 ≤ gen ∧ gen ≤ 3) ∧ ∀ p ∈ l.take m, pcOk p = true) ∧ (good = true → size = sumP (l.take m)), fun _ _ i _ => ((l.length : Int) - i).toNat, ⟨rfl, 0, rfl, Nat.zero_le _, by simp, fun _ => rfl⟩, ?_⟩
  rintro good size i w4 ⟨rfl, m, rfl, hm, hg, hsz⟩
  refine ⟨fun hlt => ?_, fun hge => ?_⟩
  · have hlt : m < l.length := by omega
    rw [w64_succ (by omega)]
    have hms : ((l.length : Int) - ((m + 1 : Nat) : Int)).toNat < ((l.length : Int) - (m : Int)).toNat := by omega
    have hall : (∀ p ∈ l.take (m + 1), pcOk p = true) ↔ (∀ p ∈ l.take m, pcOk p = true) ∧ pcOk l[m] = true := by
      rw [List.take_succ_eq_append_getElem hlt]
      constructor
      · intro hh
        exact ⟨fun p hp => hh p (List.mem_append_left _ hp), hh _ (List.mem_append_right _ (List.mem_cons_self ..))⟩
      · rintro ⟨h1, h2⟩ p hp
        rcases List.mem_append.1 hp with hp | hp
        · exact h1 p hp
        · simp only [List.mem_cons, List.not_mem_nil, or_false] at hp
          subst hp; exact h2
    have bad : ∀ v : Bool, v = false → (good = true → pcOk l[m] = false) → (w4 = w4 ∧ ∃ m' : Nat, ((m + 1 : Nat) : Int) = m' ∧ m' ≤ l.length ∧ (v = true ↔ (1 ≤ gen ∧ gen ≤ 3) ∧ ∀ p ∈ l.take m', pcOk p = true) ∧ (v = true → size = sumP (l.take m'))) ∧ ((l.length : Int) - ((m + 1 : Nat) : Int)).toNat < ((l.length : Int) - (m : Int)).toNat := fun v hv hb => by
      refine ⟨⟨rfl, m + 1, rfl, hlt, ?_, fun h => by rw [hv] at h; cases h⟩, hms⟩
      rw [hv, hall]
      constructor
      · intro h; cases h
      · rintro ⟨h1, h2, h3⟩
        have := hb (hg.2 ⟨h1, h2⟩)
        rw [h3] at this; cases this
    refine ⟨fun hgt => ?_, fun hgf => bad _ rfl (fun h => by rw [hgf] at h; cases h)⟩
    obtain ⟨ad, ha, hal, c0, c1⟩ := Has.pc (hx _ h2.drop) hlt
    refine ⟨ad, ha, by omega, by omega, _, c0, fun n1 => ⟨ad, ha, by omega, by omega, _, c0, fun n2 => ⟨ad, ha, by omega, by omega, _, c1, fun n3 => ⟨ad, ha, by omega, by omega, _, c1, fun n4 => ⟨ad, ha, by omega, by omega, _, c1, ?_⟩, fun n4 => bad _ (by rw [decide_eq_false_iff_not]; exact n4) fun _ => by simp [pcOk]; omega⟩, fun n3 => bad _ rfl fun _ => by simp [pcOk]; omega⟩, fun n2 => bad _ rfl fun _ => by simp [pcOk]; omega⟩, fun n1 => bad _ rfl fun _ => by simp [pcOk]; omega⟩
    have hokm : pcOk l[m] = true := by simp only [pcOk, decide_eq_true_eq]; omega
    have hsz := hsz hgt
    obtain ⟨hg1, hg2⟩ := hg.1 hgt
    have hsl := sumP_pos (pcOk_len hg2)
    rw [List.length_take] at hsl
    have e1 : w64 (size + l[m].2) = size + l[m].2 := w64_id (by omega) (by omega)
    rw [e1, decide_eq_true n4]
    refine ⟨⟨rfl, m + 1, rfl, hlt, ⟨fun _ => ⟨hg1, hall.2 ⟨hg2, hokm⟩⟩, fun _ => rfl⟩, fun _ => ?_⟩, hms⟩
    rw [List.take_succ_eq_append_getElem hlt, sumP_app, hsz]
    simp [sumP]
  have hmm : m = l.length := by omega
  subst hmm
  rw [List.take_length] at hg hsz
  have hmay : (good = true ∧ size ≤ 1200) ↔ mayP gen l = 0 := by
    unfold mayP
    constructor
    · rintro ⟨h1, h2⟩
      obtain ⟨a1, a2⟩ := hg.1 h1
      have := hsz h1
      rw [if_neg (by omega), if_pos (List.all_eq_true.2 a2), if_neg (by omega)]
    · intro h0
      split at h0
      · cases h0
      · split at h0
        · rename_i a1 a2
          have hgt := hg.2 ⟨by omega, List.all_eq_true.1 a2⟩
          have := hsz hgt
          refine ⟨hgt, ?_⟩
          split at h0
          · cases h0
          · omega
        · cases h0
  refine LentP_st h2 (hx _ h2.drop) hnl (by omega) fun la lc w5 h5 => ?_
  have hpre : ∀ {Y : List As} w', St w' (Row EPc T.y_api_Piece ⟨la, l.length + 1, lc⟩ (l ++ [(-77, 0)]) :: Y) → Has EPc w' ⟨la, l.length, lc⟩ l := fun w' hw => by
    have hh : Has EPc w' ⟨la, l.length + 1, lc⟩ (l ++ [(-77, 0)]) := hw.has (by decide)
    exact Has.pre (sl := ⟨la, l.length, lc⟩) hh rfl rfl
  have hlay := layP_len l
  have hnd : needN (layP l).length ≤ 2 := by rw [hlay]; unfold needN; split <;> omega
  refine Put_planE h5.sw hH (fun w' hw => hpre w' hw) (by omega) (by decide) (fun w6 hne h6 => ?_) (fun w6 _ hlf _ => by omega) fun w6 D e' h0 hle e1 e2 e3 e4 hfr hH' h6 => ?_
  · -- refused
    refine StaysP_st h6.sw (fun w' hw => hx w' hw.drop) (by omega) fun w7 h7 => ⟨fun h => (by cases h), fun _ => ?_⟩
    have hbt : ¬ (good = true ∧ size ≤ 1200) := fun h => hne (hmay.1 h)
    refine ⟨fun v w' => w' = w7 ∧ v = true, ⟨fun _ => ⟨rfl, rfl⟩, fun hgt => ⟨rfl, ?_⟩⟩, ?_⟩
    · rw [decide_eq_true_eq]
      exact Int.lt_of_not_ge fun hle => hbt ⟨by simpa using hgt, hle⟩
    rintro v w8 ⟨rfl, rfl⟩
    refine ⟨fun _ => ?_, fun h => (by cases h)⟩
    have dirty : F.desk_Desk_Dirty (some (blk k)) w8 fun l2 w_10 => R (((l2.len : Nat) : Int) == 0) w_10 := by
      refine Dirty_st h7.sw (by decide) fun dl w9 h9 => ?_
      have hdl := (h9.has (by decide)).1
      rw [fmt0_clean (by decide) (by decide)] at hdl
      have : dl.len = 0 := hdl
      rw [this]
      exact hR _ h9.drop.drop.drop
    have m1 : good = true → mayP gen l = 2 := fun hgt => by
      obtain ⟨a1, a2⟩ := hg.1 hgt
      have := hsz hgt
      have hnl : ¬ size ≤ 1200 := fun hle => hbt ⟨hgt, hle⟩
      unfold mayP
      rw [if_neg (by omega), if_pos (List.all_eq_true.2 a2), if_pos (by omega)]
    have m2 : good = false → mayP gen l = 1 := fun hgf => by
      unfold mayP
      split
      · rfl
      · split
        · rename_i a1 a2
          have := hg.2 ⟨by omega, List.all_eq_true.1 a2⟩
          rw [hgf] at this; cases this
        · rfl
    refine ⟨fun hgt => ⟨fun _ => ⟨fun _ => dirty, fun h => absurd rfl h⟩, fun h => absurd (m1 hgt) h⟩, fun hgf => ⟨fun _ => ⟨fun _ => ⟨fun _ => dirty, fun h => absurd rfl h⟩, fun h => absurd (m2 hgf) h⟩, fun h => by rw [hgf] at h; cases h⟩⟩
  · -- put
    refine StaysP_st h6.sw (fun w' hw => hx w' hw.drop) (by omega) fun w7 h7 => ⟨fun h => (by cases h), fun _ => ?_⟩
    obtain ⟨hgt, hs12⟩ := hmay.2 h0
    subst hgt
    refine ⟨fun v w' => w' = w7 ∧ v = false, ⟨fun h => (by cases h), fun _ => ⟨rfl, by rw [decide_eq_false_iff_not]; omega⟩⟩, ?_⟩
    rintro v w8 ⟨rfl, rfl⟩
    refine ⟨fun h => (by cases h), fun _ => ?_⟩
    obtain ⟨hg1, hg2⟩ := hg.1 rfl
    have hpcs : pcs e'.x.data (e'.x.data.length / 3) = l := by
      rw [e4, hlay, Nat.mul_div_cancel_left _ (by decide : 0 < 3)]
      exact pcs_lay (lay_ranges hg2)
    have hpl : PlE e'.x := ⟨e2, by rw [e4, hlay]; exact Nat.mul_mod_right _ _, by rw [hpcs, e1]; exact h0⟩
    have hmem : e' ∈ [] ++ [e'] := by simp
    have hdl : e'.x.data.length ≤ 3000 := by rw [e4, hlay]; omega
    refine Get_planE h7.sw hH' hmem hdl (fun _ hno _ => absurd hpl hno) fun pl w9 _ h9 => ?_
    rw [hpcs] at h9
    intro wa1
    replace h9 : St wa1 (Cs _ _ _ :: _) := h9.new _ _
    clear_value wa1
    refine ⟨h9.wr0 (by simp), ?_⟩
    intro wa2
    replace h9 : St wa2 _ := h9.set0 _
    clear_value wa2
    refine ⟨h9.wr (by simp), ?_⟩
    intro wa3
    replace h9 : St wa3 _ := h9.set 1 _
    clear_value wa3
    refine ⟨h9.wr (by simp), ?_⟩
    intro wa4
    replace h9 : St wa4 _ := h9.set 2 _
    clear_value wa4
    simp only [List.set_cons_zero, List.set_cons_succ] at h9
    generalize w9.heap.size = y1 at *
    refine Get_planE h9.up2 hH' hmem hdl (fun _ hno _ => absurd hpl hno) fun ql w10 _ h10 => ?_
    rw [hpcs] at h10
    intro wa5
    replace h10 : St wa5 (Cs _ _ _ :: _) := h10.new _ _
    clear_value wa5
    refine ⟨h10.wr0 (by simp), ?_⟩
    intro wa6
    replace h10 : St wa6 _ := h10.set0 _
    clear_value wa6
    refine ⟨h10.wr (by simp), ?_⟩
    intro wa7
    replace h10 : St wa7 _ := h10.set 1 _
    clear_value wa7
    refine ⟨h10.wr (by simp), ?_⟩
    intro wa8
    replace h10 : St wa8 _ := h10.set 2 _
    clear_value wa8
    simp only [List.set_cons_zero, List.set_cons_succ] at h10
    generalize w10.heap.size = y2 at *
    intro wa9
    replace h10 : St wa9 (Cs _ _ _ :: _) := h10.new _ _
    clear_value wa9
    generalize wa8.heap.size = z at *
    -- book, y2, ql, desk, y1, pl, lent
    refine ⟨pl, h10.up4.cell 2, ?_⟩
    have h11 : St wa9 (Row EPc T.y_api_Piece pl l :: (bk5 z ⟨none, 0, 0⟩ ⟨none, 0, 0⟩ [] [] ++ (Cs y2 [.int .i64 e'.x.gen, .int .i64 e'.x.refs, .slice ql.a ql.len ql.cap] T.y_plan_Plan :: Row EPc T.y_api_Piece ql l :: DeskS k g (1001 + 40) D :: Cs y1 [.int .i64 e'.x.gen, .int .i64 e'.x.refs, .slice pl.a pl.len pl.cap] T.y_plan_Plan :: Row EPc T.y_api_Piece ⟨la, l.length + 1, lc⟩ (l ++ [(-77, 0)]) :: X))) := (St.book0 (h10.up5.sw)).up5
    refine Pieces_st h11 (by decide) (by decide) (by omega) fun L1 W1 p1 w11 h12 => ?_
    have h12 : St w11 (Cs z (bookC L1 W1) T.y_masonrybook_Book :: Row ESl T.y_sl_api_Piece L1 (fsts ([] ++ [(pl, l)])) :: Row ESl T.y_sl_api_Piece W1 (fsts ([] ++ [(p1, l)])) :: Rows' EPc T.y_api_Piece ([] ++ [(pl, l)]) :: Rows' EPc T.y_api_Piece ([] ++ [(p1, l)]) :: Cs y2 [.int .i64 e'.x.gen, .int .i64 e'.x.refs, .slice ql.a ql.len ql.cap] T.y_plan_Plan :: Row EPc T.y_api_Piece ql l :: DeskS k g (1001 + 40) D :: Cs y1 [.int .i64 e'.x.gen, .int .i64 e'.x.refs, .slice pl.a pl.len pl.cap] T.y_plan_Plan :: Row EPc T.y_api_Piece ⟨la, l.length + 1, lc⟩ (l ++ [(-77, 0)]) :: X) := h12
    refine ⟨ql, h12.up5.cell 2, ?_⟩
    have h13 : St w11 (Row EPc T.y_api_Piece ql l :: (bk5 z L1 W1 ([] ++ [(pl, l)]) ([] ++ [(p1, l)]) ++ (Cs y2 [.int .i64 e'.x.gen, .int .i64 e'.x.refs, .slice ql.a ql.len ql.cap] T.y_plan_Plan :: DeskS k g (1001 + 40) D :: Cs y1 [.int .i64 e'.x.gen, .int .i64 e'.x.refs, .slice pl.a pl.len pl.cap] T.y_plan_Plan :: Row EPc T.y_api_Piece ⟨la, l.length + 1, lc⟩ (l ++ [(-77, 0)]) :: X))) := h12.up6
    refine Pieces_st h13 (by simp) (by simp) (by omega) fun L2 W2 p2 w12 h14 => ?_
    have h15 := St.fold _ h14
    have hkept : ∀ w' {Y : List As}, St w' (As.all (bk5 z L2 W2 ([] ++ [(pl, l)] ++ [(ql, l)]) ([] ++ [(p1, l)] ++ [(p2, l)])) :: Y) → Has EPc w' pl l := fun w' Y hw => by
      have hu : St w' (Cs z (bookC L2 W2) T.y_masonrybook_Book :: Row ESl T.y_sl_api_Piece L2 (fsts ([] ++ [(pl, l)] ++ [(ql, l)])) :: Row ESl T.y_sl_api_Piece W2 (fsts ([] ++ [(p1, l)] ++ [(p2, l)])) :: Rows' EPc T.y_api_Piece ([] ++ [(pl, l)] ++ [(ql, l)]) :: Rows' EPc T.y_api_Piece ([] ++ [(p1, l)] ++ [(p2, l)]) :: Y) := hw.unfold
      exact Rows'.has (i := 0) (p := (pl, l)) hu.up3 (by decide) rfl
    generalize hBk : As.all (bk5 z L2 W2 ([] ++ [(pl, l)] ++ [(ql, l)]) ([] ++ [(p1, l)] ++ [(p2, l)])) = BK at h15 hkept
    have hsz := hsz rfl
    refine ⟨fun v w' => v = false ∧ St w' (BK :: Cs y2 [.int .i64 e'.x.gen, .int .i64 e'.x.refs, .slice ql.a ql.len ql.cap] T.y_plan_Plan :: DeskS k g (1001 + 40) D :: Cs y1 [.int .i64 e'.x.gen, .int .i64 e'.x.refs, .slice pl.a pl.len pl.cap] T.y_plan_Plan :: Row EPc T.y_api_Piece ⟨la, l.length + 1, lc⟩ (l ++ [(-77, 0)]) :: X), ?_, ?_⟩
    · refine ⟨fun h => absurd rfl h, fun _ => ⟨fun h => absurd rfl h, fun _ => ⟨fun h => absurd rfl h, fun _ => ⟨_, h15.up3.cell0, fun h => absurd e1 h, fun _ => ⟨_, h15.up3.cell 1, fun h => absurd e3 h, fun _ => ⟨pl, h15.up3.cell 2, ?_⟩⟩⟩⟩⟩⟩
      refine SameP_st h15 (xs := l) (ys := l) (fun w' hw => hkept w' hw) (fun w' hw => hx w' hw.drop.drop.drop.drop.drop) (by omega) fun w13 h16 => ?_
      rw [decide_eq_true rfl]
      refine ⟨fun h => (by cases h), fun _ => Size_plan h16 (l := l) (fun w' hw => hpre w' hw.up4) (pcOk_len hg2) (by omega) fun w14 h17 => ⟨?_, h17⟩⟩
      rw [hsz]
      simp
    rintro v w13 ⟨rfl, h16⟩
    refine ⟨fun h => (by cases h), fun _ => ?_⟩
    have hbl0 : D.bs.length = 39 := by
      have := hH'.free
      rw [allP_app] at this
      have h2 : (allP [e']).length = e'.n := by rw [allP_cons]; simp [allP, Ent.ps_len]
      rw [List.length_append, h2] at this
      have h3 : e'.n = needN (layP l).length := by unfold Ent.n; rw [e4]
      have h4 : (allP ([] : List Ent)).length = 0 := rfl
      omega
    refine F.plan_Use_mono (R := fun n n1 w' => ((n1 = 15 ∧ n = 0 ∧ (by_ < -1 ∨ 59999 < by_)) ∨ (n1 = 0 ∧ n = 1 + by_ ∧ -1 ≤ by_ ∧ by_ ≤ 59999)) ∧ ∃ D' e2 c', Have D' ([] ++ e2 :: []) ∧ e2.x.at_ = e'.x.at_ ∧ PlE e2.x ∧ e2.x.data.length ≤ 3000 ∧ D'.bs.length = 39 ∧ St w' (DeskS k g c' D' :: BK :: Cs y2 [.int .i64 e'.x.gen, .int .i64 e'.x.refs, .slice ql.a ql.len ql.cap] T.y_plan_Plan :: Cs y1 [.int .i64 e'.x.gen, .int .i64 e'.x.refs, .slice pl.a pl.len pl.cap] T.y_plan_Plan :: Row EPc T.y_api_Piece ⟨la, l.length + 1, lc⟩ (l ++ [(-77, 0)]) :: X)) ?_ ?_
    · refine Use_planE (a := []) (b := []) h16.up2 hH' (by decide) hdl (fun _ hno _ => absurd hpl hno) (fun w14 _ hbad h17 => ⟨.inl ⟨rfl, rfl, by omega⟩, D, e', _, hH', rfl, hpl, hdl, hbl0, h17⟩) fun w14 D' _ hlo hhi hbs hH2 h17 => ⟨.inr ⟨rfl, by rw [e3], by omega, by omega⟩, D', _, _, hH2, rfl, hpl, hdl, by rw [hbs]; exact hbl0, h17⟩
    rintro n n1 w14 ⟨hor, D2, e5, c5, hH5, hat, hpl5, hdl5, hbl5, h17⟩
    refine ⟨fun w' => w' = w14, ⟨fun v w' => w' = w14 ∧ v = decide (by_ < -1 ∨ 59999 < by_), ⟨fun h => ⟨rfl, by rw [eq_comm, decide_eq_true_iff]; omega⟩, fun h => ⟨rfl, by rw [Bool.eq_iff_iff, decide_eq_true_iff, decide_eq_true_iff]; omega⟩⟩, ?_⟩, ?_⟩
    · rintro v w15 ⟨rfl, rfl⟩
      refine ⟨fun hv => ?_, fun hv => ?_⟩
      · have hv := of_decide_eq_true hv
        rcases hor with ⟨r1, r2, _⟩ | ⟨_, _, r3, r4⟩
        · subst r1 r2
          refine ⟨fun v w' => w' = w15 ∧ v = false, ⟨fun h => absurd rfl h, fun _ => ⟨rfl, rfl⟩⟩, ?_⟩
          rintro v w16 ⟨rfl, rfl⟩
          exact ⟨fun h => (by cases h), fun _ => rfl⟩
        · omega
      · have hv := of_decide_eq_false hv
        rcases hor with ⟨_, _, r3⟩ | ⟨r1, r2, r3, r4⟩
        · omega
        · subst r1 r2
          have e6 : w64 (1 + by_) = 1 + by_ := w64_id (by omega) (by omega)
          refine ⟨fun v w' => w' = w15 ∧ v = false, ⟨fun h => absurd rfl h, fun _ => ⟨rfl, by rw [e6]; simp⟩⟩, ?_⟩
          rintro v w16 ⟨rfl, rfl⟩
          exact ⟨fun h => (by cases h), fun _ => rfl⟩
    rintro w15 rfl
    rw [← hat]
    refine Drop_planE (a := []) (b := []) h17 hH5 hdl5 (fun _ hno _ => absurd hpl5 hno) fun w16 _ hH6 h18 => ⟨fun _ => ?_, fun h => absurd rfl h⟩
    have hfr6 := hH6.free
    have hal6 : (allL (dropD D2 e5.ps).bs (dropD D2 e5.ps).bs.length).length = 2 := by
      have h2 := nextT_nd hH6.nd
      have h3 : (allP ([] ++ [] : List Ent)).length = 0 := rfl
      rw [hH6.all]
      simp only [List.length_cons]; omega
    have hbl6 : (dropD D2 e5.ps).bs.length = 39 := by show (giveL D2.bs e5.ps).length = 39; rw [giveL_len]; exact hbl5
    refine Room_st h18 fun r1 w17 h19 => ⟨fun _ => Room_st h19.sw fun r2 w18 h20 => Free_st h20 (by omega) fun w19 h21 => ?_, fun h => (by cases h)⟩
    rw [hal6, hbl6]
    refine ⟨fun _ => ?_, fun h => absurd rfl h⟩
    have h22 := h21.up3
    rw [← hBk] at h22
    have h23 : St w19 (bk5 z L2 W2 ([] ++ [(pl, l)] ++ [(ql, l)]) ([] ++ [(p1, l)] ++ [(p2, l)]) ++ _) := h22.unfold
    refine ApartP_st h23 (by simp) (by simp) (fun p hp => ?_) fun w20 h24 => ?_
    · simp only [List.nil_append, List.cons_append, List.mem_cons, List.not_mem_nil, or_false] at hp
      rcases hp with rfl | rfl <;> (show l.length ≤ _; omega)
    · exact hR _ h24.drop.drop.drop.drop.drop.drop
end
theorem PlanTells_spec {w : World} {gen by_ : Int} {l : Sl} {lZ : List Pc} (hl : PcsN w l lZ) {R : Bool → World → Prop} (hR : ∀ w', Below w.heap.size w w' → R true w') : F.masonrylaw20_PlanTells gen l by_ w R :=
  PlanTells_st (St.start w) (fun w' h => hl.1.fr (fr_below (St.old h))) hl.2 fun w' h => hR w' (St.old h)
end Go.Proofs.YtmokmbhhnbcelaaGreatDoor
