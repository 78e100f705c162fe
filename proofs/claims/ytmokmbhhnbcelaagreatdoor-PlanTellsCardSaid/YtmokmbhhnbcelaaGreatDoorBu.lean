/- masonrybook.Book: lists of pieces that are kept: grown; whether the marks are there. -/
import Derived.Test.YtmokmbhhnbcelaaGreatDoorBs
set_option linter.unusedVariables false
namespace Go.Proofs.YtmokmbhhnbcelaaGreatDoor
open Go Go.Vc Go.RowKit Go.Lib

/-- a list p of n marks, and q that grew of it to m: in place, or elsewhere -/
def GrA (i : Nat) (p : Sl) (n : Nat) (q : Sl) (m : Nat) : As := As.ex fun b : Bool =>
  bif b then As.wh (p.a = q.a ∧ p.len = n ∧ n ≤ m) (Row EPc T.y_api_Piece q (marksP i 0 m))
  else As.ex fun r : Sl × Nat => As.wh (p.a = r.1.a ∧ p.len = n ∧ n ≤ r.2) (As.all [Row EPc T.y_api_Piece q (marksP i 0 m), Row EPc T.y_api_Piece r.1 (marksP i 0 r.2)])
theorem marks_cut {i n m : Nat} (h : n ≤ m) : marksP i 0 m = marksP i 0 n ++ marksP i n (m - n) := by rw [marksP_app]; congr 1; omega
section
variable {w : World} {X : List As} {i n m : Nat} {p q : Sl}
theorem GrA.has (h : St w (GrA i p n q m :: X)) : Has EPc w q (marksP i 0 m) ∧ Has EPc w p (marksP i 0 n) := by
  have cut : ∀ {r : Sl} {m : Nat}, p.a = r.a → p.len = n → n ≤ m → Has EPc w r (marksP i 0 m) → Has EPc w p (marksP i 0 n) := fun {r m} h1 h2 h3 hr => by
    rw [marks_cut h3] at hr
    exact Has.pre hr h1.symm (by rw [h2, marksP_len])
  obtain ⟨b, h⟩ := h.ex
  cases b
  · have h : St w ((As.ex fun r : Sl × Nat => As.wh (p.a = r.1.a ∧ p.len = n ∧ n ≤ r.2) (As.all [Row EPc T.y_api_Piece q (marksP i 0 m), Row EPc T.y_api_Piece r.1 (marksP i 0 r.2)])) :: X) := h
    obtain ⟨r, h⟩ := h.ex
    obtain ⟨⟨h1, h2, h3⟩, h⟩ := h.wh
    have h : St w (Row EPc T.y_api_Piece q (marksP i 0 m) :: Row EPc T.y_api_Piece r.1 (marksP i 0 r.2) :: X) := h.unfold
    exact ⟨h.has (by decide), cut h1 h2 h3 (h.sw.has (by decide))⟩
  · have h : St w (As.wh (p.a = q.a ∧ p.len = n ∧ n ≤ m) (Row EPc T.y_api_Piece q (marksP i 0 m)) :: X) := h
    obtain ⟨⟨h1, h2, h3⟩, h⟩ := h.wh
    exact ⟨h.has (by decide), cut h1 h2 h3 (h.has (by decide))⟩
theorem GrA.start (h : St w (Row EPc T.y_api_Piece p (marksP i 0 n) :: X)) : St w (GrA i p n p n :: X) := by
  have hl := (h.has (by decide)).1
  rw [marksP_len] at hl
  exact St.mk (f := fun b : Bool => bif b then As.wh (p.a = p.a ∧ p.len = n ∧ n ≤ n) (Row EPc T.y_api_Piece p (marksP i 0 n)) else _) true (St.whmk ⟨rfl, hl, Nat.le_refl _⟩ h)
theorem GrA.app {o : Sl} {k : Nat} (h : St w (Row EPc T.y_api_Piece o (marksP i m k) :: GrA i p n q m :: X)) (hk : 0 < k) (hm : m + k ≤ 10000000) {R : Sl → World → Prop}
    (hR : ∀ q' w', St w' (GrA i p n q' (m + k) :: X) → R q' w') : RunT Pg (Builtin.append_ #[T.y_sl_api_Piece, T.y_sl_api_Piece] T.y_sl_api_Piece #[.slice q.a q.len q.cap, .slice o.a o.len o.cap]) [.one .slice] w R := by
  obtain ⟨a, ha, _⟩ := Has.pc (h.has (by decide)) (m := 0) (by rw [marksP_len]; exact hk)
  obtain ⟨oa, ol, oc⟩ := o
  simp only at ha
  subst ha
  have mkT : ∀ {q' : Sl} {w' : World}, p.a = q'.a → p.len = n → n ≤ m + k → St w' (Row EPc T.y_api_Piece q' (marksP i 0 m ++ marksP i m k) :: X) → R q' w' := fun {q' w'} h1 h2 h3 h4 => by
    rw [marksP_app] at h4
    exact hR q' w' (St.mk (f := fun b : Bool => bif b then As.wh (p.a = q'.a ∧ p.len = n ∧ n ≤ m + k) (Row EPc T.y_api_Piece q' (marksP i 0 (m + k))) else _) true (St.whmk ⟨h1, h2, h3⟩ h4))
  have mkF : ∀ {q' r : Sl} {rm : Nat} {w' : World}, p.a = r.a → p.len = n → n ≤ rm → St w' (Row EPc T.y_api_Piece q' (marksP i 0 m ++ marksP i m k) :: Row EPc T.y_api_Piece r (marksP i 0 rm) :: X) → R q' w' := fun {q' r rm w'} h1 h2 h3 h4 => by
    rw [marksP_app] at h4
    have h5 : St w' (As.all [Row EPc T.y_api_Piece q' (marksP i 0 (m + k)), Row EPc T.y_api_Piece r (marksP i 0 rm)] :: X) := St.fold [Row EPc T.y_api_Piece q' (marksP i 0 (m + k)), Row EPc T.y_api_Piece r (marksP i 0 rm)] h4
    have h6 := St.mk (f := fun r : Sl × Nat => As.wh (p.a = r.1.a ∧ p.len = n ∧ n ≤ r.2) (As.all [Row EPc T.y_api_Piece q' (marksP i 0 (m + k)), Row EPc T.y_api_Piece r.1 (marksP i 0 r.2)])) (r, rm) (St.whmk ⟨h1, h2, h3⟩ h5)
    exact hR q' w' (St.mk (f := fun b : Bool => bif b then _ else As.ex fun r : Sl × Nat => As.wh (p.a = r.1.a ∧ p.len = n ∧ n ≤ r.2) (As.all [Row EPc T.y_api_Piece q' (marksP i 0 (m + k)), Row EPc T.y_api_Piece r.1 (marksP i 0 r.2)])) false h6)
  obtain ⟨b, h⟩ := h.sw.ex
  cases b
  · have h : St w ((As.ex fun r : Sl × Nat => As.wh (p.a = r.1.a ∧ p.len = n ∧ n ≤ r.2) (As.all [Row EPc T.y_api_Piece q (marksP i 0 m), Row EPc T.y_api_Piece r.1 (marksP i 0 r.2)])) :: Row EPc T.y_api_Piece ⟨some a, ol, oc⟩ (marksP i m k) :: X) := h
    obtain ⟨r, h⟩ := h.ex
    obtain ⟨⟨h1, h2, h3⟩, h⟩ := h.wh
    have h : St w (Row EPc T.y_api_Piece q (marksP i 0 m) :: Row EPc T.y_api_Piece r.1 (marksP i 0 r.2) :: Row EPc T.y_api_Piece ⟨some a, ol, oc⟩ (marksP i m k) :: X) := h.unfold
    refine St.app2 elt_pc h (sl := ⟨some a, ol, oc⟩) (ys := marksP i m k) (h.up2.has (by decide)) rfl (by simp only [marksP_len]; omega) (by simp only [marksP_len]; omega) (fun q' w' h' _ _ => mkF h1 h2 h3 h'.d3) fun q' w' h' _ => mkF h1 h2 h3 h'.d2.d3
  · have h : St w (As.wh (p.a = q.a ∧ p.len = n ∧ n ≤ m) (Row EPc T.y_api_Piece q (marksP i 0 m)) :: Row EPc T.y_api_Piece ⟨some a, ol, oc⟩ (marksP i m k) :: X) := h
    obtain ⟨⟨h1, h2, h3⟩, h⟩ := h.wh
    refine St.app2 elt_pc h (sl := ⟨some a, ol, oc⟩) (ys := marksP i m k) (h.sw.has (by decide)) rfl (by simp only [marksP_len]; omega) (by simp only [marksP_len]; omega) (fun q' w' h' _ hq => mkT (h1.trans hq.symm) h2 (by omega) h'.d2) fun q' w' h' _ => mkF h1 h2 h3 h'.d3
end
theorem St.one {w : World} {A : As} {S : Nat → Prop} (h : A.p w S) : St w [A] := ⟨S, S, no, h, fun _ h => h, fun _ _ h => h, fun k => by simp⟩

/-- what grew, of the first lists -/
def grL (ks : List Kp) (gs : List Sl) : List As := (List.range gs.length).map fun i => GrA i (ks.getD i (⟨none, 0, 0⟩, [])).1 (ks.getD i (⟨none, 0, 0⟩, [])).2.length (gs.getD i ⟨none, 0, 0⟩) ((ks.getD i (⟨none, 0, 0⟩, [])).2.length + 72)
theorem grL_snoc {ks : List Kp} {gs : List Sl} {q : Sl} {p : Kp} (hp : ks[gs.length]? = some p) : grL ks (gs ++ [q]) = grL ks gs ++ [GrA gs.length p.1 p.2.length q (p.2.length + 72)] := by
  have e1 : ks.getD gs.length (⟨none, 0, 0⟩, []) = p := by rw [List.getD_eq_getElem?_getD, hp]; rfl
  unfold grL
  rw [List.length_append, List.length_singleton, List.range_succ, List.map_append]
  congr 1
  · refine List.map_congr_left fun i hi => ?_
    have hi := List.mem_range.1 hi
    have : (gs ++ [q]).getD i ⟨none, 0, 0⟩ = gs.getD i ⟨none, 0, 0⟩ := by rw [List.getD_eq_getElem?_getD, List.getD_eq_getElem?_getD, List.getElem?_append_left hi]
    rw [this]
  · simp only [List.map_cons, List.map_nil, e1]
    have : (gs ++ [q]).getD gs.length ⟨none, 0, 0⟩ = q := by rw [List.getD_eq_getElem?_getD, List.getElem?_append_right (Nat.le_refl _)]; simp
    rw [this]
theorem grL_get {ks : List Kp} {gs : List Sl} {i : Nat} {p : Kp} {q : Sl} (hp : ks[i]? = some p) (hq : gs[i]? = some q) : (grL ks gs)[i]? = some (GrA i p.1 p.2.length q (p.2.length + 72)) := by
  have hi := (List.getElem?_eq_some_iff.1 hq).1
  unfold grL
  rw [List.getElem?_map, List.getElem?_range hi]
  have e1 : ks.getD i (⟨none, 0, 0⟩, []) = p := by rw [List.getD_eq_getElem?_getD, hp]; rfl
  have e2 : gs.getD i ⟨none, 0, 0⟩ = q := by rw [List.getD_eq_getElem?_getD, hq]; rfl
  simp only [Option.map_some, e1, e2]

section
variable {w : World} {X : List As} {g : Nat} {L W : Sl} {ks kw : List Kp}
/-- behind the growth -/
abbrev grS (g : Nat) (L W : Sl) (ks kw : List Kp) (out : Sl) (gs : List Sl) : List As := [Cs g (bookC L W) T.y_masonrybook_Book, Row ESl T.y_sl_api_Piece L (fsts ks), Row ESl T.y_sl_api_Piece W (fsts kw), Row ESl T.y_sl_api_Piece out gs, As.all (grL ks gs)]
set_option maxHeartbeats 2000000 in
theorem growP_st (h : St w (bk5 g L W ks kw ++ X)) (hn : ks.length ≤ 100) (hz : ∀ (i : Nat) (p : Kp), ks[i]? = some p → p.2.length ≤ 100000 ∧ p.2 = marksP i 0 p.2.length) {R : Sl → World → Prop}
    (hR : ∀ out gs w', gs.length = ks.length → St w' (grS g L W ks kw out gs ++ X) → R out w') : F.masonrybook_Book_growPieces (some (blk g)) w R := by
  apply E.masonrybook_Book_growPieces
  unfold V.masonrybook_Book_growPieces
  try simp (config := { zeta := false }) only [cnd_all, Nat.reduceAdd]
  refine ⟨fun out i w' => ∃ (m : Nat) (gs : List Sl), i = m ∧ m ≤ ks.length ∧ gs.length = m ∧ St w' (grS g L W ks kw out gs ++ (Rows' EPc T.y_api_Piece (ks.drop m) :: X)), fun _ i _ => ((ks.length : Int) - i).toNat, ⟨0, [], rfl, Nat.zero_le _, rfl, ?_⟩, ?_⟩
  · have h : St w (Cs g (bookC L W) T.y_masonrybook_Book :: Row ESl T.y_sl_api_Piece L (fsts ks) :: Row ESl T.y_sl_api_Piece W (fsts kw) :: Rows' EPc T.y_api_Piece ks :: Rows' EPc T.y_api_Piece kw :: X) := h
    have h1 := h.up4.drop
    have h2 : St w (As.all [] :: Row ESl T.y_sl_api_Piece ⟨none, 0, 0⟩ [] :: Cs g (bookC L W) T.y_masonrybook_Book :: Row ESl T.y_sl_api_Piece L (fsts ks) :: Row ESl T.y_sl_api_Piece W (fsts kw) :: Rows' EPc T.y_api_Piece ks :: X) := St.fold [] (h1.row0 ESl T.y_sl_api_Piece)
    have h3 : St w (Cs g (bookC L W) T.y_masonrybook_Book :: Row ESl T.y_sl_api_Piece L (fsts ks) :: Row ESl T.y_sl_api_Piece W (fsts kw) :: Row ESl T.y_sl_api_Piece ⟨none, 0, 0⟩ [] :: As.all [] :: Rows' EPc T.y_api_Piece ks :: X) := ((h2.sw).up4.up4).up4
    exact h3
  rintro out i w1 ⟨m, gs, rfl, hm, hgl, h1⟩
  have h1 : St w1 (Cs g (bookC L W) T.y_masonrybook_Book :: Row ESl T.y_sl_api_Piece L (fsts ks) :: Row ESl T.y_sl_api_Piece W (fsts kw) :: Row ESl T.y_sl_api_Piece out gs :: As.all (grL ks gs) :: Rows' EPc T.y_api_Piece (ks.drop m) :: X) := h1
  have hl := (h1.sw.has (by decide)).1
  rw [fsts_len] at hl
  refine ⟨L, h1.cell 6, fun hlt => ?_, fun hge => ?_⟩
  · have hlt : m < ks.length := by omega
    obtain ⟨hz1, hz2⟩ := hz m ks[m] (by simp [hlt])
    rw [List.drop_eq_getElem_cons hlt] at h1
    obtain ⟨a1, ha1, hb1, c1⟩ := Has.sl (h1.sw.has (by decide)) (m := m) (by rw [fsts_len]; exact hlt)
    rw [fsts_get hlt] at c1
    refine ⟨L, h1.cell 6, a1, ha1, by omega, by omega, ks[m].1, c1, ?_⟩
    have h2 := Rows'.split (a := []) h1.up5
    have h2 := h2.d2
    rw [hz2] at h2
    have h3 := GrA.start h2
    have hpe : ks[gs.length]? = some ks[m] := by rw [hgl]; simp [hlt]
    generalize hN : ks[m].2.length = N at *
    refine ⟨fun q n w' => ∃ k : Nat, n = k ∧ k ≤ 12 ∧ St w' (GrA m ks[m].1 N q (N + k) :: Rows' EPc T.y_api_Piece (ks.drop (m + 1)) :: Cs g (bookC L W) T.y_masonrybook_Book :: Row ESl T.y_sl_api_Piece L (fsts ks) :: Row ESl T.y_sl_api_Piece W (fsts kw) :: Row ESl T.y_sl_api_Piece out gs :: As.all (grL ks gs) :: X), fun _ n _ => (12 - n).toNat, ⟨0, rfl, Nat.zero_le _, h3⟩, ?_⟩
    rintro q n w2 ⟨k, rfl, hk, h4⟩
    have hql := (GrA.has h4).1.1
    rw [marksP_len] at hql
    refine ⟨fun hk12 => ?_, fun hk12 => ?_⟩
    · refine markP_st (a := q.len) (n := 1) h4 (by omega) (by omega) fun o w3 h5 => ?_
      rw [hql] at h5
      refine GrA.app h5 (by decide) (by omega) fun q' w4 h6 => ?_
      rw [w64_succ (by omega)]
      exact ⟨⟨k + 1, rfl, by omega, h6⟩, by show (12 - ((k + 1 : Nat) : Int)).toNat < (12 - (k : Int)).toNat; omega⟩
    · have hk : k = 12 := by omega
      subst hk
      refine markP_st (a := q.len) (n := 60) h4 (by omega) (by omega) fun o w3 h5 => ?_
      rw [hql] at h5
      refine GrA.app h5 (by decide) (by omega) fun q' w4 h6 => ?_
      intro wa1
      replace h6 : St wa1 (Cs _ _ _ :: _) := h6.new _ _
      clear_value wa1
      refine St.app elt_slpc h6.up6 (sl := ⟨some (blk w4.heap.size), 1, 1⟩) (ys := [q']) (h6.lit (xs := [q']) rfl rfl 1) rfl (by simp only [List.length_singleton]; omega) (by simp only [List.length_singleton]; omega) fun out' w5 h7 _ => ?_
      rw [w64_succ (by omega)]
      refine ⟨⟨m + 1, gs ++ [q'], rfl, hlt, by simp [hgl], ?_⟩, by show ((ks.length : Int) - ((m + 1 : Nat) : Int)).toNat < ((ks.length : Int) - (m : Int)).toNat; omega⟩
      have h8 := h7.d2
      -- out', GrA, Rows', Cs, L, W, all
      have h9 : St w5 (GrA m ks[m].1 N q' (N + 12 + 60) :: As.all (grL ks gs) :: Row ESl T.y_sl_api_Piece out' (gs ++ [q']) :: Rows' EPc T.y_api_Piece (ks.drop (m + 1)) :: Cs g (bookC L W) T.y_masonrybook_Book :: Row ESl T.y_sl_api_Piece L (fsts ks) :: Row ESl T.y_sl_api_Piece W (fsts kw) :: X) := (h8.up6).up2
      have h10 := St.snocs h9
      have e : grL ks (gs ++ [q']) = grL ks gs ++ [GrA m ks[m].1 N q' (N + 12 + 60)] := by rw [grL_snoc hpe, hgl, hN]
      rw [← e] at h10
      have h11 : St w5 (Cs g (bookC L W) T.y_masonrybook_Book :: Row ESl T.y_sl_api_Piece L (fsts ks) :: Row ESl T.y_sl_api_Piece W (fsts kw) :: Row ESl T.y_sl_api_Piece out' (gs ++ [q']) :: As.all (grL ks (gs ++ [q'])) :: Rows' EPc T.y_api_Piece (ks.drop (m + 1)) :: X) := ((h10.sw).up5.up5).up5
      exact h11
  · have hmm : m = ks.length := by omega
    subst hmm
    exact hR out gs w1 hgl (h1.up5.drop)
theorem markedP_st (h : St w X) {l : Sl} {ss : List Sl} (hx : ∀ w', St w' X → Has ESl w' l ss) (hn : ss.length ≤ 100) (hm : ∀ w', St w' X → ∀ (i : Nat) (s : Sl), ss[i]? = some s → ∃ n, n ≤ 200000 ∧ Has EPc w' s (marksP i 0 n)) {R : Bool → World → Prop}
    (hR : ∀ w', St w' X → R true w') : F.masonrybook_markedPieces l w R := by
  apply E.masonrybook_markedPieces
  unfold V.masonrybook_markedPieces
  try simp (config := { zeta := false }) only [cnd_all, Nat.reduceAdd]
  have hs := (hx w h).1
  refine ⟨Cnt ss.length fun m w' => St w' X, cntM ss.length, Cnt.zero h, ?_⟩
  rintro _ w1 ⟨m, rfl, hm', h1⟩
  refine ⟨fun hlt => ?_, fun _ => hR _ h1⟩
  have hlt : m < ss.length := by omega
  intro wa1
  replace h1 : St wa1 _ := h1.drew
  clear_value wa1
  obtain ⟨a1, ha1, hb1, c1⟩ := Has.sl (hx _ h1) hlt
  obtain ⟨n, hn', hh⟩ := hm _ h1 m ss[m] (by simp [hlt])
  have hl := hh.1
  rw [marksP_len] at hl
  subst hl
  refine ⟨a1, ha1, by omega, by omega, ss[m], c1, a1, ha1, by omega, by omega, ss[m], c1, ?_⟩
  refine markP_st (a := 0) h1 (by omega) (by omega) fun o w2 h2 => ?_
  have c2 : ∀ w', St w' X → w'.cell? (a1.add (m * 1)) = some (.slice ss[m].a ss[m].len ss[m].cap) := fun w' hw => by
    obtain ⟨a2, ha2, _, c2⟩ := Has.sl (hx _ hw) hlt
    rw [ha1] at ha2
    injection ha2 with ha2
    subst ha2; exact c2
  have s1 : ∀ w', St w' (Row EPc T.y_api_Piece o (marksP m 0 ss[m].len) :: X) → Has EPc w' ss[m] (marksP m 0 ss[m].len) := fun w' hw => by
    obtain ⟨n', _, hh'⟩ := hm _ hw.drop m ss[m] (by simp [hlt])
    have hl' := hh'.1
    rw [marksP_len] at hl'
    subst hl'; exact hh'
  refine ⟨c2 _ h2.drop, c2 _ h2.drop, SameP_st h2 s1 (fun w' hw => hw.has (by decide)) (by rw [marksP_len]; omega) fun w3 h3 => ?_⟩
  rw [decide_eq_true rfl]
  exact ⟨c2 _ h3.drop, fun h => (by cases h), fun _ => Cnt.next hlt (by omega) h3.drop⟩
end
end Go.Proofs.YtmokmbhhnbcelaaGreatDoor

/- masonrybook.Book: the lists of the kinds of which none is kept; Apart. -/
set_option linter.unusedVariables false
namespace Go.Proofs.YtmokmbhhnbcelaaGreatDoor
open Go Go.Vc Go.RowKit Go.Lib

/-- the book's block -/
def BookAt (w : World) (g : Nat) (L W : Sl) : Prop := w.heap[g]? = some (.cells ⟨bookC L W⟩ T.y_masonrybook_Book (0, 0))

theorem stillTexts_spec {w : World} {g : Nat} {L W : Sl} (h : BookAt w g L W) {R : Bool → World → Prop} (hR : R true w) : F.masonrybook_Book_stillTexts (some (blk g)) w R := by
  apply E.masonrybook_Book_stillTexts
  unfold V.masonrybook_Book_stillTexts
  refine ⟨fun i w' => i = 0 ∧ w' = w, fun _ _ => 0, ⟨rfl, rfl⟩, ?_⟩
  rintro i w1 ⟨rfl, rfl⟩
  exact ⟨blk g, rfl, ⟨none, 0, 0⟩, by rw [blk_cell0 h]; rfl, fun hlt => by simp at hlt, fun _ => hR⟩

theorem putTexts_spec {w : World} {g : Nat} {L W : Sl} (h : BookAt w g L W) {R : World → Prop} (hR : R w) : F.masonrybook_Book_putTexts (some (blk g)) w R := by
  apply E.masonrybook_Book_putTexts
  unfold V.masonrybook_Book_putTexts
  refine ⟨fun i w' => i = 0 ∧ w' = w, fun _ _ => 0, ⟨rfl, rfl⟩, ?_⟩
  rintro i w1 ⟨rfl, rfl⟩
  exact ⟨blk g, rfl, ⟨none, 0, 0⟩, by rw [blk_cell0 h]; rfl, fun hlt => by simp at hlt, fun _ => hR⟩

theorem growTexts_spec {w : World} {g : Nat} {L W : Sl} (h : BookAt w g L W) {R : Sl → World → Prop} (hR : R ⟨none, 0, 0⟩ w) : F.masonrybook_Book_growTexts (some (blk g)) w R := by
  apply E.masonrybook_Book_growTexts
  unfold V.masonrybook_Book_growTexts
  refine ⟨fun out i w' => out = ⟨none, 0, 0⟩ ∧ i = 0 ∧ w' = w, fun _ _ _ => 0, ⟨rfl, rfl, rfl⟩, ?_⟩
  rintro out i w1 ⟨rfl, rfl, rfl⟩
  exact ⟨blk g, rfl, ⟨none, 0, 0⟩, by rw [blk_cell0 h]; rfl, fun hlt => by simp at hlt, fun _ => hR⟩

theorem markedTexts_spec {w : World} {R : Bool → World → Prop} (hR : R true w) : F.masonrybook_markedTexts ⟨none, 0, 0⟩ w R := by
  apply E.masonrybook_markedTexts
  unfold V.masonrybook_markedTexts
  refine ⟨fun i w' => i = 0 ∧ w' = w, fun _ _ => 0, ⟨rfl, rfl⟩, ?_⟩
  rintro i w1 ⟨rfl, rfl⟩
  exact ⟨fun hlt => by simp at hlt, fun _ => hR⟩

theorem stillInts_spec {w : World} {g : Nat} {L W : Sl} (h : BookAt w g L W) {R : Bool → World → Prop} (hR : R true w) : F.masonrybook_Book_stillInts (some (blk g)) w R := by
  apply E.masonrybook_Book_stillInts
  unfold V.masonrybook_Book_stillInts
  refine ⟨fun i w' => i = 0 ∧ w' = w, fun _ _ => 0, ⟨rfl, rfl⟩, ?_⟩
  rintro i w1 ⟨rfl, rfl⟩
  exact ⟨blk g, rfl, ⟨none, 0, 0⟩, by rw [blk_cell h]; rfl, fun hlt => by simp at hlt, fun _ => hR⟩

theorem putInts_spec {w : World} {g : Nat} {L W : Sl} (h : BookAt w g L W) {R : World → Prop} (hR : R w) : F.masonrybook_Book_putInts (some (blk g)) w R := by
  apply E.masonrybook_Book_putInts
  unfold V.masonrybook_Book_putInts
  refine ⟨fun i w' => i = 0 ∧ w' = w, fun _ _ => 0, ⟨rfl, rfl⟩, ?_⟩
  rintro i w1 ⟨rfl, rfl⟩
  exact ⟨blk g, rfl, ⟨none, 0, 0⟩, by rw [blk_cell h]; rfl, fun hlt => by simp at hlt, fun _ => hR⟩

theorem growInts_spec {w : World} {g : Nat} {L W : Sl} (h : BookAt w g L W) {R : Sl → World → Prop} (hR : R ⟨none, 0, 0⟩ w) : F.masonrybook_Book_growInts (some (blk g)) w R := by
  apply E.masonrybook_Book_growInts
  unfold V.masonrybook_Book_growInts
  refine ⟨fun out i w' => out = ⟨none, 0, 0⟩ ∧ i = 0 ∧ w' = w, fun _ _ _ => 0, ⟨rfl, rfl, rfl⟩, ?_⟩
  rintro out i w1 ⟨rfl, rfl, rfl⟩
  exact ⟨blk g, rfl, ⟨none, 0, 0⟩, by rw [blk_cell h]; rfl, fun hlt => by simp at hlt, fun _ => hR⟩

theorem markedInts_spec {w : World} {R : Bool → World → Prop} (hR : R true w) : F.masonrybook_markedInts ⟨none, 0, 0⟩ w R := by
  apply E.masonrybook_markedInts
  unfold V.masonrybook_markedInts
  refine ⟨fun i w' => i = 0 ∧ w' = w, fun _ _ => 0, ⟨rfl, rfl⟩, ?_⟩
  rintro i w1 ⟨rfl, rfl⟩
  exact ⟨fun hlt => by simp at hlt, fun _ => hR⟩

theorem stillSpans_spec {w : World} {g : Nat} {L W : Sl} (h : BookAt w g L W) {R : Bool → World → Prop} (hR : R true w) : F.masonrybook_Book_stillSpans (some (blk g)) w R := by
  apply E.masonrybook_Book_stillSpans
  unfold V.masonrybook_Book_stillSpans
  refine ⟨fun i w' => i = 0 ∧ w' = w, fun _ _ => 0, ⟨rfl, rfl⟩, ?_⟩
  rintro i w1 ⟨rfl, rfl⟩
  exact ⟨blk g, rfl, ⟨none, 0, 0⟩, by rw [blk_cell h]; rfl, fun hlt => by simp at hlt, fun _ => hR⟩

theorem putSpans_spec {w : World} {g : Nat} {L W : Sl} (h : BookAt w g L W) {R : World → Prop} (hR : R w) : F.masonrybook_Book_putSpans (some (blk g)) w R := by
  apply E.masonrybook_Book_putSpans
  unfold V.masonrybook_Book_putSpans
  refine ⟨fun i w' => i = 0 ∧ w' = w, fun _ _ => 0, ⟨rfl, rfl⟩, ?_⟩
  rintro i w1 ⟨rfl, rfl⟩
  exact ⟨blk g, rfl, ⟨none, 0, 0⟩, by rw [blk_cell h]; rfl, fun hlt => by simp at hlt, fun _ => hR⟩

theorem growSpans_spec {w : World} {g : Nat} {L W : Sl} (h : BookAt w g L W) {R : Sl → World → Prop} (hR : R ⟨none, 0, 0⟩ w) : F.masonrybook_Book_growSpans (some (blk g)) w R := by
  apply E.masonrybook_Book_growSpans
  unfold V.masonrybook_Book_growSpans
  refine ⟨fun out i w' => out = ⟨none, 0, 0⟩ ∧ i = 0 ∧ w' = w, fun _ _ _ => 0, ⟨rfl, rfl, rfl⟩, ?_⟩
  rintro out i w1 ⟨rfl, rfl, rfl⟩
  exact ⟨blk g, rfl, ⟨none, 0, 0⟩, by rw [blk_cell h]; rfl, fun hlt => by simp at hlt, fun _ => hR⟩

theorem markedSpans_spec {w : World} {R : Bool → World → Prop} (hR : R true w) : F.masonrybook_markedSpans ⟨none, 0, 0⟩ w R := by
  apply E.masonrybook_markedSpans
  unfold V.masonrybook_markedSpans
  refine ⟨fun i w' => i = 0 ∧ w' = w, fun _ _ => 0, ⟨rfl, rfl⟩, ?_⟩
  rintro i w1 ⟨rfl, rfl⟩
  exact ⟨fun hlt => by simp at hlt, fun _ => hR⟩

theorem stillEntries_spec {w : World} {g : Nat} {L W : Sl} (h : BookAt w g L W) {R : Bool → World → Prop} (hR : R true w) : F.masonrybook_Book_stillEntries (some (blk g)) w R := by
  apply E.masonrybook_Book_stillEntries
  unfold V.masonrybook_Book_stillEntries
  refine ⟨fun i w' => i = 0 ∧ w' = w, fun _ _ => 0, ⟨rfl, rfl⟩, ?_⟩
  rintro i w1 ⟨rfl, rfl⟩
  exact ⟨blk g, rfl, ⟨none, 0, 0⟩, by rw [blk_cell h]; rfl, fun hlt => by simp at hlt, fun _ => hR⟩

theorem putEntries_spec {w : World} {g : Nat} {L W : Sl} (h : BookAt w g L W) {R : World → Prop} (hR : R w) : F.masonrybook_Book_putEntries (some (blk g)) w R := by
  apply E.masonrybook_Book_putEntries
  unfold V.masonrybook_Book_putEntries
  refine ⟨fun i w' => i = 0 ∧ w' = w, fun _ _ => 0, ⟨rfl, rfl⟩, ?_⟩
  rintro i w1 ⟨rfl, rfl⟩
  exact ⟨blk g, rfl, ⟨none, 0, 0⟩, by rw [blk_cell h]; rfl, fun hlt => by simp at hlt, fun _ => hR⟩

theorem growEntries_spec {w : World} {g : Nat} {L W : Sl} (h : BookAt w g L W) {R : Sl → World → Prop} (hR : R ⟨none, 0, 0⟩ w) : F.masonrybook_Book_growEntries (some (blk g)) w R := by
  apply E.masonrybook_Book_growEntries
  unfold V.masonrybook_Book_growEntries
  refine ⟨fun out i w' => out = ⟨none, 0, 0⟩ ∧ i = 0 ∧ w' = w, fun _ _ _ => 0, ⟨rfl, rfl, rfl⟩, ?_⟩
  rintro out i w1 ⟨rfl, rfl, rfl⟩
  exact ⟨blk g, rfl, ⟨none, 0, 0⟩, by rw [blk_cell h]; rfl, fun hlt => by simp at hlt, fun _ => hR⟩

theorem markedEntries_spec {w : World} {R : Bool → World → Prop} (hR : R true w) : F.masonrybook_markedEntries ⟨none, 0, 0⟩ w R := by
  apply E.masonrybook_markedEntries
  unfold V.masonrybook_markedEntries
  refine ⟨fun i w' => i = 0 ∧ w' = w, fun _ _ => 0, ⟨rfl, rfl⟩, ?_⟩
  rintro i w1 ⟨rfl, rfl⟩
  exact ⟨fun hlt => by simp at hlt, fun _ => hR⟩

theorem stillObjects_spec {w : World} {g : Nat} {L W : Sl} (h : BookAt w g L W) {R : Bool → World → Prop} (hR : R true w) : F.masonrybook_Book_stillObjects (some (blk g)) w R := by
  apply E.masonrybook_Book_stillObjects
  unfold V.masonrybook_Book_stillObjects
  refine ⟨fun i w' => i = 0 ∧ w' = w, fun _ _ => 0, ⟨rfl, rfl⟩, ?_⟩
  rintro i w1 ⟨rfl, rfl⟩
  exact ⟨blk g, rfl, ⟨none, 0, 0⟩, by rw [blk_cell h]; rfl, fun hlt => by simp at hlt, fun _ => hR⟩

theorem putObjects_spec {w : World} {g : Nat} {L W : Sl} (h : BookAt w g L W) {R : World → Prop} (hR : R w) : F.masonrybook_Book_putObjects (some (blk g)) w R := by
  apply E.masonrybook_Book_putObjects
  unfold V.masonrybook_Book_putObjects
  refine ⟨fun i w' => i = 0 ∧ w' = w, fun _ _ => 0, ⟨rfl, rfl⟩, ?_⟩
  rintro i w1 ⟨rfl, rfl⟩
  exact ⟨blk g, rfl, ⟨none, 0, 0⟩, by rw [blk_cell h]; rfl, fun hlt => by simp at hlt, fun _ => hR⟩

theorem growObjects_spec {w : World} {g : Nat} {L W : Sl} (h : BookAt w g L W) {R : Sl → World → Prop} (hR : R ⟨none, 0, 0⟩ w) : F.masonrybook_Book_growObjects (some (blk g)) w R := by
  apply E.masonrybook_Book_growObjects
  unfold V.masonrybook_Book_growObjects
  refine ⟨fun out i w' => out = ⟨none, 0, 0⟩ ∧ i = 0 ∧ w' = w, fun _ _ _ => 0, ⟨rfl, rfl, rfl⟩, ?_⟩
  rintro out i w1 ⟨rfl, rfl, rfl⟩
  exact ⟨blk g, rfl, ⟨none, 0, 0⟩, by rw [blk_cell h]; rfl, fun hlt => by simp at hlt, fun _ => hR⟩

theorem markedObjects_spec {w : World} {R : Bool → World → Prop} (hR : R true w) : F.masonrybook_markedObjects ⟨none, 0, 0⟩ w R := by
  apply E.masonrybook_markedObjects
  unfold V.masonrybook_markedObjects
  refine ⟨fun i w' => i = 0 ∧ w' = w, fun _ _ => 0, ⟨rfl, rfl⟩, ?_⟩
  rintro i w1 ⟨rfl, rfl⟩
  exact ⟨fun hlt => by simp at hlt, fun _ => hR⟩

theorem stillWrites_spec {w : World} {g : Nat} {L W : Sl} (h : BookAt w g L W) {R : Bool → World → Prop} (hR : R true w) : F.masonrybook_Book_stillWrites (some (blk g)) w R := by
  apply E.masonrybook_Book_stillWrites
  unfold V.masonrybook_Book_stillWrites
  refine ⟨fun i w' => i = 0 ∧ w' = w, fun _ _ => 0, ⟨rfl, rfl⟩, ?_⟩
  rintro i w1 ⟨rfl, rfl⟩
  exact ⟨blk g, rfl, ⟨none, 0, 0⟩, by rw [blk_cell h]; rfl, fun hlt => by simp at hlt, fun _ => hR⟩

theorem putWrites_spec {w : World} {g : Nat} {L W : Sl} (h : BookAt w g L W) {R : World → Prop} (hR : R w) : F.masonrybook_Book_putWrites (some (blk g)) w R := by
  apply E.masonrybook_Book_putWrites
  unfold V.masonrybook_Book_putWrites
  refine ⟨fun i w' => i = 0 ∧ w' = w, fun _ _ => 0, ⟨rfl, rfl⟩, ?_⟩
  rintro i w1 ⟨rfl, rfl⟩
  exact ⟨blk g, rfl, ⟨none, 0, 0⟩, by rw [blk_cell h]; rfl, fun hlt => by simp at hlt, fun _ => hR⟩

theorem growWrites_spec {w : World} {g : Nat} {L W : Sl} (h : BookAt w g L W) {R : Sl → World → Prop} (hR : R ⟨none, 0, 0⟩ w) : F.masonrybook_Book_growWrites (some (blk g)) w R := by
  apply E.masonrybook_Book_growWrites
  unfold V.masonrybook_Book_growWrites
  refine ⟨fun out i w' => out = ⟨none, 0, 0⟩ ∧ i = 0 ∧ w' = w, fun _ _ _ => 0, ⟨rfl, rfl, rfl⟩, ?_⟩
  rintro out i w1 ⟨rfl, rfl, rfl⟩
  exact ⟨blk g, rfl, ⟨none, 0, 0⟩, by rw [blk_cell h]; rfl, fun hlt => by simp at hlt, fun _ => hR⟩

theorem markedWrites_spec {w : World} {R : Bool → World → Prop} (hR : R true w) : F.masonrybook_markedWrites ⟨none, 0, 0⟩ w R := by
  apply E.masonrybook_markedWrites
  unfold V.masonrybook_markedWrites
  refine ⟨fun i w' => i = 0 ∧ w' = w, fun _ _ => 0, ⟨rfl, rfl⟩, ?_⟩
  rintro i w1 ⟨rfl, rfl⟩
  exact ⟨fun hlt => by simp at hlt, fun _ => hR⟩

theorem stillSteps_spec {w : World} {g : Nat} {L W : Sl} (h : BookAt w g L W) {R : Bool → World → Prop} (hR : R true w) : F.masonrybook_Book_stillSteps (some (blk g)) w R := by
  apply E.masonrybook_Book_stillSteps
  unfold V.masonrybook_Book_stillSteps
  refine ⟨fun i w' => i = 0 ∧ w' = w, fun _ _ => 0, ⟨rfl, rfl⟩, ?_⟩
  rintro i w1 ⟨rfl, rfl⟩
  exact ⟨blk g, rfl, ⟨none, 0, 0⟩, by rw [blk_cell h]; rfl, fun hlt => by simp at hlt, fun _ => hR⟩

theorem putSteps_spec {w : World} {g : Nat} {L W : Sl} (h : BookAt w g L W) {R : World → Prop} (hR : R w) : F.masonrybook_Book_putSteps (some (blk g)) w R := by
  apply E.masonrybook_Book_putSteps
  unfold V.masonrybook_Book_putSteps
  refine ⟨fun i w' => i = 0 ∧ w' = w, fun _ _ => 0, ⟨rfl, rfl⟩, ?_⟩
  rintro i w1 ⟨rfl, rfl⟩
  exact ⟨blk g, rfl, ⟨none, 0, 0⟩, by rw [blk_cell h]; rfl, fun hlt => by simp at hlt, fun _ => hR⟩

theorem growSteps_spec {w : World} {g : Nat} {L W : Sl} (h : BookAt w g L W) {R : Sl → World → Prop} (hR : R ⟨none, 0, 0⟩ w) : F.masonrybook_Book_growSteps (some (blk g)) w R := by
  apply E.masonrybook_Book_growSteps
  unfold V.masonrybook_Book_growSteps
  refine ⟨fun out i w' => out = ⟨none, 0, 0⟩ ∧ i = 0 ∧ w' = w, fun _ _ _ => 0, ⟨rfl, rfl, rfl⟩, ?_⟩
  rintro out i w1 ⟨rfl, rfl, rfl⟩
  exact ⟨blk g, rfl, ⟨none, 0, 0⟩, by rw [blk_cell h]; rfl, fun hlt => by simp at hlt, fun _ => hR⟩

theorem markedSteps_spec {w : World} {R : Bool → World → Prop} (hR : R true w) : F.masonrybook_markedSteps ⟨none, 0, 0⟩ w R := by
  apply E.masonrybook_markedSteps
  unfold V.masonrybook_markedSteps
  refine ⟨fun i w' => i = 0 ∧ w' = w, fun _ _ => 0, ⟨rfl, rfl⟩, ?_⟩
  rintro i w1 ⟨rfl, rfl⟩
  exact ⟨fun hlt => by simp at hlt, fun _ => hR⟩

set_option maxHeartbeats 1000000 in
theorem ApartP_st {w : World} {X : List As} {g : Nat} {L W : Sl} {ks kw : List Kp} (h : St w (bk5 g L W ks kw ++ X)) (hn : ks.length ≤ 100) (he : kw.map (·.2) = ks.map (·.2)) (hz : ∀ p ∈ ks, p.2.length ≤ 100000) {R : Bool → World → Prop}
    (hR : ∀ w', St w' X → R true w') : F.masonrybook_Book_Apart (some (blk g)) w R := by
  apply E.masonrybook_Book_Apart
  unfold V.masonrybook_Book_Apart
  have obj : ∀ {w' : World} {ks kw : List Kp}, St w' (bk5 g L W ks kw ++ X) → BookAt w' g L W := fun hw => St.bl (t := T.y_masonrybook_Book) (L := _) hw
  have no : ∀ {P : Prop}, ((!true) = true → P) := fun h => (by cases h)
  have nt : ∀ {P : Prop}, (true = false → P) := fun h => (by cases h)
  refine stillTexts_spec (obj h) ⟨no, fun _ => ?_⟩
  refine stillInts_spec (obj h) ⟨no, fun _ => ?_⟩
  refine stillSpans_spec (obj h) ⟨no, fun _ => ?_⟩
  refine stillP_st h hn he (fun p hp => by have := hz p hp; omega) fun w1 h1 => ⟨no, fun _ => ?_⟩
  refine stillEntries_spec (obj h1) ⟨no, fun _ => ?_⟩
  refine stillObjects_spec (obj h1) ⟨no, fun _ => ?_⟩
  refine stillWrites_spec (obj h1) ⟨no, fun _ => ?_⟩
  refine stillSteps_spec (obj h1) ⟨no, fun _ => ?_⟩
  refine putSteps_spec (obj h1) (putTexts_spec (obj h1) (putInts_spec (obj h1) (putSpans_spec (obj h1) ?_)))
  refine putP_st h1 hn (fun p hp => by have := hz p hp; omega) fun w2 h2 => ?_
  refine putEntries_spec (obj h2) (putObjects_spec (obj h2) (putWrites_spec (obj h2) (growTexts_spec (obj h2) (growInts_spec (obj h2) (growSpans_spec (obj h2) ?_)))))
  have hzy : ∀ (i : Nat) (p : Kp), (mkd ks ks.length)[i]? = some p → p.2.length ≤ 100000 ∧ p.2 = marksP i 0 p.2.length := fun i p hp => by
    obtain ⟨q, hq, rfl⟩ := mkd_get hp
    have := hz q (List.mem_of_getElem? hq)
    unfold mk1
    simp only [marksP_len]
    exact ⟨this, trivial⟩
  refine growP_st h2 (by rw [mkd_len]; exact hn) hzy fun out gs w3 hgl h3 => ?_
  have h3 : St w3 (Cs g (bookC L W) T.y_masonrybook_Book :: Row ESl T.y_sl_api_Piece L (fsts (mkd ks ks.length)) :: Row ESl T.y_sl_api_Piece W (fsts kw) :: Row ESl T.y_sl_api_Piece out gs :: As.all (grL (mkd ks ks.length) gs) :: X) := h3
  have obj3 : ∀ {w' : World}, St w' (Cs g (bookC L W) T.y_masonrybook_Book :: Row ESl T.y_sl_api_Piece L (fsts (mkd ks ks.length)) :: Row ESl T.y_sl_api_Piece W (fsts kw) :: Row ESl T.y_sl_api_Piece out gs :: As.all (grL (mkd ks ks.length) gs) :: X) → BookAt w' g L W := fun hw => hw.bl
  have facts : ∀ w', St w' (Cs g (bookC L W) T.y_masonrybook_Book :: Row ESl T.y_sl_api_Piece L (fsts (mkd ks ks.length)) :: Row ESl T.y_sl_api_Piece W (fsts kw) :: Row ESl T.y_sl_api_Piece out gs :: As.all (grL (mkd ks ks.length) gs) :: X) →
      ∀ (i : Nat) (p : Kp) (q : Sl), (mkd ks ks.length)[i]? = some p → gs[i]? = some q → Has EPc w' q (marksP i 0 (p.2.length + 72)) ∧ Has EPc w' p.1 (marksP i 0 p.2.length) := fun w' hw i p q hp hq => by
    obtain ⟨S, hS⟩ := St.amongs hw.up4 (grL_get hp hq)
    exact GrA.has (St.one hS)
  refine growEntries_spec (obj3 h3) (growObjects_spec (obj3 h3) (growWrites_spec (obj3 h3) (growSteps_spec (obj3 h3) ?_)))
  refine markedTexts_spec ⟨fun _ => ⟨blk g, rfl, ⟨none, 0, 0⟩, by rw [blk_cell0 (obj3 h3)]; rfl, markedTexts_spec ⟨fun _ => ?_, nt⟩⟩, nt⟩
  refine markedInts_spec ⟨fun _ => ⟨blk g, rfl, ⟨none, 0, 0⟩, by rw [blk_cell (obj3 h3)]; rfl, markedInts_spec ⟨fun _ => ?_, nt⟩⟩, nt⟩
  refine markedSpans_spec ⟨fun _ => ⟨blk g, rfl, ⟨none, 0, 0⟩, by rw [blk_cell (obj3 h3)]; rfl, markedSpans_spec ⟨fun _ => ?_, nt⟩⟩, nt⟩
  refine markedP_st h3 (ss := gs) (fun w' hw => hw.up3.has (by decide)) (by rw [hgl, mkd_len]; exact hn) (fun w' hw i s hs => ?_) fun w4 h4 => ⟨fun _ => ⟨blk g, rfl, L, by rw [blk_cell (obj3 h4)]; rfl, ?_⟩, nt⟩
  · have hi := (List.getElem?_eq_some_iff.1 hs).1
    obtain ⟨h5, _⟩ := facts w' hw i _ s (List.getElem?_eq_getElem (by omega)) hs
    have := (hzy i _ (List.getElem?_eq_getElem (by omega))).1
    refine ⟨_, ?_, h5⟩
    omega
  refine markedP_st h4 (ss := fsts (mkd ks ks.length)) (fun w' hw => hw.sw.has (by decide)) (by rw [fsts_len, mkd_len]; exact hn) (fun w' hw i s hs => ?_) fun w5 h5 => ⟨fun _ => ?_, nt⟩
  · have hi := (List.getElem?_eq_some_iff.1 hs).1
    rw [fsts_len] at hi
    obtain ⟨_, h6⟩ := facts w' hw i _ _ (List.getElem?_eq_getElem hi) (List.getElem?_eq_getElem (by omega : i < gs.length))
    have := (hzy i _ (List.getElem?_eq_getElem hi)).1
    have e : s = ((mkd ks ks.length)[i]).1 := by
      unfold fsts at hs
      rw [List.getElem?_map, List.getElem?_eq_getElem hi] at hs
      simpa using hs.symm
    rw [← e] at h6
    refine ⟨_, ?_, h6⟩
    omega
  refine markedEntries_spec ⟨fun _ => ⟨blk g, rfl, ⟨none, 0, 0⟩, by rw [blk_cell (obj3 h5)]; rfl, markedEntries_spec ⟨fun _ => ?_, nt⟩⟩, nt⟩
  refine markedObjects_spec ⟨fun _ => ⟨blk g, rfl, ⟨none, 0, 0⟩, by rw [blk_cell (obj3 h5)]; rfl, markedObjects_spec ⟨fun _ => ?_, nt⟩⟩, nt⟩
  refine markedWrites_spec ⟨fun _ => ⟨blk g, rfl, ⟨none, 0, 0⟩, by rw [blk_cell (obj3 h5)]; rfl, markedWrites_spec ⟨fun _ => ?_, nt⟩⟩, nt⟩
  refine markedSteps_spec ⟨fun _ => ⟨blk g, rfl, ⟨none, 0, 0⟩, by rw [blk_cell (obj3 h5)]; rfl, markedSteps_spec ?_⟩, nt⟩
  exact hR _ h5.drop.drop.drop.drop.drop

end Go.Proofs.YtmokmbhhnbcelaaGreatDoor
