/- masonrybook.Book: lists of pieces that are kept: one more; still as they were; marked; grown. -/
import Derived.Test.YtmokmbhhnbcelaaGreatDoorBq
set_option linter.unusedVariables false
namespace Go.Proofs.YtmokmbhhnbcelaaGreatDoor
open Go Go.Vc Go.RowKit Go.Lib

/-- the book's cells: lists of pieces alone -/
abbrev bookC (L W : Sl) : List Value := [.slice none 0 0, .slice none 0 0, .slice none 0 0, .slice none 0 0, .slice none 0 0, .slice none 0 0, .slice L.a L.len L.cap, .slice W.a W.len W.cap, .slice none 0 0, .slice none 0 0, .slice none 0 0, .slice none 0 0, .slice none 0 0, .slice none 0 0, .slice none 0 0, .slice none 0 0]
abbrev Kp := Sl × List Pc
def fsts (ks : List Kp) : List Sl := ks.map (·.1)
theorem elt_slpc : Elt Pg T.y_sl_sl_api_Piece T.y_sl_api_Piece 1 24 := by
  refine ⟨by kernel_rfl, ?_, by decide⟩
  have h : (Pg.info? T.y_sl_api_Piece).map (fun i => (i.zero, i.size, i.bytes)) = some (some (.slice none 0 0), 1, 24) := by kernel_rfl
  obtain ⟨i, hi, h2⟩ := Option.map_eq_some_iff.1 h
  simp only [Prod.mk.injEq] at h2
  exact ⟨i, _, hi, h2.1, h2.2.1, h2.2.2, rfl⟩
theorem Has.sl {w : World} {l : Sl} {xs : List Sl} (h : Has ESl w l xs) {m : Nat} (hm : m < xs.length) : ∃ ad, l.a = some ad ∧ m < l.len ∧ w.cell? (ad.add (m * 1)) = some (.slice xs[m].a xs[m].len xs[m].cap) := by
  obtain ⟨ad, ha, hl, hc⟩ := h.at hm
  have h0 := hc 0 _ rfl
  rw [Vc.addr_add0] at h0
  exact ⟨ad, ha, hl, h0⟩
/-- the book, what it keeps, the copies -/
abbrev bk5 (g : Nat) (L W : Sl) (ks kw : List Kp) : List As := [Cs g (bookC L W) T.y_masonrybook_Book, Row ESl T.y_sl_api_Piece L (fsts ks), Row ESl T.y_sl_api_Piece W (fsts kw), Rows' EPc T.y_api_Piece ks, Rows' EPc T.y_api_Piece kw]
theorem fsts_get {ks : List Kp} {m : Nat} (hm : m < ks.length) : (fsts ks)[m]'(by simp [fsts]; exact hm) = ks[m].1 := by simp [fsts]
theorem fsts_len (ks : List Kp) : (fsts ks).length = ks.length := by simp [fsts]

section
variable {w : World} {X : List As} {g : Nat} {L W : Sl} {ks kw : List Kp}
theorem St.book0 (h : St w (Cs g (bookC ⟨none, 0, 0⟩ ⟨none, 0, 0⟩) T.y_masonrybook_Book :: X)) : St w (bk5 g ⟨none, 0, 0⟩ ⟨none, 0, 0⟩ [] [] ++ X) := by
  have h1 := (((Rows'.nil (En := EPc) (t := T.y_api_Piece) (Rows'.nil (En := EPc) (t := T.y_api_Piece) h)).row0 ESl T.y_sl_api_Piece).row0 ESl T.y_sl_api_Piece)
  exact h1.up4
set_option maxHeartbeats 1000000 in
theorem Pieces_st {l : Sl} {zs : List Pc} (h : St w (Row EPc T.y_api_Piece l zs :: (bk5 g L W ks kw ++ X))) (hn : ks.length ≤ 100) (hn2 : kw.length ≤ 100) (hz : zs.length ≤ 1000000) {R : World → Prop}
    (hR : ∀ L' W' c w', St w' (bk5 g L' W' (ks ++ [(l, zs)]) (kw ++ [(c, zs)]) ++ X) → R w') : F.masonrybook_Book_Pieces (some (blk g)) l w R := by
  apply E.masonrybook_Book_Pieces
  unfold V.masonrybook_Book_Pieces
  try simp (config := { zeta := false }) only [cnd_all, Nat.reduceAdd]
  have h : St w (Row EPc T.y_api_Piece l zs :: Cs g (bookC L W) T.y_masonrybook_Book :: Row ESl T.y_sl_api_Piece L (fsts ks) :: Row ESl T.y_sl_api_Piece W (fsts kw) :: Rows' EPc T.y_api_Piece ks :: Rows' EPc T.y_api_Piece kw :: X) := h
  have hl := (h.up2.has (by decide)).1
  rw [fsts_len] at hl
  refine ⟨L, h.sw.cell 6, fun _ => ⟨L, h.sw.cell 6, ?_⟩, fun hge => by omega⟩
  intro wa1
  replace h : St wa1 (Cs _ _ _ :: _) := h.new _ _
  clear_value wa1
  refine St.app elt_slpc h.up3 (sl := ⟨some (blk w.heap.size), 1, 1⟩) (ys := [l]) (h.lit (xs := [l]) rfl rfl 1) rfl (by simp [fsts_len]; omega) (by simp [fsts_len]; omega) fun L' w1 h1 hL1 => ?_
  have h1 := h1.d2.up2
  have e1 : fsts ks ++ [l] = fsts (ks ++ [(l, zs)]) := by simp [fsts]
  rw [e1] at h1
  refine ⟨h1.wr (by simp), ?_⟩
  intro wa2
  replace h1 : St wa2 _ := h1.set 6 _
  clear_value wa2
  simp only [List.set_cons_zero, List.set_cons_succ] at h1
  intro wa3
  replace h1 : St wa3 _ := h1.drew
  clear_value wa3
  refine ⟨W, h1.cell 7, ?_⟩
  have hr := h1.up2
  refine copyP_st h1 (xs := zs) (hr.has (by decide)) (Row.nilOk hr) hz fun c w2 h2 => ?_
  refine ⟨h2.sw.cell 7, ?_⟩
  intro wa4
  replace h2 : St wa4 (Cs _ _ _ :: _) := h2.new _ _
  clear_value wa4
  refine ⟨h2.up2.cell 7, ?_⟩
  refine St.app elt_slpc h2.up5 (sl := ⟨some (blk w2.heap.size), 1, 1⟩) (ys := [c]) (h2.lit (xs := [c]) rfl rfl 1) rfl (by simp [fsts_len]; omega) (by simp [fsts_len]; omega) fun W' w3 h3 hW3 => ?_
  have h3 := h3.d2.up2
  have e2 : fsts kw ++ [c] = fsts (kw ++ [(c, zs)]) := by simp [fsts]
  rw [e2] at h3
  refine ⟨h3.wr (by simp), ?_⟩
  intro wa5
  replace h3 : St wa5 _ := h3.set 7 _
  clear_value wa5
  simp only [List.set_cons_zero, List.set_cons_succ] at h3
  -- Cs g, W', c, L', l, ks, kw
  have q1 : St wa5 (Row EPc T.y_api_Piece c zs :: Rows' EPc T.y_api_Piece kw :: Cs g (bookC L' W') T.y_masonrybook_Book :: Row ESl T.y_sl_api_Piece W' (fsts (kw ++ [(c, zs)])) :: Row ESl T.y_sl_api_Piece L' (fsts (ks ++ [(l, zs)])) :: Row EPc T.y_api_Piece l zs :: Rows' EPc T.y_api_Piece ks :: X) := h3.up6.up3
  have q2 := Rows'.snoc (p := (c, zs)) q1
  have q3 : St wa5 (Row EPc T.y_api_Piece l zs :: Rows' EPc T.y_api_Piece ks :: Rows' EPc T.y_api_Piece (kw ++ [(c, zs)]) :: Cs g (bookC L' W') T.y_masonrybook_Book :: Row ESl T.y_sl_api_Piece W' (fsts (kw ++ [(c, zs)])) :: Row ESl T.y_sl_api_Piece L' (fsts (ks ++ [(l, zs)])) :: X) := (q2.up5).up5
  have q4 := Rows'.snoc (p := (l, zs)) q3
  -- ks', kw', Cs, W', L'
  have q5 : St wa5 (Cs g (bookC L' W') T.y_masonrybook_Book :: Row ESl T.y_sl_api_Piece L' (fsts (ks ++ [(l, zs)])) :: Row ESl T.y_sl_api_Piece W' (fsts (kw ++ [(c, zs)])) :: Rows' EPc T.y_api_Piece (ks ++ [(l, zs)]) :: Rows' EPc T.y_api_Piece (kw ++ [(c, zs)]) :: X) := (q4.up3.up4).up4
  exact hR L' W' c _ q5
theorem stillP_st (h : St w (bk5 g L W ks kw ++ X)) (hn : ks.length ≤ 100) (he : kw.map (·.2) = ks.map (·.2)) (hz : ∀ p ∈ ks, p.2.length ≤ 1000000) {R : Bool → World → Prop}
    (hR : ∀ w', St w' (bk5 g L W ks kw ++ X) → R true w') : F.masonrybook_Book_stillPieces (some (blk g)) w R := by
  apply E.masonrybook_Book_stillPieces
  unfold V.masonrybook_Book_stillPieces
  try simp (config := { zeta := false }) only [cnd_all, Nat.reduceAdd]
  have hlen : kw.length = ks.length := by have := congrArg List.length he; simpa using this
  refine ⟨Cnt ks.length fun m w' => St w' (bk5 g L W ks kw ++ X), cntM ks.length, Cnt.zero h, ?_⟩
  rintro _ w1 ⟨m, rfl, hm, h1⟩
  have h1 : St w1 (Cs g (bookC L W) T.y_masonrybook_Book :: Row ESl T.y_sl_api_Piece L (fsts ks) :: Row ESl T.y_sl_api_Piece W (fsts kw) :: Rows' EPc T.y_api_Piece ks :: Rows' EPc T.y_api_Piece kw :: X) := h1
  have hl := (h1.sw.has (by decide)).1
  rw [fsts_len] at hl
  refine ⟨L, h1.cell 6, fun hlt => ?_, fun _ => hR _ h1⟩
  have hlt : m < ks.length := by omega
  intro wa1
  replace h1 : St wa1 _ := h1.drew
  clear_value wa1
  have g1 : ks[m]? = some ks[m] := by simp [hlt]
  have g2 : kw[m]? = some (kw[m]'(by omega)) := by simp [hlen, hlt]
  obtain ⟨a1, ha1, hb1, c1⟩ := Has.sl (h1.sw.has (by decide)) (m := m) (by rw [fsts_len]; exact hlt)
  obtain ⟨a2, ha2, hb2, c2⟩ := Has.sl (h1.up2.has (by decide)) (m := m) (by rw [fsts_len]; omega)
  rw [fsts_get (by omega)] at c1 c2
  have e2 : (kw[m]'(by omega)).2 = ks[m].2 := by
    have h3 : (kw.map (·.2))[m]? = (ks.map (·.2))[m]? := by rw [he]
    rw [List.getElem?_map, List.getElem?_map, g1, g2] at h3
    simpa using h3
  refine ⟨L, h1.cell 6, a1, ha1, by omega, by omega, ks[m].1, c1, W, h1.cell 7, a2, ha2, by omega, by omega, (kw[m]'(by omega)).1, c2, ?_⟩
  have s1 : ∀ w', St w' (Cs g (bookC L W) T.y_masonrybook_Book :: Row ESl T.y_sl_api_Piece L (fsts ks) :: Row ESl T.y_sl_api_Piece W (fsts kw) :: Rows' EPc T.y_api_Piece ks :: Rows' EPc T.y_api_Piece kw :: X) → Has EPc w' ks[m].1 ks[m].2 := fun w' hw => Rows'.has hw.up3 (by decide) g1
  have s2 : ∀ w', St w' (Cs g (bookC L W) T.y_masonrybook_Book :: Row ESl T.y_sl_api_Piece L (fsts ks) :: Row ESl T.y_sl_api_Piece W (fsts kw) :: Rows' EPc T.y_api_Piece ks :: Rows' EPc T.y_api_Piece kw :: X) → Has EPc w' (kw[m]'(by omega)).1 ks[m].2 := fun w' hw => by
    have := Rows'.has hw.up4 (by decide) g2
    rw [e2] at this; exact this
  refine SameP_st h1 s1 s2 (hz _ (List.getElem_mem hlt)) fun w2 h2 => ?_
  rw [decide_eq_true rfl]
  exact ⟨h2.cell 7, h2.cell 6, fun h => (by cases h), fun _ => Cnt.next hlt (by omega) h2⟩
end
end Go.Proofs.YtmokmbhhnbcelaaGreatDoor

/- masonrybook.Book: lists of pieces that are kept: marked, grown; whether the marks are there. -/
set_option linter.unusedVariables false
namespace Go.Proofs.YtmokmbhhnbcelaaGreatDoor
open Go Go.Vc Go.RowKit Go.Lib

def mk1 (i : Nat) (p : Kp) : Kp := (p.1, marksP i 0 p.2.length)
def mkd (ks : List Kp) (m : Nat) : List Kp := (ks.take m).mapIdx mk1 ++ ks.drop m
theorem mkd_at {ks : List Kp} {m : Nat} (hm : m < ks.length) : mkd ks m = (ks.take m).mapIdx mk1 ++ ks[m] :: ks.drop (m + 1) ∧ mkd ks (m + 1) = (ks.take m).mapIdx mk1 ++ mk1 m ks[m] :: ks.drop (m + 1) := by
  unfold mkd
  refine ⟨by rw [List.drop_eq_getElem_cons hm], ?_⟩
  rw [List.take_succ_eq_append_getElem hm, List.mapIdx_append, List.append_assoc]
  congr 1
  simp [List.length_take, Nat.min_eq_left (Nat.le_of_lt hm)]
theorem fsts_mkd (ks : List Kp) : ∀ m, fsts (mkd ks m) = fsts ks
  | 0 => by simp [mkd]
  | m + 1 => by
    rcases Nat.lt_or_ge m ks.length with h | h
    · have ih := fsts_mkd ks m
      obtain ⟨e1, e2⟩ := mkd_at h
      rw [← ih, e1, e2]
      unfold fsts
      rw [List.map_append, List.map_append, List.map_cons, List.map_cons]
      rfl
    · have e : mkd ks (m + 1) = mkd ks m := by unfold mkd; rw [List.take_of_length_le (by omega), List.take_of_length_le (by omega), List.drop_of_length_le (by omega), List.drop_of_length_le (by omega)]
      rw [e]; exact fsts_mkd ks m
theorem mkd_get {ks : List Kp} {i : Nat} {p : Kp} (hp : (mkd ks ks.length)[i]? = some p) : ∃ q, ks[i]? = some q ∧ p = mk1 i q := by
  unfold mkd at hp
  rw [List.take_length, List.drop_length, List.append_nil, List.getElem?_mapIdx] at hp
  obtain ⟨q, h1, h2⟩ := Option.map_eq_some_iff.1 hp
  exact ⟨q, h1, h2.symm⟩
theorem mkd_len (ks : List Kp) (m : Nat) : (mkd ks m).length = ks.length := by unfold mkd; simp; omega

section
variable {w : World} {X : List As} {g : Nat} {L W : Sl} {ks kw : List Kp}
set_option maxHeartbeats 2000000 in
theorem putP_st (h : St w (bk5 g L W ks kw ++ X)) (hn : ks.length ≤ 100) (hz : ∀ p ∈ ks, p.2.length ≤ 1000000) {R : World → Prop}
    (hR : ∀ w', St w' (bk5 g L W (mkd ks ks.length) kw ++ X) → R w') : F.masonrybook_Book_putPieces (some (blk g)) w R := by
  apply E.masonrybook_Book_putPieces
  unfold V.masonrybook_Book_putPieces
  try simp (config := { zeta := false }) only [cnd_all, Nat.reduceAdd]
  have h0 : St w (bk5 g L W (mkd ks 0) kw ++ X) := by
    have e : mkd ks 0 = ks := by simp [mkd]
    rw [e]; exact h
  refine ⟨Cnt ks.length fun m w' => St w' (bk5 g L W (mkd ks m) kw ++ X), cntM ks.length, Cnt.zero h0, ?_⟩
  rintro _ w1 ⟨m, rfl, hm, h1⟩
  have h1 : St w1 (Cs g (bookC L W) T.y_masonrybook_Book :: Row ESl T.y_sl_api_Piece L (fsts (mkd ks m)) :: Row ESl T.y_sl_api_Piece W (fsts kw) :: Rows' EPc T.y_api_Piece (mkd ks m) :: Rows' EPc T.y_api_Piece kw :: X) := h1
  rw [fsts_mkd] at h1
  have hl := (h1.sw.has (by decide)).1
  rw [fsts_len] at hl
  refine ⟨L, h1.cell 6, fun hlt => ?_, fun hge => ?_⟩
  · have hlt : m < ks.length := by omega
    obtain ⟨e1, e2⟩ := mkd_at hlt
    have hzm := hz _ (List.getElem_mem hlt)
    rw [e1] at h1
    obtain ⟨a1, ha1, hb1, c1⟩ := Has.sl (h1.sw.has (by decide)) (m := m) (by rw [fsts_len]; exact hlt)
    rw [fsts_get hlt] at c1
    refine ⟨L, h1.cell 6, a1, ha1, by omega, by omega, ks[m].1, c1, ?_⟩
    have h2 := Rows'.split h1.up3
    have hpl := (h2.has (by decide)).1
    rw [hpl]
    refine markP_st (a := 0) h2 (by omega) (by omega) fun o w2 h3 => ?_
    have hol := (h3.has (by decide)).1
    rw [marksP_len] at hol
    generalize hN : ks[m].2.length = N at *
    refine ⟨Cnt N fun k w' => St w' (Row EPc T.y_api_Piece o (marksP m 0 N) :: Row EPc T.y_api_Piece ks[m].1 (marksP m 0 k ++ ks[m].2.drop k) :: Rows' EPc T.y_api_Piece ((ks.take m).mapIdx mk1) :: Rows' EPc T.y_api_Piece (ks.drop (m + 1)) :: Cs g (bookC L W) T.y_masonrybook_Book :: Row ESl T.y_sl_api_Piece L (fsts ks) :: Row ESl T.y_sl_api_Piece W (fsts kw) :: Rows' EPc T.y_api_Piece kw :: X), cntM N, Cnt.zero (by simpa [marksP] using h3), ?_⟩
    rintro _ w3 ⟨k, rfl, hk, h4⟩
    refine ⟨fun hkl => ?_, fun hkg => ?_⟩
    · have hkl : k < N := by omega
      intro wa1
      replace h4 : St wa1 _ := h4.drew
      clear_value wa1
      have q4 := h4.up4
      obtain ⟨a2, ha2, hb2, c2⟩ := Has.sl (h4.up5.has (by decide)) (m := m) (by rw [fsts_len]; exact hlt)
      rw [fsts_get hlt] at c2
      obtain ⟨a3, ha3, hb3, d0, d1⟩ := Has.pc (h4.has (by decide)) (m := k) (by rw [marksP_len]; exact hkl)
      rw [marksP_get _ _ _ hkl] at d0 d1
      have hlen : (marksP m 0 k ++ ks[m].2.drop k).length = N := by rw [List.length_append, marksP_len, List.length_drop, hN]; omega
      obtain ⟨a4, ha4, hb4, _, _⟩ := Has.pc (h4.sw.has (by decide)) (m := k) (by rw [hlen]; exact hkl)
      refine ⟨L, q4.cell 6, a2, ha2, by omega, by omega, ks[m].1, c2, a3, ha3, by omega, by omega, _, d0, _, d1, a4, ha4, by omega, by omega, ?_⟩
      obtain ⟨⟨p1, p2⟩, _⟩ := Row.setPc h4.sw (k := k) (by rw [hlen]; exact hkl) ha4 (mkP m k).1
      refine ⟨p1, ?_⟩
      intro wb1
      replace p2 : St wb1 _ := p2
      clear_value wb1
      obtain ⟨_, ⟨p3, p4⟩⟩ := Row.setPc p2 (k := k) (by rw [List.length_set, hlen]; exact hkl) ha4 (mkP m k).2
      refine ⟨p3, ?_⟩
      intro wb2
      replace p4 : St wb2 _ := p4
      clear_value wb2
      rw [List.set_set] at p4
      have es0 : (marksP m 0 k ++ ks[m].2.drop k).set k (mkP m k) = marksP m 0 (k + 1) ++ ks[m].2.drop (k + 1) := by
        rw [List.set_append_right _ _ (by rw [marksP_len]; exact Nat.le_refl _), marksP_len, Nat.sub_self, List.drop_eq_getElem_cons (by omega : k < ks[m].2.length), List.set_cons_zero, marksP_succ, List.append_assoc, Nat.zero_add]
        rfl
      have es : (marksP m 0 k ++ ks[m].2.drop k).set k ((((marksP m 0 k ++ ks[m].2.drop k).set k ((mkP m k).1, ((marksP m 0 k ++ ks[m].2.drop k)[k]'(by rw [hlen]; exact hkl)).2))[k]'(by rw [List.length_set, hlen]; exact hkl)).1, (mkP m k).2) = marksP m 0 (k + 1) ++ ks[m].2.drop (k + 1) := by
        simp only [List.getElem_set_self]
        exact es0
      rw [es] at p4
      exact Cnt.next hkl (by omega) p4.sw
    · have hkk : k = N := by omega
      subst hkk
      have h5 := h4.drop
      rw [List.drop_of_length_le (by rw [hN]; exact Nat.le_refl _), List.append_nil] at h5
      have e3 : mk1 m ks[m] = (ks[m].1, marksP m 0 k) := by unfold mk1; rw [hN]
      have h6 := Rows'.join (p := (ks[m].1, marksP m 0 k)) h5
      rw [← e3, ← e2] at h6
      refine Cnt.next hlt (by omega) ?_
      show St w3 (Cs g (bookC L W) T.y_masonrybook_Book :: Row ESl T.y_sl_api_Piece L (fsts (mkd ks (m + 1))) :: Row ESl T.y_sl_api_Piece W (fsts kw) :: Rows' EPc T.y_api_Piece (mkd ks (m + 1)) :: Rows' EPc T.y_api_Piece kw :: X)
      rw [fsts_mkd]
      exact (h6.up3).up3.up3
  · have hmm : m = ks.length := by omega
    subst hmm
    refine hR _ ?_
    show St w1 (Cs g (bookC L W) T.y_masonrybook_Book :: Row ESl T.y_sl_api_Piece L (fsts (mkd ks ks.length)) :: Row ESl T.y_sl_api_Piece W (fsts kw) :: Rows' EPc T.y_api_Piece (mkd ks ks.length) :: Rows' EPc T.y_api_Piece kw :: X)
    rw [fsts_mkd]; exact h1
end
end Go.Proofs.YtmokmbhhnbcelaaGreatDoor
