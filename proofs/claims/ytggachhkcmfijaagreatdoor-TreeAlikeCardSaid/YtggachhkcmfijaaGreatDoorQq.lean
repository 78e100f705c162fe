/- Trees: the places of a print. -/
import Derived.Test.YtggachhkcmfijaaGreatDoorQn
set_option linter.unusedVariables false
namespace Go.Proofs.YtggachhkcmfijaaGreatDoor
open Go Go.Vc Go.RowKit Go.Lib Go.Maps
theorem pr_eq (k pk : Int) (a b : Bs) : ((k == pk) && (sEq (tx a) (tx b) && true)) = decide (k = pk ∧ a = b) := by
 rw [tx_eq, Bool.eq_iff_iff]
 simp
section
variable {t k gk cd go : Nat} {gen tg : Int} {rt : Option Addr} {osl : Sl} {D : DkV} {es : List Ent} {pk : Int} {s : Bs}
theorem findE_len (l : List Ey) : (findE l pk s).length ≤ l.length := by
 unfold findE
 rw [List.length_map]
 exact List.length_filter_le ..
set_option maxHeartbeats 8000000 in
theorem find_st (hH : Have D es) : ∀ (d : Nat) {A : Nd d} {g : Nat} {w : World} {X : List As} {depth : Int} {acc : List Int} {out : Sl} (h : St w (NodeS tnN tpN d g A :: Cs t (trC k gen rt osl) tTr :: DeskS k gk cd D :: Cs go [.slice out.a out.len out.cap] T.y_sl_int :: Row EI T.y_int out acc :: X)) (hD : Dk es tg d A) (hB : Bd d A) (hl : 1 ≤ A.l.length ∧ A.l.length ≤ 6) (hdp : 0 ≤ depth) (hdp2 : depth + (d : Int) ≤ 10) (hacc : acc.length + (flat d A).length ≤ 100000) {R : Int → World → Prop}
   (hR : ∀ w' out', St w' (NodeS tnN tpN d g A :: Cs t (trC k gen rt osl) tTr :: DeskS k gk cd D :: Cs go [.slice out'.a out'.len out'.cap] T.y_sl_int :: Row EI T.y_int out' (acc ++ findE (flat d A) pk s) :: X) → R 0 w'), F.tree_tree_find (some (blk t)) (some (blk g)) pk (tx s) depth (some (blk go)) w R
 | 0, A, g, w, X, depth, acc, out, h, hD, hB, hl, hdp, hdp2, hacc, R, hR => by
   apply E.tree_tree_find
   unfold V.tree_tree_find
   try simp -zeta only [ldC, soC, brC, bkA, slC, cnd_all, blk_add2, Nat.reduceAdd]
   refine St.al h fun wa1 q => ?_
   generalize w.heap.size = gp at *
   refine load_st (q.up3.up3.up3) hH hD hB hl.1 hl.2 (by omega) fun w1 q => ⟨fun h => absurd rfl h, fun _ => ?_⟩
   obtain ⟨l, q⟩ := NodeR.leaf q
   have hll := (St.has q.sw (by decide)).1
   -- node, row, tree, desk, print, go, out
   refine ⟨_, q.cell 4, fun n w' => ∃ (m : Nat) (out' : Sl), n = m ∧ m ≤ A.l.length ∧ St w' (Cs g (ndC A.at_ true true A.wr l ⟨none, 0, 0⟩) tnN :: Row EE tEy l A.l :: Cs gp [.int .i64 pk, .string (tx s)] T.y_api_Print :: Cs go [.slice out'.a out'.len out'.cap] T.y_sl_int :: Row EI T.y_int out' (acc ++ findE (A.l.take m) pk s) :: Cs t (trC k gen rt osl) tTr :: DeskS k gk cd D :: X), fun n _ => ((A.l.length : Int) - n).toNat, ⟨0, out, rfl, Nat.zero_le _, ?_⟩, ?_⟩
   · have e : acc ++ findE (A.l.take 0) pk s = acc := by simp [findE]
     rw [e]
     exact q.up6.up6.up6.up4.up4
   clear q
   rintro _ w2 ⟨m, out', rfl, hm, q⟩
   refine ⟨fun hlt => ?_, fun hge => ?_⟩
   · have hlt : m < A.l.length := by omega
     have hms : ((A.l.length : Int) - ((m + 1 : Nat) : Int)).toNat < ((A.l.length : Int) - (m : Int)).toNat := by omega
     obtain ⟨ad, ha, hb, c0, c1, c2⟩ := Has.ey (St.has q.sw (by decide)) hlt
     have ft := findE_take (k := pk) (s := s) hlt
     have hfl := findE_len (pk := pk) (s := s) (A.l.take m)
     rw [List.length_take] at hfl
     have hfa : acc.length + A.l.length ≤ 100000 := hacc
     rw [w64_succ (by omega)]
     refine ⟨ad, ha, by omega, by omega, _, c0, _, c1, _, c2, ?_⟩
     generalize A.l[m] = y at *
     refine St.al q fun wa2 q => ?_
     refine St.fill3 q fun wa5 q => ?_
     refine ⟨fun b w' => b = decide (y.k = pk ∧ y.s = s) ∧ St w' _, ⟨_, q.sw.cell 2, fun _ => ⟨_, q.cell0, _, q.cell 1, _, q.up3.cell0, _, q.up3.cell 1, pr_eq _ _ _ _, q⟩, fun h => (by cases h)⟩, ?_⟩
     clear q
     rintro b w7 ⟨rfl, q⟩
     -- entry, node, row, print, go, out, tree, desk
     refine ⟨fun hb => ?_, fun hb => ?_⟩
     · have hb := of_decide_eq_true hb
       rw [if_pos hb] at ft
       refine St.dr q fun wa6 q => ?_
       refine ⟨_, q.up4.cell0, _, q.cell 2, ?_⟩
       refine St.al q fun wa7 q => ?_
       refine ⟨q.up5.cell0, ?_⟩
       refine St.app elt_int q.up6 (sl := ⟨some (blk _), 1, 1⟩) (ys := [y.a]) (q.lit (En := EI) (xs := [y.a]) rfl rfl 1) rfl (by simp; omega) (by simp; omega) fun l2 w10 q _ => ?_
       -- out, lit, entry, node, row, print, go, tree, desk
       have q := q.up6
       refine St.st0 q (by simp) fun wa8 q => ?_
       refine ⟨⟨m + 1, l2, rfl, hlt, ?_⟩, hms⟩
       rw [ft, ← List.append_assoc]
       exact (q.up8.up8.up3.up3.up8.up8.up8.up8.up8).drop.drop
     · have hb := of_decide_eq_false hb
       rw [if_neg hb] at ft
       refine ⟨fun b w' => b = true ∧ St w' _, St.dr q fun w12 q => ⟨_, q.sw.cell 2, fun _ => ⟨q.sw.cell 2, q.sw.cell 2, rfl, q⟩, fun h => (by cases h)⟩, ?_⟩
       rintro b w15 ⟨rfl, q⟩
       refine ⟨fun _ => ⟨⟨m + 1, out', rfl, hlt, ?_⟩, hms⟩, fun h => (by cases h)⟩
       rw [ft]
       exact q.drop
   · have hmm : m = A.l.length := by omega
     subst hmm
     rw [List.take_length] at q
     exact hR w2 out' (NodeR.s (NodeR.ofLeaf (q.up6.up6.up3.up3.up4).drop))
 | d + 1, A, g, w, X, depth, acc, out, h, hD, hB, hl, hdp, hdp2, hacc, R, hR => by
   have hko := KidsOk.of hB
   have hlk : A.l.length = (kidsOf A).length := by rw [hB.1, keyL_len]
   have hkey : ∀ (i : Nat) (hi : i < (kidsOf A).length), A.l[i]'(by omega) = hdE (kidsOf A)[i].l := fun i hi => by
     have := keyL_get hi
     rw [← this]
     congr 1
     exact hB.1
   apply E.tree_tree_find
   unfold V.tree_tree_find
   try simp -zeta only [ldC, soC, brC, bkA, slC, cnd_all, blk_add2, Nat.reduceAdd]
   refine St.al h fun wa9 q => ?_
   generalize w.heap.size = gp at *
   refine load_st (q.up3.up3.up3) hH hD hB hl.1 hl.2 (by omega) fun w1 q => ⟨fun h => absurd rfl h, fun _ => ?_⟩
   obtain ⟨l, kk, gs, hgl, q⟩ := NodeR.kids q
   have hll := (St.has q.sw (by decide)).1
   have hkl := (St.has q.up2 (by decide)).1
   -- node, row l, row k, kids, tree, desk, print, go, out
   refine ⟨_, q.cell 4, fun n w' => ∃ (m : Nat) (out' : Sl), n = m ∧ m ≤ A.l.length ∧ St w' (Cs g (ndC A.at_ true false A.wr l kk) tnN :: Row EE tEy l A.l :: Cs gp [.int .i64 pk, .string (tx s)] T.y_api_Print :: Row EPt tpN kk gs :: KidsS tnN tpN d gs (kidsOf A) :: Cs t (trC k gen rt osl) tTr :: DeskS k gk cd D :: Cs go [.slice out'.a out'.len out'.cap] T.y_sl_int :: Row EI T.y_int out' (acc ++ findE (flatL d ((kidsOf A).take m)) pk s) :: X), fun n _ => ((A.l.length : Int) - n).toNat, ⟨0, out, rfl, Nat.zero_le _, ?_⟩, ?_⟩
   · have e : acc ++ findE (flatL d ((kidsOf A).take 0)) pk s = acc := by simp [findE]
     rw [e]
     exact q.up6.up2.up2
   clear q
   rintro _ w2 ⟨m, out', rfl, hm, q⟩
   refine ⟨fun hlt => ?_, fun hge => ?_⟩
   · have hlt : m < A.l.length := by omega
     have hlt' : m < (kidsOf A).length := by omega
     have hms : ((A.l.length : Int) - ((m + 1 : Nat) : Int)).toNat < ((A.l.length : Int) - (m : Int)).toNat := by omega
     obtain ⟨ad, ha, hb, c0, c1, c2⟩ := Has.ey (St.has q.sw (by decide)) hlt
     have hkm := hkey m hlt'
     have hft : findE (flatL d ((kidsOf A).take (m + 1))) pk s = findE (flatL d ((kidsOf A).take m)) pk s ++ findE (flat d (kidsOf A)[m]) pk s := by
       rw [List.take_succ_eq_append_getElem hlt', flatL_app, flatL_one, findE_app]
     have hcut : flat (d + 1) A = flatL d ((kidsOf A).take m) ++ (flat d (kidsOf A)[m] ++ flatL d ((kidsOf A).drop (m + 1))) := by
       show flatL d (kidsOf A) = _
       rw [← flatL_cons, ← flatL_app, take_mid_eq hlt']
     have hfm := findE_len (pk := pk) (s := s) (flatL d ((kidsOf A).take m))
     rw [hcut, List.length_append, List.length_append] at hacc
     rw [w64_succ (by omega)]
     refine ⟨ad, ha, by omega, by omega, _, c0, _, c1, _, c2, ?_⟩
     refine St.al q fun wa10 q => ?_
     generalize w2.heap.size = gx at *
     refine St.fill3 q fun wa13 q => ?_
     refine ⟨fun b w' => b = false ∧ St w' _, ⟨_, q.sw.cell 2, fun h => (by cases h), fun _ => ⟨rfl, q⟩⟩, ?_⟩
     clear q
     rintro b w7 ⟨rfl, q⟩
     -- entry, node, row l, print, row k, kids, tree, desk, go, out
     refine ⟨fun h => (by cases h), fun _ => ?_⟩
     refine ⟨fun b w' => (b = true → findE (flat d (kidsOf A)[m]) pk s = []) ∧ St w' (Cs gx [.int .i64 A.l[m].k, .string (tx A.l[m].s), .int .i64 A.l[m].a] T.y_api_Entry :: Cs g (ndC A.at_ true false A.wr l kk) tnN :: Row EE tEy l A.l :: Cs gp [.int .i64 pk, .string (tx s)] T.y_api_Print :: Row EPt tpN kk gs :: KidsS tnN tpN d gs (kidsOf A) :: Cs t (trC k gen rt osl) tTr :: DeskS k gk cd D :: Cs go [.slice out'.a out'.len out'.cap] T.y_sl_int :: Row EI T.y_int out' (acc ++ findE (flatL d ((kidsOf A).take m)) pk s) :: X), ?_, ?_⟩
     · refine St.dr q fun wa14 q => ?_
       refine ⟨_, q.sw.cell 2, fun h => (by cases h), fun _ => ⟨_, q.cell0, _, q.cell 1, _, q.up3.cell0, _, q.up3.cell 1, ?_⟩⟩
       refine mcompare_st q fun w13 _ q => ⟨q.sw.cell 2, fun hgt => ⟨q.sw.cell 2, fun _ => ?_, q⟩, fun _ => ⟨_, q.sw.cell 4, fun hl3 => ?_, fun hl3 => ⟨q.sw.cell 4, q.sw.cell 2, fun h => (by cases h), q⟩⟩⟩
       · have := (cmpP_gt _ _ _ _).1 hgt
         rw [hkm] at this
         exact skip_hi hko hlt' this
       · have hl3 : m + 1 < A.l.length := by omega
         obtain ⟨ad8, ha8, hb8, f0, f1, f2⟩ := Has.ey (St.has q.up2 (by decide)) hl3
         refine ⟨_, q.sw.cell 4, ad8, ha8, by omega, by omega, _, f0, _, f1, _, q.up3.cell0, _, q.up3.cell 1, ?_⟩
         refine mcompare_st q fun w14 _ q => ⟨q.sw.cell 4, q.sw.cell 4, q.sw.cell 2, fun hlt2 => ?_, q⟩
         have := (cmpP_lt _ _ _ _).1 (of_decide_eq_true hlt2)
         rw [hkey (m + 1) (by omega)] at this
         exact skip_lo hko (by omega) this
     clear q
     rintro b w15 ⟨hsk, q⟩
     refine ⟨fun hb => ⟨⟨m + 1, out', rfl, hlt, ?_⟩, hms⟩, fun hb => ?_⟩
     · rw [hft, hsk hb, List.append_nil]
       exact q.drop
     · refine St.dr q fun wa15 q => ?_
       obtain ⟨ad9, ha9, hb9, g0⟩ := Has.pt (St.has q.up4 (by decide)) (m := m) (by omega)
       refine ⟨_, q.sw.cell 5, ad9, ha9, by omega, by omega, _, g0, _, q.up3.cell0, _, q.up3.cell 1, ?_⟩
       have hgi : m < gs.length := by omega
       have q := KidsS.out hgl hlt' q.up5
       obtain ⟨b1, b3, b6⟩ := hko.bd _ (List.getElem_mem hlt')
       have e1 : w64 (depth + 1) = depth + 1 := w64_id (by omega) (by omega)
       rw [e1]
       -- kid, lo, hi, entry, node, row l, print, row k, tree, desk, go, out
       refine find_st hH d (q.up7.up7.up7.up7.up6.up6.up11.up11.up11.up11.up10) (hD.2 _ (List.getElem_mem hlt')) b1 ⟨by omega, b6⟩ (by omega) (by omega) (by rw [List.length_append]; omega) fun w17 out2 q => ⟨?_, fun h => absurd rfl h, fun _ => ⟨⟨m + 1, out2, rfl, hlt, ?_⟩, hms⟩⟩
       · -- kid, tree, desk, go, out, lo, hi, node, row l, print, row k, entry
         exact q.up7.cell 5
       · have q := KidsS.into (by rw [List.length_take, List.length_take, hgl]) (q.up6.up6.up2)
         rw [take_mid_eq hgi, take_mid_eq hlt'] at q
         rw [hft, ← List.append_assoc]
         exact (q.up8.up8.up8.up8.up9).drop
   · have hmm : m = (kidsOf A).length := by omega
     subst hmm
     rw [List.take_length] at q
     exact hR w2 out' (NodeR.s (NodeR.ofKids hgl (q.up2).drop))
end
end Go.Proofs.YtggachhkcmfijaaGreatDoor

/- Trees: Find; how deep they are; are they sound. -/
set_option linter.unusedVariables false
namespace Go.Proofs.YtggachhkcmfijaaGreatDoor
open Go Go.Vc Go.RowKit Go.Lib Go.Maps
theorem TrD.fit {es : List Ent} {gen root : Int} {L : List Ey} {d : Nat} {A : Nd d} (hok : OkT (some ⟨d, A⟩)) (hfl : flatT (some ⟨d, A⟩) = L) (hl : L.length ≤ 161) : d ≤ 3 := depth_le hok.1 hok.2.1 (n := 161) (by rw [show flat d A = L from hfl]; exact hl) (by decide)
section
variable {w : World} {X : List As} {k gk cd : Nat} {D : DkV} {es : List Ent} {gen tg root : Int} {L : List Ey}
set_option maxHeartbeats 4000000 in
theorem TFind_st (h : St w (DeskS k gk cd D :: X)) (hH : Have D es) (hT : TrD es tg root L) (hl : L.length ≤ 161) {pk : Int} {s : Bs} (hs : s.length ≤ 1000000000) {R : Sl → Int → World → Prop}
   (hR : ∀ sl w', St w' (Row EI T.y_int sl (findE L pk s) :: DeskS k gk cd D :: X) → R sl 0 w') : F.tree_Find (some (blk k)) root pk (tx s) w R := by
 obtain ⟨Tr, hr, hM⟩ := hT.mem hH
 apply E.tree_Find
 unfold V.tree_Find
 try simp -zeta only [ldC, soC, brC, bkA, slC, cnd_all, blk_add2, Nat.reduceAdd]
 refine St.al h fun wa1 q => ?_
 generalize w.heap.size = gp at *
 refine topen_st q.sw hH hM.ok hM.dk hr fun t w1 q => ?_
 refine ⟨fun b w' => b = Tr.isNone ∧ St w' (TreeS t k 0 Tr [] :: DeskS k gk cd D :: Cs gp [.int .i64 pk, .string (tx s)] T.y_api_Print :: X), ⟨fun h => absurd rfl h, fun _ => ?_⟩, ?_⟩
 · obtain ⟨r, osl, q2⟩ := TreeS.parts q
   refine ⟨_, rfl, _, q2.cell 2, ?_, q⟩
   rcases RootS.cases q2.up2 with ⟨rfl, rfl, _⟩ | ⟨g, d, A, rfl, rfl, _⟩ <;> rfl
 clear q h
 rintro b w2 ⟨rfl, q⟩
 cases Tr with
 | none =>
   have hL : L = [] := hM.fl.symm
   subst hL
   exact ⟨fun _ => hR _ w2 (St.row0 q.drop.d2 EI T.y_int), fun h => (by cases h)⟩
 | some p =>
   obtain ⟨d, A⟩ := p
   refine ⟨fun h => (by cases h), fun _ => ?_⟩
   refine St.al q fun wa2 q => ?_
   generalize w2.heap.size = go at *
   refine St.dr q fun wa3 q => ?_
   obtain ⟨r, osl, q⟩ := TreeS.parts q.sw
   have q0 := q.up2
   clear q
   rcases RootS.cases q0 with ⟨rfl, hno, qz⟩ | ⟨g, d', A', rfl, he, qz⟩
   · cases hno
   have q := qz
   injection he with he
   injection he with he1 he2
   subst he1
   have he2 := eq_of_heq he2
   subst he2
   have hok := hM.ok
   have hfl : flat d A = L := hM.fl
   have hd := TrD.fit (es := es) (gen := tg) (root := root) hok hM.fl hl
   have q := St.row0 q EI T.y_int
   -- row, node, tree, old, out, desk, print
   refine ⟨_, rfl, _, q.up2.cell 2, _, q.up6.cell0, _, q.up6.cell 1, ?_⟩
   refine find_st hH d (acc := []) (out := ⟨none, 0, 0⟩) q.up4.up5.up4.up4 hM.dk hok.1 hok.len (by decide) (by omega) (by rw [hfl]; simp; omega) fun w5 out' q => ⟨fun h => absurd rfl h, fun _ => ⟨_, q.up3.cell0, ?_⟩⟩
   rw [hfl, List.nil_append] at q
   have hup := findE_up hM.good.1 pk s
   have hfe := findE_len (pk := pk) (s := s) L
   -- node, tree, desk, out, row, old, print
   refine Sort_I q.up4 (by omega) fun w6 q => ⟨_, q.up4.cell0, hR out' w6 ?_⟩
   rw [sort_up hup] at q
   exact (q.up6.up6.up6.up5.up5).drop.drop.drop.drop.drop
/-- how deep a tree is -/
def depT : Tree → Nat
 | none => 0
 | some ⟨d, _⟩ => d + 1
set_option maxHeartbeats 4000000 in
theorem TDepth_st {Tr : Tree} (h : St w (DeskS k gk cd D :: X)) (hH : Have D es) (hr : RootT Tr root) (hM : MTr D es tg Tr [] L) (hl : L.length ≤ 161) {R : Int → Int → World → Prop}
   (hR : ∀ w', St w' (DeskS k gk cd D :: X) → R (depT Tr : Int) 0 w') : F.tree_Depth (some (blk k)) root w R := by
 apply E.tree_Depth
 unfold V.tree_Depth
 try simp -zeta only [ldC, soC, brC, bkA, slC, cnd_all, blk_add2, Nat.reduceAdd]
 refine topen_st h hH hM.ok hM.dk hr fun t w1 q => ⟨fun h => absurd rfl h, fun _ => ?_⟩
 obtain ⟨r, osl, q⟩ := TreeS.parts q
 refine ⟨_, rfl, _, q.cell 2, fun depth n w' => ∃ j : Nat, depth = j ∧ ((n = none ∧ j = depT Tr ∧ St w' (DeskS k gk cd D :: X)) ∨ ∃ (d' g' : Nat) (A' : Nd d') (Y : List As), n = some (blk g') ∧ j + d' + 1 = depT Tr ∧ depT Tr ≤ 4 ∧ Dk es tg d' A' ∧ Bd d' A' ∧ (1 ≤ A'.l.length ∧ A'.l.length ≤ 6) ∧ St w' (NodeS tnN tpN d' g' A' :: Cs t (trC k 0 (ptO r) osl) tTr :: DeskS k gk cd D :: Y) ∧ ∀ w'', St w'' (NodeS tnN tpN d' g' A' :: Cs t (trC k 0 (ptO r) osl) tTr :: DeskS k gk cd D :: Y) → St w'' (DeskS k gk cd D :: X)), fun depth _ _ => (10 - depth).toNat, ⟨0, rfl, ?_⟩, ?_⟩
 · have q0 := q.up2
   clear q
   rcases RootS.cases q0 with ⟨rfl, rfl, qz⟩ | ⟨g, d, A, rfl, rfl, qz⟩
   · exact .inl ⟨rfl, rfl, qz.drop.drop⟩
   · have hok := hM.ok
     have hd := TrD.fit (es := es) (gen := tg) (root := root) hok hM.fl hl
     exact .inr ⟨d, g, A, Row EI T.y_int osl [] :: X, rfl, by show 0 + d + 1 = d + 1; omega, by show d + 1 ≤ 4; omega, hM.dk, hok.1, hok.len, qz.up3.up2.up2, fun w'' q => q.drop.drop.d2⟩
 clear q h
 rintro depth n w1 ⟨j, rfl, hn⟩
 rcases hn with ⟨rfl, rfl, q⟩ | ⟨d', g', A', Y, rfl, hj, hj4, hDk, hBd, hlen, q, hback⟩
 · exact ⟨fun h => absurd h (by simp), fun _ => hR w1 q⟩
 refine ⟨fun _ => ?_, fun h => absurd h (by simp)⟩
 rw [w64_succ (by omega)]
 refine load_st q hH hDk hBd hlen.1 hlen.2 (by omega) fun w2 q => ⟨fun h => absurd rfl h, fun _ => ?_⟩
 cases d' with
 | zero =>
   obtain ⟨l', k', s⟩ := NodeR.see q
   refine ⟨_, rfl, _, s.c2, fun _ => ?_, fun h => absurd h (by simp)⟩
   have := hR w2 (hback w2 (NodeR.s q))
   rw [← hj] at this
   exact this
 | succ d =>
   have hll : A'.l.length = (kidsOf A').length := by rw [hBd.1, keyL_len]
   obtain ⟨kk, ad, gi, Y', c2, c5, ha, hb, c0, q, hback2⟩ := NodeR.down q (i := 0) (by omega)
   obtain ⟨b1, b3, b6⟩ := (KidsOk.of hBd).bd _ (List.getElem_mem (show 0 < (kidsOf A').length by omega))
   refine ⟨_, rfl, _, c2, fun h => (by cases h), fun _ => ⟨_, rfl, _, c5, ad, ha, by omega, by omega, _, c0, ⟨j + 1, rfl, .inr ⟨d, gi, _, Y', rfl, by omega, hj4, hDk.2 _ (List.getElem_mem _), b1, ⟨by omega, b6⟩, q, fun w'' q => hback w'' (hback2 w'' q)⟩⟩, ?_⟩⟩
   show (10 - ((j + 1 : Nat) : Int)).toNat < (10 - (j : Int)).toNat
   omega
end
end Go.Proofs.YtggachhkcmfijaaGreatDoor
