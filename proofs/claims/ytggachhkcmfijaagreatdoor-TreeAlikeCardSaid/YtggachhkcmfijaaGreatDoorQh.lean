/- Trees: an entry is added. -/
import Derived.Test.YtggachhkcmfijaaGreatDoorQg
set_option linter.unusedVariables false
namespace Go.Proofs.YtggachhkcmfijaaGreatDoor
open Go Go.Vc Go.RowKit Go.Lib Go.Maps
section
variable {w : World} {X : List As} {d g : Nat}
theorem KidsS.half {gs : List Nat} {ks : List (Nd d)} (hl : gs.length = ks.length) (m : Nat) (h : St w (KidsS tnN tpN d gs ks :: X)) : St w (KidsS tnN tpN d (gs.take m) (ks.take m) :: KidsS tnN tpN d (gs.drop m) (ks.drop m) :: X) :=
 KidsS.two (by rw [List.length_take, List.length_take, hl]) (by rw [List.take_append_drop, List.take_append_drop]; exact h)
theorem cut_st {A : Nd d} (h : St w (NodeR tnN tpN d g A :: X)) (hks : 0 < d → A.l.length = A.ks.length) (hb : A.l.length ≤ 100) {R : Option Addr → World → Prop}
   (hR : ∀ w' o, St w' (OptN tnN tpN d o (cutN A).2 :: NodeR tnN tpN d g (cutN A).1 :: X) → R (ptO o) w') : F.tree_node_cut (some (blk g)) w R := by
 unfold cutN at hR
 by_cases h6 : A.l.length ≤ 6
 · rw [if_pos h6] at hR
   obtain ⟨l, k, Z, q, hback⟩ := NodeR.open_ h
   have hl := (St.has q.sw (by decide)).1
   apply E.tree_node_cut
   unfold V.tree_node_cut
   try simp -zeta only [ldC, soC, brC, bkA, slC, cnd_all, blk_add2, Nat.reduceAdd]
   exact ⟨_, q.cell 4, fun _ => hR w none (OptN.none_ h), fun hno => absurd (by omega) hno⟩
 · rw [if_neg h6] at hR
   cases d with
   | zero =>
     obtain ⟨l, q⟩ := NodeR.leaf h
     have q := St.row0 q EPt tpN
     refine cut_mid (lf := true) (gs := []) q.dn2 (by omega) hb (fun h => (by cases h)) (fun _ => ⟨rfl, rfl⟩) fun w' g' l1 k1 l2 k2 hk q => ?_
     obtain ⟨e1, e2⟩ := hk rfl
     subst e1; subst e2
     refine hR w' (some g') ?_
     have q := q.up4.up4.up3.up3
     have q1 : St w' (NodeR tnN tpN 0 g' (⟨0, true, A.l.drop (A.l.length / 2), A.ks.drop (A.l.length / 2)⟩ : Nd 0) :: _) := NodeR.ofLeaf q
     have q2 : St w' (NodeR tnN tpN 0 g (⟨A.at_, A.wr, A.l.take (A.l.length / 2), A.ks.take (A.l.length / 2)⟩ : Nd 0) :: _) := NodeR.ofLeaf q1.dn2
     exact q2.sw.d3.d3
   | succ d =>
     obtain ⟨l, k, gs, hgl, q⟩ := NodeR.kids h
     have hll : A.l.length = (kidsOf A).length := hks (Nat.succ_pos _)
     refine cut_mid (lf := false) q (by omega) hb (fun _ => by omega) (fun h => (by cases h)) fun w' g' l1 k1 l2 k2 hk q => ?_
     refine hR w' (some g') ?_
     generalize A.l.length / 2 = m at *
     -- new, l1, k1, node, l2, k2, kids
     have q := q.up6
     have q := KidsS.half hgl m q
     -- kids lo, kids hi, new, l1, k1, node, l2, k2
     have q := q.up7.up7.up7.up4.up7.up7.up7
     have q1 : St w' (NodeR tnN tpN (d + 1) g' (⟨0, true, A.l.drop m, A.ks.drop m⟩ : Nd (d + 1)) :: _) := NodeR.ofKids (by rw [List.length_drop, hgl]; exact (List.length_drop).symm) q
     have q2 : St w' (NodeR tnN tpN (d + 1) g (⟨A.at_, A.wr, A.l.take m, A.ks.take m⟩ : Nd (d + 1)) :: _) := NodeR.ofKids (by rw [List.length_take, hgl]; exact (List.length_take).symm) q1.dn4
     exact q2.sw
end
section
variable {X : List As} {t k gk cd : Nat} {D : DkV} {es : List Ent} {tg gen : Int} {rt : Option Addr} {osl : Sl}
theorem addN_succ {d : Nat} {A : Nd (d + 1)} {x : Ey} (hlt : belowN A.l x < (kidsOf A).length) : addN (d + 1) A x = cutN (d := d + 1) (ndK A.at_ true ((kidsOf A).take (belowN A.l x) ++ (addN d (kidsOf A)[belowN A.l x] x).1 :: ((addN d (kidsOf A)[belowN A.l x] x).2.toList ++ (kidsOf A).drop (belowN A.l x + 1)))) := by
 show (match (kidsOf A)[belowN A.l x]? with | none => _ | some k => _) = _
 rw [List.getElem?_eq_getElem hlt]
 simp only [insAt_set hlt]
 rfl
theorem below_pk {d : Nat} {A : Nd (d + 1)} (hB : Bd (d + 1) A) (h0 : A.l ≠ []) (x : Ey) : ∃ i, belowN A.l x = i ∧ ∃ hlt : i < (kidsOf A).length, (x ∈ flat (d + 1) A ↔ x ∈ flat d (kidsOf A)[i]) ∧ addN (d + 1) A x = cutN (d := d + 1) (ndK A.at_ true ((kidsOf A).take i ++ (addN d (kidsOf A)[i] x).1 :: ((addN d (kidsOf A)[i] x).2.toList ++ (kidsOf A).drop (i + 1)))) := by
 obtain ⟨hlt, _, _, _, hm⟩ := below_at hB h0 x
 exact ⟨_, rfl, hlt, hm, addN_succ hlt⟩
theorem heads_st2 {w : World} {X : List As} {d g : Nat} {us vs bs : List Nat} {ps qs rs : List (Nd d)} {mid : List Ey} {l k : Sl} {a : Int} {rd lf wr : Bool} (h1 : us.length = ps.length) (h2 : vs.length = qs.length) (h3 : bs.length = rs.length) (hmid : mid.length = qs.length)
   (h : St w (Cs g (ndC a rd lf wr l k) tnN :: Row EE tEy l (keyL ps ++ mid ++ keyL rs) :: Row EPt tpN k (us ++ vs ++ bs) :: KidsS tnN tpN d us ps :: KidsR tnN tpN d vs qs :: KidsS tnN tpN d bs rs :: X))
   (hN : (ps ++ qs ++ rs).length ≤ 1000) (hne : ∀ q ∈ ps ++ qs ++ rs, 1 ≤ q.l.length) {R : World → Prop}
   (hR : ∀ w', St w' (Cs g (ndC a rd lf wr l k) tnN :: Row EE tEy l (keyL (ps ++ qs ++ rs)) :: Row EPt tpN k (us ++ vs ++ bs) :: KidsS tnN tpN d (us ++ vs ++ bs) (ps ++ qs ++ rs) :: X) → R w') : F.tree_node_heads (some (blk g)) w R := by
 have hkp := keyL_len ps
 have hkr := keyL_len rs
 have hll : (keyL ps ++ mid ++ keyL rs).length = (ps ++ qs ++ rs).length := by simp only [List.length_append]; omega
 refine heads_st rfl h1 h2 h3 h hll (by omega) (fun i hi ho => ?_) hne fun w' q => hR w' ?_
 · have hi' : i < ps.length + qs.length + rs.length := by simpa [List.length_append, Nat.add_assoc] using hi
   rcases ho with c | c
   · rw [List.getElem_append_left (by rw [List.length_append]; omega), List.getElem_append_left (by omega), keyL_get c]
     congr 2
     rw [List.getElem_append_left (by rw [List.length_append]; omega), List.getElem_append_left c]
   · have hj : i - (ps.length + qs.length) < rs.length := by omega
     have e1 : (keyL ps ++ mid ++ keyL rs)[i]'(by omega) = (keyL rs)[i - (ps.length + qs.length)]'(by omega) := by
       rw [List.getElem_append_right (by rw [List.length_append]; omega)]
       congr 1
       rw [List.length_append]; omega
     have e2 : (ps ++ qs ++ rs)[i] = rs[i - (ps.length + qs.length)] := by
       rw [List.getElem_append_right (by rw [List.length_append]; omega)]
       congr 1
       rw [List.length_append]
     rw [e1, e2, keyL_get hj]
 · exact (KidsS.mid h1 h2 q.up5.up5.up5).dn3
theorem take_mid_eq {α : Type} {l : List α} {i : Nat} (hi : i < l.length) : l.take i ++ l[i] :: l.drop (i + 1) = l := by rw [← List.drop_eq_getElem_cons hi, List.take_append_drop]
theorem insE_mk (l : List Ey) (x : Ey) : l.take (cntE l x) ++ [x] ++ l.drop (cntE l x) = insE l x := by unfold insE; simp
theorem take_ins {α : Type} {l : List α} {i : Nat} (hi : i < l.length) (r : List α) : l.take (i + 1) ++ r ++ l.drop (i + 1) = l.take i ++ (l[i] :: r) ++ l.drop (i + 1) := by
 rw [List.take_succ_eq_append_getElem hi, List.append_assoc, List.append_assoc, List.append_assoc]; rfl
set_option maxHeartbeats 8000000 in
theorem add_st {x : Ey} (hx : okE x) (hH : Have D es) : ∀ (d : Nat) {A : Nd d} {g : Nat} {w : World} {X : List As} {depth : Int} (h : St w (NodeS tnN tpN d g A :: Cs t (trC k gen rt osl) tTr :: DeskS k gk cd D :: X)) (hD : Dk es tg d A) (hB : Bd d A) (h0 : 1 ≤ A.l.length) (h6 : A.l.length ≤ 6) (hdp : 0 ≤ depth) (hdp2 : depth + (d : Int) ≤ 10) {R : Option Addr → Int → World → Prop}
   (hE : x ∈ flat d A → ∀ w', St w' (NodeS tnN tpN d g A :: Cs t (trC k gen rt osl) tTr :: DeskS k gk cd D :: X) → R none 9 w')
   (hR : x ∉ flat d A → ∀ w' o, St w' (OptN tnN tpN d o (addN d A x).2 :: NodeR tnN tpN d g (addN d A x).1 :: Cs t (trC k gen rt osl) tTr :: DeskS k gk cd D :: X) → R (ptO o) 0 w'), F.tree_tree_add (some (blk t)) (some (blk g)) x.k (tx x.s) x.a depth w R
 | 0, A, g, w, X, depth, h, hD, hB, h0, h6, hdp, hdp2, R, hE, hR => by
   apply E.tree_tree_add
   unfold V.tree_tree_add
   try simp -zeta only [ldC, soC, brC, bkA, slC, cnd_all, blk_add2, Nat.reduceAdd]
   refine St.al h fun wa1 q => ?_
   generalize w.heap.size = gx at *
   have q : St _ (NodeS tnN tpN 0 g A :: Cs t (trC k gen rt osl) tTr :: DeskS k gk cd D :: Cs gx [.int .i64 x.k, .string (tx x.s), .int .i64 x.a] T.y_api_Entry :: X) := q.up3.up3.up3
   refine load_st q hH hD hB h0 h6 (by omega) fun w1 q => ⟨fun h => absurd rfl h, fun _ => ?_⟩
   obtain ⟨l, q⟩ := NodeR.leaf q
   refine ⟨_, q.cell 2, fun _ => ?_, fun h => (by cases h)⟩
   refine St.dr q fun wa2 q => ?_
   have hll := (St.has q.sw (by decide)).1
   have hcl := cntE_le A.l x
   refine ⟨_, q.cell 4, _, q.up4.cell0, _, q.up4.cell 1, _, q.up4.cell 2, Search_ey (xs := A.l) q (fun w' hw => St.has hw.sw (by decide)) hB.1 (by omega) fun w3 q => ⟨fun hb => ?_, fun hb => ?_⟩⟩
   · exact hE (of_decide_eq_true hb) w3 (NodeR.s (NodeR.ofLeaf q.up4.drop))
   · have hno : x ∉ A.l := of_decide_eq_false hb
     refine St.dr q fun wa3 q => ?_
     refine ⟨_, q.cell 4, _, q.up4.cell0, _, q.up4.cell 1, _, q.up4.cell 2, ?_⟩
     refine St.al q fun wa4 q => ?_
     refine ⟨q.sw.cell 4, ?_⟩
     refine Insert_st (x := x) (q.up2.sw) (by omega) hcl fun l2 w6 q => ?_
     rw [insE_mk] at q
     -- row, node, tree, desk, entry
     have q := q.sw
     refine St.st q (by simp) fun wa5 q => ?_
     refine St.st q (by simp) fun wa6 q => ?_
     have q : St _ (NodeR tnN tpN 0 g (⟨A.at_, true, insE A.l x, A.ks⟩ : Nd 0) :: _) := NodeR.ofLeaf q
     have hil := insE_len A.l x
     refine cut_st q (fun h => absurd h (Nat.lt_irrefl _)) (by show (insE A.l x).length ≤ 100; omega) fun w9 o q => hR hno w9 o ?_
     exact q.up4.drop
 | d + 1, A, g, w, X, depth, h, hD, hB, h0, h6, hdp, hdp2, R, hE, hR => by
   obtain ⟨i, hi, hlt, hm, hun⟩ := below_pk hB (fun e => by rw [e] at h0; simp at h0) x
   have hko := KidsOk.of hB
   have hll : A.l.length = (kidsOf A).length := by rw [hB.1, keyL_len]
   obtain ⟨b1, b3, b6⟩ := hko.bd _ (List.getElem_mem hlt)
   apply E.tree_tree_add
   unfold V.tree_tree_add
   try simp -zeta only [ldC, soC, brC, bkA, slC, cnd_all, blk_add2, Nat.reduceAdd]
   refine St.al h fun wa7 q => ?_
   generalize w.heap.size = gx at *
   have q : St _ (NodeS tnN tpN (d + 1) g A :: Cs t (trC k gen rt osl) tTr :: DeskS k gk cd D :: Cs gx [.int .i64 x.k, .string (tx x.s), .int .i64 x.a] T.y_api_Entry :: X) := q.up3.up3.up3
   refine load_st q hH hD hB h0 h6 (by omega) fun w1 q => ⟨fun h => absurd rfl h, fun _ => ?_⟩
   obtain ⟨l', k', s⟩ := NodeR.see q
   refine ⟨_, s.c2, fun h => absurd h (by simp), fun _ => ?_⟩
   refine ⟨_, q.up3.cell0, _, q.up3.cell 1, _, q.up3.cell 2, below_st q hB.keys (by omega) fun w10 q => ?_⟩
   rw [hi]
   obtain ⟨l, kk, gs, hgl, q⟩ := NodeR.kids q
   refine St.dr q fun wa8 q => ?_
   -- node, row l, row k, kids, tree, desk, entry
   obtain ⟨ad, ha, hb, c0⟩ := Has.pt (St.has q.up2 (by decide)) (m := i) (by omega)
   refine ⟨_, q.cell 5, ad, ha, by omega, by omega, _, c0, _, q.up6.cell0, _, q.up6.cell 1, _, q.up6.cell 2, ?_⟩
   have hDk := hD.2 _ (List.getElem_mem hlt)
   have hcl := (St.has q.sw (by decide)).1
   have hadd := add_ok d _ x b1 (fun e => by rw [e] at b3; simp at b3) b6 hx
   have hgi : i < gs.length := by omega
   have q := KidsS.out hgl hlt q.up3
   have hkl : (keyL (kidsOf A)).length = (kidsOf A).length := keyL_len _
   have hbel : ∀ (i : Nat) (hi : i < (kidsOf A).length), A.l[i]'(by omega) = hdE (kidsOf A)[i].l := fun i hi => by
     have := keyL_get hi
     rw [← this]
     congr 1
     exact hB.1
   generalize hgq : gs[i] = gi at *
   -- kid, kids lo, kids hi, node, row l, row k, tree, desk, entry
   have q : St _ (NodeS tnN tpN d gi (kidsOf A)[i] :: Cs t (trC k gen rt osl) tTr :: DeskS k gk cd D :: KidsS tnN tpN d (gs.take i) ((kidsOf A).take i) :: KidsS tnN tpN d (gs.drop (i + 1)) ((kidsOf A).drop (i + 1)) :: Cs g (ndC A.at_ true false A.wr l kk) tnN :: Row EE tEy l A.l :: Row EPt tpN kk gs :: Cs gx [.int .i64 x.k, .string (tx x.s), .int .i64 x.a] T.y_api_Entry :: X) := q.up8.up6.up6.up6.up6.up6.up8.up8.up8
   have e1 : w64 (depth + 1) = depth + 1 := w64_id (by omega) (by omega)
   rw [e1]
   refine add_st hx hH d q hDk b1 (by omega) b6 (by omega) (by omega) (fun hin w12 q => ⟨?_, fun _ => ?_, fun h => absurd h (by decide)⟩) fun hno w12 o q => ⟨?_, fun h => absurd rfl h, fun _ => ?_⟩
   · exact q.up5.cell 5
   · refine hE (hm.2 hin) w12 ?_
     -- kid, tree, desk, lo, hi, node, row l, row k, entry
     have q := q.up8.up3.up3.up8.up8.up8.up8.up8.up8
     have q := KidsS.into (by rw [List.length_take, List.length_take, hgl]) q
     rw [← hgq, take_mid_eq hgi, take_mid_eq hlt] at q
     -- kids, node, row l, row k, tree, desk, entry
     exact NodeR.s (NodeR.ofKids hgl q.up6.drop.up5.up5.up2.up5.up5.up5)
   · exact q.up6.cell 5
   have hc := hadd hno
   generalize hr : addN d (kidsOf A)[i] x = r at *
   obtain ⟨r1, r2⟩ := r
   simp only at q hun hc
   have hr3 : 3 ≤ r1.l.length := by
     cases r2 with
     | none => have := hc.no rfl; simp only at this; omega
     | some m => exact (hc.so m rfl).2.2.2
   have hne : ∀ q ∈ (kidsOf A).take i ++ (r1 :: r2.toList) ++ (kidsOf A).drop (i + 1), 1 ≤ q.l.length := fun q hq => by
     rcases List.mem_append.1 hq with hq | hq
     · rcases List.mem_append.1 hq with hq | hq
       · have := (hko.bd q (List.mem_of_mem_take hq)).2.1; omega
       · rcases List.mem_cons.1 hq with rfl | hq
         · omega
         · have := (hc.so q (Option.mem_toList.1 hq)).2.1; omega
     · have := (hko.bd q (List.mem_of_mem_drop hq)).2.1; omega
   have el : A.l = keyL ((kidsOf A).take i) ++ [A.l[i]'(by omega)] ++ keyL ((kidsOf A).drop (i + 1)) := by
     have e2 := take_mid_eq (l := A.l) (i := i) (by omega)
     have e3 : A.l.take i = keyL ((kidsOf A).take i) := by rw [hB.1]; simp [keyL, List.map_take]
     have e4 : A.l.drop (i + 1) = keyL ((kidsOf A).drop (i + 1)) := by rw [hB.1]; simp [keyL, List.map_drop]
     rw [← e3, ← e4, List.append_assoc]
     exact e2.symm
   have eg : gs = gs.take i ++ [gi] ++ gs.drop (i + 1) := by
     rw [← hgq, List.append_assoc]
     exact (take_mid_eq hgi).symm
   have eun : (kidsOf A).take i ++ r1 :: (r2.toList ++ (kidsOf A).drop (i + 1)) = (kidsOf A).take i ++ (r1 :: r2.toList) ++ (kidsOf A).drop (i + 1) := by simp
   rw [eun] at hun
   have hl1 : (gs.take i).length = ((kidsOf A).take i).length := by rw [List.length_take, List.length_take, hgl]
   have hl2 : (gs.drop (i + 1)).length = ((kidsOf A).drop (i + 1)).length := by rw [List.length_drop, List.length_drop, hgl]
   have h2l : r2.toList.length ≤ 1 := by cases r2 <;> simp
   have hall : ((kidsOf A).take i ++ (r1 :: r2.toList) ++ (kidsOf A).drop (i + 1)).length ≤ 7 := by
     simp only [List.length_append, List.length_cons, List.length_take, List.length_drop]
     omega
   -- what is left to be done behind the insertion
   have fin : ∀ (w0 : World) (l9 k9 : Sl) (vs : List Nat) (mid : List Ey), vs.length = (r1 :: r2.toList).length → mid.length = (r1 :: r2.toList).length → St w0 (Cs g (ndC A.at_ true false true l9 k9) tnN :: Row EE tEy l9 (keyL ((kidsOf A).take i) ++ mid ++ keyL ((kidsOf A).drop (i + 1))) :: Row EPt tpN k9 (gs.take i ++ vs ++ gs.drop (i + 1)) :: KidsS tnN tpN d (gs.take i) ((kidsOf A).take i) :: KidsR tnN tpN d vs (r1 :: r2.toList) :: KidsS tnN tpN d (gs.drop (i + 1)) ((kidsOf A).drop (i + 1)) :: Cs t (trC k gen rt osl) tTr :: DeskS k gk cd D :: Cs gx [.int .i64 x.k, .string (tx x.s), .int .i64 x.a] T.y_api_Entry :: X) →
       F.tree_node_heads (some (blk g)) w0 fun w1 => F.tree_node_cut (some (blk g)) w1 fun p w2 => R p 0 w2 := fun w0 l9 k9 vs mid hv hmd q => by
     refine heads_st2 hl1 hv hl2 hmd q (by omega) hne fun w1 q => ?_
     have q : St w1 (NodeR tnN tpN (d + 1) g (ndK A.at_ true ((kidsOf A).take i ++ (r1 :: r2.toList) ++ (kidsOf A).drop (i + 1))) :: _) := NodeR.ofKids (by
       simp only [List.length_append]
       show _ = ((kidsOf A).take i ++ (r1 :: r2.toList) ++ (kidsOf A).drop (i + 1)).length
       simp only [List.length_append]
       omega) q
     refine cut_st q (fun _ => keyL_len _) (by show (keyL _).length ≤ 100; rw [keyL_len]; omega) fun w2 o q => hR (fun h => hno (hm.1 h)) w2 o ?_
     rw [hun]
     exact q.up4.drop
   -- opt, kid, tree, desk, lo, hi, node, row l, row k, entry
   have q := q.up6
   refine St.st q (by simp) fun wa9 q => ?_
   have q0 := q.sw
   clear q
   rcases OptN.cases q0 with ⟨rfl, rfl, qz⟩ | ⟨gm, m, rfl, rfl, qz⟩
   · have q := qz
     refine ⟨fun h => absurd h (by simp [ptO]), fun _ => ?_⟩
     -- node, kid, tree, desk, lo, hi, row l, row k, entry
     have q := KidsR.one q.sw
     have q := q.up8.up4.up4.up6.up4.up6.up8.up8.up8
     refine fin _ l kk [gi] [A.l[i]'(by omega)] rfl rfl ?_
     rw [← eg, ← el]
     exact q
   · have q := qz
     refine ⟨fun _ => ?_, fun h => absurd h (by simp [ptO])⟩
     have hm4 := hc.so m rfl
     -- new, node, kid, tree, desk, lo, hi, row l, row k, entry
     refine ⟨_, q.sw.cell 5, ?_⟩
     refine St.al q fun wa10 q => ?_
     -- lit, new, node, kid, tree, desk, lo, hi, row l, row k, entry
     have ei1 : w64 ((i : Int) + 1) = ((i + 1 : Nat) : Int) := w64_succ (by omega)
     rw [ei1]
     have q := q.up9.sw
     refine InsertP_st (x := gm) q (by omega) (by omega) fun l5 w15 q => ?_
     -- row k, new, node, kid, tree, desk, lo, hi, row l, entry
     have q := q.up2
     refine St.st q (by simp) fun wa11 q => ?_
     refine St.dr q fun wa12 q => ?_
     -- node, row k, new, kid, tree, desk, lo, hi, row l, entry
     have q := q.up8.up3
     obtain ⟨ln, kn, C, q, hback⟩ := NodeR.open_ q
     -- new, its row, C, row l, node, row k, kid, tree, desk, lo, hi, entry
     obtain ⟨ad6, ha6, hb6, f0, f1, f2⟩ := Has.ey (St.has q.sw (by decide)) (m := 0) (by omega)
     refine ⟨_, q.up4.cell 4, _, rfl, _, q.cell 4, ad6, ha6, by omega, by omega, _, f0, _, f1, _, f2, ?_⟩
     refine St.al q fun wa13 q => ?_
     refine ⟨q.sw.cell 4, q.up5.cell 4, ?_⟩
     refine Insert_st (x := m.l[0]'(by omega)) q.up4.sw (by omega) (by omega) fun l8 w19 q => ⟨q.sw.cell 4, ?_⟩
     -- row l, new, its row, C, node, row k, kid, tree, desk, lo, hi, entry
     have q := q.up4
     refine St.st q (by simp) fun wa14 q => ?_
     have q := hback q.up5.up2.up2.up5.up5.up5
     -- new, node, row l, row k, kid, tree, desk, lo, hi, entry
     have q := KidsR.two q.up4
     have q := q.up8.up6.up6.up8.up4.up8.up8.up8.up8
     refine fin _ l8 l5 [gi, gm] [A.l[i]'(by omega), m.l[0]'(by omega)] rfl rfl ?_
     have e3 : A.l.take i = keyL ((kidsOf A).take i) := by rw [hB.1]; simp [keyL, List.map_take]
     have e4 : A.l.drop (i + 1) = keyL ((kidsOf A).drop (i + 1)) := by rw [hB.1]; simp [keyL, List.map_drop]
     have e5 := take_ins (l := A.l) (i := i) (by omega) [m.l[0]'(by omega)]
     have e6 := take_ins (l := gs) (i := i) hgi [gm]
     rw [e3, e4] at e5
     rw [hgq] at e6
     rw [← e5, ← e6]
     rw [← e4] 
     exact q
end
end Go.Proofs.YtggachhkcmfijaaGreatDoor
