/- Trees: where an entry belongs; the least entries of what is below; a part is cut. -/
import Derived.Test.YtggachhkcmfijaaGreatDoorQx
import Derived.Test.YtggachhkcmfijaaGreatDoorQp
set_option linter.unusedVariables false
namespace Go.Proofs.YtggachhkcmfijaaGreatDoor
open Go Go.Vc Go.RowKit Go.Lib Go.Maps
section
variable {w : World} {X : List As} {d g : Nat}
theorem NodeR.open_ {A : Nd d} (h : St w (NodeR tnN tpN d g A :: X)) : ∃ l k C, St w (Cs g (ndC A.at_ true (decide (d = 0)) A.wr l k) tnN :: Row EE tEy l A.l :: C :: X) ∧ ∀ {w' : World} {X' : List As}, St w' (Cs g (ndC A.at_ true (decide (d = 0)) A.wr l k) tnN :: Row EE tEy l A.l :: C :: X') → St w' (NodeR tnN tpN d g A :: X') := by
 cases d with
 | zero =>
   obtain ⟨l, q⟩ := NodeR.leaf h
   exact ⟨l, ⟨none, 0, 0⟩, As.all [], (All.nil q).dn2, fun q => NodeR.ofLeaf q.d3⟩
 | succ d =>
   obtain ⟨l, k, gs, hl, q⟩ := NodeR.kids h
   refine ⟨l, k, As.all [Row EPt tpN k gs, KidsS tnN tpN d gs (kidsOf A)], ?_, fun q => NodeR.ofKids (l := l) (k := k) hl ?_⟩
   · have q1 : St w (As.all [Row EPt tpN k gs, KidsS tnN tpN d gs (kidsOf A)] :: _) := St.fold [Row EPt tpN k gs, KidsS tnN tpN d gs (kidsOf A)] q.up3.up3
     exact q1.dn2
   · have q1 := q.up2.unfold
     exact q1.up3.up3
theorem below_st {A : Nd d} {x : Ey} (h : St w (NodeR tnN tpN d g A :: X)) (hs : Srt A.l) (hl : A.l.length ≤ 100) {R : Int → World → Prop} (hR : ∀ w', St w' (NodeR tnN tpN d g A :: X) → R (belowN A.l x : Int) w') : F.tree_node_below (some (blk g)) x.k (tx x.s) x.a w R := by
 apply E.tree_node_below
 unfold V.tree_node_below
 try simp -zeta only [ldC, soC, brC, bkA, slC, cnd_all, blk_add2, Nat.reduceAdd]
 obtain ⟨l, k, Z, q, hback⟩ := NodeR.open_ h
 refine St.al q fun wa1 q => ?_
 generalize w.heap.size = gx at *
 refine St.dr q fun wa2 q => ?_
 have hcl := cntE_le A.l x
 refine ⟨_, q.sw.cell 4, _, q.cell0, _, q.cell 1, _, q.cell 2, Search_ey (xs := A.l) q (fun w' hw => St.has hw.up2 (by decide)) hs (by omega) fun w2 q => ⟨fun hb => ?_, fun hb => ?_⟩⟩
 · have := hR w2 (hback q.drop)
   unfold belowN at this
   rw [if_pos (of_decide_eq_true hb)] at this; exact this
 · have := hR w2 (hback q.drop)
   unfold belowN at this
   rw [if_neg (of_decide_eq_false hb)] at this
   have e : imax (w64 ((cntE A.l x : Int) - 1)) 0 = ((cntE A.l x - 1 : Nat) : Int) := by
     unfold imax
     rw [w64_id (by omega) (by omega)]
     split <;> omega
   rw [e]; exact this
theorem mid_see {us vs bs : List Nat} {ps qs rs : List (Nd d)} (h1 : us.length = ps.length) (h2 : vs.length = qs.length) (h3 : bs.length = rs.length) (h : St w (KidsS tnN tpN d us ps :: KidsR tnN tpN d vs qs :: KidsS tnN tpN d bs rs :: X)) {j : Nat} (hj : j < (ps ++ qs ++ rs).length) (hj' : j < (us ++ vs ++ bs).length) :
   ∃ b lf l k, Seen w (us ++ vs ++ bs)[j] (ps ++ qs ++ rs)[j] b lf l k ∧ (b = false → j < ps.length ∨ ps.length + qs.length ≤ j) := by
 have hlen : j < ps.length + qs.length + rs.length := by rw [List.length_append, List.length_append] at hj; exact hj
 rcases Nat.lt_or_ge j ps.length with c1 | c1
 · obtain ⟨b, lf, l, k, s⟩ := KidsS.see h1 c1 h
   refine ⟨b, lf, l, k, ?_, fun _ => .inl c1⟩
   have e1 : (us ++ vs ++ bs)[j] = us[j]'(by omega) := by rw [List.getElem_append_left (by rw [List.length_append]; omega), List.getElem_append_left (by omega)]
   have e2 : (ps ++ qs ++ rs)[j] = ps[j] := by rw [List.getElem_append_left (by rw [List.length_append]; omega), List.getElem_append_left c1]
   rw [e1, e2]; exact s
 rcases Nat.lt_or_ge j (ps.length + qs.length) with c2 | c2
 · obtain ⟨l, k, s⟩ := KidsR.see h2 (i := j - ps.length) (by omega) h.sw
   refine ⟨true, decide (d = 0), l, k, ?_, fun h => (by cases h)⟩
   have e1 : (us ++ vs ++ bs)[j] = vs[j - ps.length]'(by omega) := by
     rw [List.getElem_append_left (by rw [List.length_append]; omega), List.getElem_append_right (by omega)]
     congr 1; omega
   have e2 : (ps ++ qs ++ rs)[j] = qs[j - ps.length]'(by omega) := by
     rw [List.getElem_append_left (by rw [List.length_append]; omega), List.getElem_append_right (by omega)]
   rw [e1, e2]; exact s
 · obtain ⟨b, lf, l, k, s⟩ := KidsS.see h3 (i := j - (ps.length + qs.length)) (by omega) h.up2
   refine ⟨b, lf, l, k, ?_, fun _ => .inr c2⟩
   have e1 : (us ++ vs ++ bs)[j] = bs[j - (ps.length + qs.length)]'(by omega) := by
     rw [List.getElem_append_right (by rw [List.length_append]; omega)]
     congr 1; rw [List.length_append]; omega
   have e2 : (ps ++ qs ++ rs)[j] = rs[j - (ps.length + qs.length)]'(by omega) := by
     rw [List.getElem_append_right (by rw [List.length_append]; omega)]
     congr 1; rw [List.length_append]
   rw [e1, e2]; exact s
theorem St.drH {L : List As} (h : St w L) {P : World → Prop} (hP : ∀ w', w'.heap = w.heap → St w' L → P w') : drC w P := hP _ rfl h.drew
theorem cell_heap {w w' : World} (e : w'.heap = w.heap) (a : Addr) : w'.cell? a = w.cell? a := by
 unfold World.cell?
 simp only [e]
theorem Seen.heap {α : Type} {w w' : World} {g : Nat} {A : NdF α} {b lf : Bool} {l k : Sl} (s : Seen w g A b lf l k) (e : w'.heap = w.heap) : Seen w' g A b lf l k :=
 ⟨by rw [cell_heap e]; exact s.c0, by rw [cell_heap e]; exact s.c1, by rw [cell_heap e]; exact s.c2, by rw [cell_heap e]; exact s.c3, by rw [cell_heap e]; exact s.c4, by rw [cell_heap e]; exact s.c5, fun h => ⟨(s.has h).1, fun j x hj => by
   obtain ⟨a, ha, hc⟩ := (s.has h).2 j x hj
   exact ⟨a, ha, fun i u hu => by rw [cell_heap e]; exact hc i u hu⟩⟩, s.no⟩
theorem keyL_take_succ {ks : List (Nd d)} {j : Nat} (hj : j < ks.length) : keyL (ks.take (j + 1)) = keyL (ks.take j) ++ [hdE ks[j].l] := by
 unfold keyL
 rw [List.take_succ_eq_append_getElem hj, List.map_append]; rfl
theorem hdE_zero {l : List Ey} (h : 0 < l.length) : l[0] = hdE l := by
 cases l with
 | nil => simp at h
 | cons a r => rfl
set_option maxHeartbeats 2000000 in
theorem heads_st {us vs bs : List Nat} {ps qs rs all : List (Nd d)} (hA : ps ++ qs ++ rs = all) {ls : List Ey} {l k : Sl} {a : Int} {rd lf wr : Bool} (h1 : us.length = ps.length) (h2 : vs.length = qs.length) (h3 : bs.length = rs.length)
   (h : St w (Cs g (ndC a rd lf wr l k) tnN :: Row EE tEy l ls :: Row EPt tpN k (us ++ vs ++ bs) :: KidsS tnN tpN d us ps :: KidsR tnN tpN d vs qs :: KidsS tnN tpN d bs rs :: X))
   (hll : ls.length = all.length) (hN : ls.length ≤ 1000) (hls : ∀ (i : Nat) (hi : i < all.length), i < ps.length ∨ ps.length + qs.length ≤ i → ls[i]'(by omega) = hdE all[i].l) (hne : ∀ q ∈ all, 1 ≤ q.l.length) {R : World → Prop}
   (hR : ∀ w', St w' (Cs g (ndC a rd lf wr l k) tnN :: Row EE tEy l (keyL all) :: Row EPt tpN k (us ++ vs ++ bs) :: KidsS tnN tpN d us ps :: KidsR tnN tpN d vs qs :: KidsS tnN tpN d bs rs :: X) → R w') : F.tree_node_heads (some (blk g)) w R := by
 apply E.tree_node_heads
 unfold V.tree_node_heads
 try simp -zeta only [ldC, soC, brC, bkA, slC, cnd_all, blk_add2, Nat.reduceAdd]
 have hgl : (us ++ vs ++ bs).length = all.length := by rw [← hA]; simp only [List.length_append]; omega
 have hkl := (St.has h.up2 (by decide)).1
 refine ⟨_, h.cell 5, fun n w' => ∃ j : Nat, n = j ∧ j ≤ all.length ∧ St w' (Cs g (ndC a rd lf wr l k) tnN :: Row EE tEy l (keyL (all.take j) ++ ls.drop j) :: Row EPt tpN k (us ++ vs ++ bs) :: KidsS tnN tpN d us ps :: KidsR tnN tpN d vs qs :: KidsS tnN tpN d bs rs :: X), fun n _ => ((all.length : Int) - n).toNat, ⟨0, rfl, Nat.zero_le _, h⟩, ?_⟩
 rintro _ w1 ⟨j, rfl, hj, q⟩
 refine ⟨fun hlt => ?_, fun hge => ?_⟩
 · have hlt : j < all.length := by omega
   have hms : ((all.length : Int) - ((j + 1 : Nat) : Int)).toNat < ((all.length : Int) - (j : Int)).toNat := by omega
   obtain ⟨ad, ha, hb, c0⟩ := Has.pt (St.has q.up2 (by decide)) (m := j) (by omega)
   obtain ⟨b, lf', l', k', s, hun⟩ : ∃ b lf l k, Seen w1 (us ++ vs ++ bs)[j] all[j] b lf l k ∧ (b = false → j < ps.length ∨ ps.length + qs.length ≤ j) := by
     subst hA
     exact mid_see h1 h2 h3 q.drop.drop.drop hlt (by omega)
   have hk1 := keyL_take_succ hlt
   have hkt : (keyL (all.take j)).length = j := by rw [keyL_len, List.length_take]; omega
   have hdj : ls.drop j = ls[j]'(by omega) :: ls.drop (j + 1) := List.drop_eq_getElem_cons (by omega)
   have hnj := hne all[j] (List.getElem_mem _)
   rw [w64_succ (by omega)]
   refine ⟨ad, ha, by omega, by omega, _, c0, _, rfl, _, s.c1, fun hb1 => ?_, fun hb0 => ?_⟩
   · have hh := s.has hb1
     have hl' := hh.1
     refine ⟨_, rfl, _, s.c4, fun hpos => ?_, fun hno => absurd (by omega) hno⟩
     refine St.drH q fun w2 he q => ?_
     have s := s.heap he
     obtain ⟨ad6, ha6, hb6, e0, e1, e2⟩ := Has.ey (s.has hb1) (m := 0) (by omega)
     have hrl := (St.has q.sw (by decide)).1
     have hcl : (keyL (all.take j) ++ ls.drop j).length = all.length := by rw [List.length_append, hkt, List.length_drop]; omega
     obtain ⟨ad7, ha7, hb7, _⟩ := Has.ey (St.has q.sw (by decide)) (m := j) (by omega)
     refine ⟨_, q.cell 4, _, rfl, _, s.c4, ad6, ha6, by omega, by omega, _, e0, _, e1, _, e2, ad7, ha7, by omega, by omega, ?_⟩
     refine Row.stE3 q.sw (k := j) (by omega) ha7 (all[j].l[0]'(by omega)) fun w5 q => ⟨⟨j + 1, rfl, hlt, ?_⟩, hms⟩
     have e : (keyL (all.take j) ++ ls.drop j).set j (all[j].l[0]'(by omega)) = keyL (all.take (j + 1)) ++ ls.drop (j + 1) := by
       rw [List.set_append_right _ _ (by omega), hkt, Nat.sub_self, hdj, List.set_cons_zero, hk1, hdE_zero (by omega), List.append_assoc]; rfl
     rw [e] at q
     exact q.sw
   · have e : keyL (all.take (j + 1)) ++ ls.drop (j + 1) = keyL (all.take j) ++ ls.drop j := by
       have := hls j hlt (hun hb0)
       rw [hk1, hdj, List.append_assoc]
       congr 1
       rw [this]; rfl
     exact ⟨⟨j + 1, rfl, hlt, by rw [e]; exact q⟩, hms⟩
 · have hjj : j = all.length := by omega
   subst hjj
   rw [List.take_length, List.drop_of_length_le (by omega), List.append_nil] at q
   exact hR w1 q
theorem half_eq {n : Nat} (h : n ≤ 100000) : w64 ((n : Int).tdiv 2) = ((n / 2 : Nat) : Int) := by
 have e : (n : Int).tdiv 2 = ((n / 2 : Nat) : Int) := (Int.ofNat_tdiv _ _).symm
 rw [e, w64_id (by omega) (by omega)]
theorem Has.lo {α : Type} {En : Enc α} {l : Sl} {xs : List α} (h : Has En w l xs) {j c n : Nat} (hn : n = En.n) (hj : j ≤ xs.length) (hc : l.len ≤ l.cap) : Has En w ⟨slA l.a l.cap 0 n, j, c⟩ (xs.take j) := by
 have := Has.sub h (c := c) hn (Nat.zero_le j) hj hc
 rw [List.drop_zero, Nat.sub_zero] at this; exact this
theorem Has.hi {α : Type} {En : Enc α} {l : Sl} {xs : List α} (h : Has En w l xs) {j c n : Nat} (hn : n = En.n) (hj : j ≤ xs.length) (hc : l.len ≤ l.cap) : Has En w ⟨slA l.a l.cap j n, l.len - j, c⟩ (xs.drop j) := by
 have hl := h.1
 have := Has.sub h (c := c) hn hj (Nat.le_refl _) hc
 rw [List.take_of_length_le (by rw [List.length_drop]; exact Nat.le_refl _)] at this
 rw [hl]; exact this
theorem NilOk.lo {l : Sl} (h : NilOk l) {j n : Nat} (hj : j ≤ l.len) (hc : l.len ≤ l.cap) : NilOk ⟨slA l.a l.cap 0 n, j, l.cap⟩ := by
 have := NilOk.sub h (n := n) (Nat.zero_le j) hj hc
 rw [Nat.sub_zero, Nat.sub_zero] at this; exact this
theorem NilOk.hi {l : Sl} (h : NilOk l) {j n : Nat} (hj : j ≤ l.len) (hc : l.len ≤ l.cap) : NilOk ⟨slA l.a l.cap j n, l.len - j, l.cap - j⟩ := NilOk.sub h hj (Nat.le_refl _) hc
set_option maxHeartbeats 4000000 in
theorem cut_mid {lf wr : Bool} {ls : List Ey} {gs : List Nat} {l k : Sl} {a : Int} (h : St w (Cs g (ndC a true lf wr l k) tnN :: Row EE tEy l ls :: Row EPt tpN k gs :: X)) (h6 : 6 < ls.length) (hb : ls.length ≤ 100) (hg : lf = false → gs.length = ls.length) (hk : lf = true → k = ⟨none, 0, 0⟩ ∧ gs = []) {R : Option Addr → World → Prop}
   (hR : ∀ w' g' l1 k1 l2 k2, (lf = true → k1 = ⟨none, 0, 0⟩ ∧ k2 = ⟨none, 0, 0⟩) → St w' (Cs g' (ndC 0 true lf true l1 k1) tnN :: Row EE tEy l1 (ls.drop (ls.length / 2)) :: Row EPt tpN k1 (gs.drop (ls.length / 2)) :: Cs g (ndC a true lf wr l2 k2) tnN :: Row EE tEy l2 (ls.take (ls.length / 2)) :: Row EPt tpN k2 (gs.take (ls.length / 2)) :: X) → R (some (blk g')) w') : F.tree_node_cut (some (blk g)) w R := by
 apply E.tree_node_cut
 unfold V.tree_node_cut
 try simp -zeta only [ldC, soC, brC, bkA, slC, cnd_all, blk_add2, Nat.reduceAdd]
 have hl := (St.has h.sw (by decide)).1
 have hc := Row.cap h.sw
 have hh := half_eq (n := ls.length) (by omega)
 have hhl : ls.length / 2 ≤ ls.length := Nat.div_le_self _ _
 refine ⟨_, h.cell 4, fun hle => absurd hle (by omega), fun _ => ⟨_, h.cell 4, by decide, ?_⟩⟩
 have q := h
 refine St.dr q fun wa1 q => ?_
 rw [hl, hh]
 simp only [Int.toNat_natCast]
 generalize ls.length / 2 = m at *
 refine ⟨_, q.cell 2, _, q.cell 4, by omega, by omega, ?_⟩
 refine Clone_ey (xs := ls.drop m) q (fun w' hw => Has.hi (St.has hw.sw (by decide)) rfl hhl hc) (NilOk.hi (Row.nilOk q.sw) (by omega) hc) (by rw [List.length_drop]; omega) fun l1 w2 q => ⟨q.sw.cell 4, q.sw.cell 2, ?_⟩
 refine St.al q fun wa2 q => ?_
 generalize w2.heap.size = g' at *
 refine ⟨q.up2.cell 4, q.up2.cell 2, _, q.up2.cell 4, by omega, by omega, ?_⟩
 -- new node, row l1, node, row l, row k
 refine Clone_ey (xs := ls.take m) q (fun w' hw => Has.lo (St.has hw.up3 (by decide)) rfl hhl hc) (NilOk.lo (Row.nilOk q.up3) (by omega) hc) (by rw [List.length_take]; omega) fun l2 w4 q => ?_
 have q := q.up3
 refine St.st q (by simp) fun wa3 q => ?_
 -- node, row l2, new node, row l1, row l, row k
 have q := q.up4.drop
 refine ⟨_, q.cell 2, fun hf => ?_, fun ht => ?_⟩
 · have hgl := hg hf
   have hkl := (St.has q.up4 (by decide)).1
   have hkc := Row.cap q.up4
   have hgm : m ≤ gs.length := by omega
   refine ⟨_, q.cell 5, by omega, by omega, ?_⟩
   have ekl : k.len = l.len := by omega
   refine Clone_pt (xs := gs.drop m) q (fun w' hw => Has.hi (St.has hw.up4 (by decide)) rfl hgm hkc) (NilOk.hi (Row.nilOk q.up4) (by omega) hkc) (by rw [List.length_drop]; omega) fun k1 w6 q => ?_
   -- row k1, node, row l2, new node, row l1, row k
   have q := q.up3
   refine St.st q (by simp) fun wa4 q => ?_
   -- new node, row k1, node, row l2, row l1, row k
   refine ⟨_, q.up2.cell 5, by omega, by omega, ?_⟩
   refine Clone_pt (xs := gs.take m) q (fun w' hw => Has.lo (St.has hw.up5 (by decide)) rfl hgm hkc) (NilOk.lo (Row.nilOk q.up5) (by omega) hkc) (by rw [List.length_take]; omega) fun k2 w8 q => ?_
   -- row k2, new node, row k1, node, row l2, row l1, row k
   have q := q.up3
   refine St.st q (by simp) fun wa5 q => ?_
   -- node, row k2, new node, row k1, row l2, row l1, row k
   have q := q.up6.drop
   refine hR _ g' l1 k1 l2 k2 (fun h => absurd (hf.symm.trans h) (by decide)) ?_
   -- node, row k2, new node, row k1, row l2, row l1 -> new, l1, k1, node, l2, k2
   exact q.sw.up4.up2.up4.up5.up5
 · obtain ⟨e1, e2⟩ := hk ht
   subst e1; subst e2
   refine hR _ g' l1 ⟨none, 0, 0⟩ l2 ⟨none, 0, 0⟩ (fun _ => ⟨rfl, rfl⟩) ?_
   simp only [List.drop_nil, List.take_nil]
   have q1 := St.row0 q EPt tpN
   exact q1.up5.up3.up3.up3.up5.up5
end
end Go.Proofs.YtggachhkcmfijaaGreatDoor
