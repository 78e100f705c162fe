/- Trees in memory as one thing; begun; a root above two; a place that is given back. -/
import Derived.Test.YtggachhkcmfijaaGreatDoorQh
set_option linter.unusedVariables false
namespace Go.Proofs.YtggachhkcmfijaaGreatDoor
open Go Go.Vc Go.RowKit Go.Lib Go.Maps
def RootS : Option Nat → Tree → As
 | some g, some ⟨d, A⟩ => NodeS tnN tpN d g A
 | none, none => As.all []
 | _, _ => As.wh False (As.all [])
/-- a tree that is worked on -/
def TreeS (t k : Nat) (gen : Int) (Tr : Tree) (ol : List Int) : As := As.ex fun r : Option Nat => As.ex fun osl : Sl => As.all [Cs t (trC k gen (ptO r) osl) tTr, Row EI T.y_int osl ol, RootS r Tr]
section
variable {w : World} {X : List As} {t k g gk cd : Nat} {D : DkV} {es : List Ent} {tg gen : Int} {Tr : Tree} {ol : List Int}
theorem TreeS.parts (h : St w (TreeS t k gen Tr ol :: X)) : ∃ r osl, St w (Cs t (trC k gen (ptO r) osl) tTr :: Row EI T.y_int osl ol :: RootS r Tr :: X) := by
 obtain ⟨r, h⟩ := St.ex h
 obtain ⟨osl, h⟩ := St.ex h
 exact ⟨r, osl, h.unfold⟩
theorem TreeS.of {r : Option Nat} {osl : Sl} (h : St w (Cs t (trC k gen (ptO r) osl) tTr :: Row EI T.y_int osl ol :: RootS r Tr :: X)) : St w (TreeS t k gen Tr ol :: X) :=
 St.mk (f := fun r : Option Nat => As.ex fun osl : Sl => As.all [Cs t (trC k gen (ptO r) osl) tTr, Row EI T.y_int osl ol, RootS r Tr]) r (St.mk (f := fun osl : Sl => As.all [Cs t (trC k gen (ptO r) osl) tTr, Row EI T.y_int osl ol, RootS r Tr]) osl (St.fold [Cs t (trC k gen (ptO r) osl) tTr, Row EI T.y_int osl ol, RootS r Tr] h))
theorem RootS.cases {r : Option Nat} (h : St w (RootS r Tr :: X)) : (r = none ∧ Tr = none ∧ St w X) ∨ ∃ g d A, r = some g ∧ Tr = some ⟨d, A⟩ ∧ St w (NodeS tnN tpN d g A :: X) := by
 cases r with
 | none =>
   cases Tr with
   | none => exact .inl ⟨rfl, rfl, h.drop⟩
   | some q => exact (h.wh).1.elim
 | some g =>
   cases Tr with
   | none => exact (h.wh).1.elim
   | some q =>
     obtain ⟨d, A⟩ := q
     exact .inr ⟨g, d, A, rfl, rfl, h⟩
theorem TreeS.none_ {osl : Sl} (h : St w (Cs t (trC k gen none osl) tTr :: Row EI T.y_int osl ol :: X)) : St w (TreeS t k gen none ol :: X) := TreeS.of (r := none) ((All.nil h).dn2)
theorem TreeS.some_ {d : Nat} {A : Nd d} {osl : Sl} (h : St w (NodeS tnN tpN d g A :: Cs t (trC k gen (some (blk g)) osl) tTr :: Row EI T.y_int osl ol :: X)) : St w (TreeS t k gen (some ⟨d, A⟩) ol :: X) := TreeS.of (r := some g) h.dn2
theorem OkT.len {d : Nat} {A : Nd d} (h : OkT (some ⟨d, A⟩)) : 1 ≤ A.l.length ∧ A.l.length ≤ 6 := ⟨by have := h.2.1; omega, h.2.2⟩
theorem topen_st {root : Int} (h : St w (DeskS k gk cd D :: X)) (hH : Have D es) (hok : OkT Tr) (hdk : DkT es tg Tr) (hr : RootT Tr root) {R : Option Addr → Int → World → Prop}
   (hR : ∀ t w', St w' (TreeS t k gen Tr [] :: DeskS k gk cd D :: X) → R (some (blk t)) 0 w') : F.tree_open (some (blk k)) gen root w R := by
 apply E.tree_open
 unfold V.tree_open
 try simp -zeta only [ldC, soC, brC, bkA, slC, cnd_all, blk_add2, Nat.reduceAdd]
 refine St.al h fun wa1 q => ?_
 generalize w.heap.size = t at *
 refine ⟨fun hnz => ?_, fun hz => ?_⟩
 · have hnz : ¬ root = 0 := by first | exact hnz | simpa using hnz
   cases Tr with
   | none => exact absurd hr hnz
   | some p =>
     obtain ⟨d, A⟩ := p
     obtain ⟨hw, hat, _⟩ := hr
     refine St.al q fun wa2 q => ?_
     generalize wa1.heap.size = g at *
     have q := q.sw
     refine St.st q (by simp) fun wa3 q => ?_
     refine ⟨_, q.cell 2, ?_⟩
     have q : St _ (NodeS tnN tpN d g A :: Cs t (trC k gen (some (blk g)) ⟨none, 0, 0⟩) tTr :: DeskS k gk cd D :: X) := NodeU.s (St.whmk hw (by rw [hat]; exact q.sw))
     refine load_st q hH hdk hok.1 hok.len.1 hok.len.2 (by decide) fun w3 q => ⟨fun h => absurd rfl h, fun _ => ?_⟩
     exact hR t w3 (TreeS.some_ (osl := ⟨none, 0, 0⟩) (St.row0 (NodeR.s q) EI T.y_int).dn2)
 · have hz : root = 0 := by first | exact hz | simpa using hz
   cases Tr with
   | none => exact hR t _ (TreeS.none_ (osl := ⟨none, 0, 0⟩) (St.row0 q EI T.y_int).sw)
   | some p =>
     obtain ⟨d, A⟩ := p
     exact absurd hz hr.2.2
set_option maxHeartbeats 2000000 in
theorem give_st {a : Int} {rd lf wr : Bool} {l kk osl : Sl} {rt : Option Addr} (h : St w (Cs g (ndC a rd lf wr l kk) tnN :: Cs t (trC k gen rt osl) tTr :: Row EI T.y_int osl ol :: X)) (hl : ol.length ≤ 100000) {R : World → Prop}
   (hR : ∀ w' osl', St w' (Cs g (ndC 0 rd lf wr l kk) tnN :: Cs t (trC k gen rt osl') tTr :: Row EI T.y_int osl' (ol ++ nz [a]) :: X) → R w') : F.tree_tree_give (some (blk t)) (some (blk g)) w R := by
 apply E.tree_tree_give
 unfold V.tree_tree_give
 try simp -zeta only [ldC, soC, brC, bkA, slC, cnd_all, blk_add2, Nat.reduceAdd]
 refine ⟨_, h.cell0, fun hnz => ?_, fun hz => ?_⟩
 · have hnz : ¬ a = 0 := by first | exact hnz | simpa using hnz
   have q := h
   refine St.dr q fun wa1 q => ?_
   refine ⟨_, q.sw.cell 3, _, q.cell0, ?_⟩
   refine St.al q fun wa2 q => ?_
   refine ⟨q.up2.cell 3, ?_⟩
   refine St.app elt_int q.up3 (sl := ⟨some (blk _), 1, 1⟩) (ys := [a]) (q.lit (En := EI) (xs := [a]) rfl rfl 1) rfl (by simp; omega) (by simp; omega) fun l1 w3 q _ => ?_
   -- row, lit, node, tree
   have q := q.d2.up2
   refine St.st q (by simp) fun wa3 q => ?_
   have q := q.up2
   refine St.st0 q (by simp) fun wa4 q => ?_
   refine hR _ l1 ?_
   have e : nz [a] = [a] := by simp [nz, hnz]
   rw [e]
   exact q.sw.sw
 · have hz : a = 0 := by first | exact hz | simpa using hz
   subst hz
   refine hR w osl ?_
   have e : nz [0] = [] := rfl
   rw [e, List.append_nil]
   exact h
set_option maxHeartbeats 4000000 in
theorem grow_st {d : Nat} {A : Nd d} {o : Option Nat} {m : Option (Nd d)} {osl : Sl} (h : St w (OptN tnN tpN d o m :: NodeR tnN tpN d g A :: Cs t (trC k gen (some (blk g)) osl) tTr :: X)) (hA : 1 ≤ A.l.length) (hm : ∀ q, m = some q → 1 ≤ q.l.length) {R : World → Prop}
   (h0 : m = none → ∀ w', St w' (NodeR tnN tpN d g A :: Cs t (trC k gen (some (blk g)) osl) tTr :: X) → R w')
   (h1 : ∀ q, m = some q → ∀ w' g', St w' (NodeR tnN tpN (d + 1) g' (ndK 0 true [A, q]) :: Cs t (trC k gen (some (blk g')) osl) tTr :: X) → R w') : F.tree_tree_grow (some (blk t)) (ptO o) w R := by
 apply E.tree_tree_grow
 unfold V.tree_tree_grow
 try simp -zeta only [ldC, soC, brC, bkA, slC, cnd_all, blk_add2, Nat.reduceAdd]
 rcases OptN.cases h with ⟨rfl, rfl, q⟩ | ⟨gm, n, rfl, rfl, q⟩
 · exact ⟨fun h => absurd h (by simp [ptO]), fun _ => h0 rfl w q⟩
 refine ⟨fun _ => ?_, fun h => absurd h (by simp [ptO])⟩
 have hn := hm n rfl
 obtain ⟨lm, km, Cm, q, hbm⟩ := NodeR.open_ q
 obtain ⟨l, kk, C, q, hb⟩ := NodeR.open_ q.up3
 -- node, row, C, new, row, C, tree
 have q := q.up6
 refine St.dr q fun wa1 q => ?_
 obtain ⟨ad, ha, hal, e0, e1, e2⟩ := Has.ey (St.has q.up2 (by decide)) (m := 0) (by omega)
 obtain ⟨ad4, ha4, hal4, f0, f1, f2⟩ := Has.ey (St.has q.up5 (by decide)) (m := 0) (by omega)
 refine ⟨_, q.cell 2, _, rfl, _, q.sw.cell 4, ad, ha, by omega, by omega, _, e0, _, e1, _, e2, _, rfl, _, q.up4.cell 4, ad4, ha4, by omega, by omega, _, f0, _, f1, _, f2, _, q.cell 2, fun w1 g0 hB1 hg1 hn1 ho1 w2 g1 hB2 hg2 hn2 ho2 w3 g2 hB3 hg3 hn3 ho3 w4 hB4 => ?_⟩
 have q := (((q.fz.iv hB1 hg1 hn1 ho1).iv hB2 hg2 hn2 ho2).iv hB3 hg3 hn3 ho3).iv0 hB4
 -- fz, node', pointers, entries, tree, node, row, C, new, row, C
 have q := q.up4
 refine St.st q (by simp) fun wa2 q => ?_
 obtain ⟨k5, q⟩ := q.sw.kp
 refine ⟨k5, fun w6 hB6 => h1 n rfl w6 g2 ?_⟩
 have q := (q.iv0 hB6).drop
 -- tree, node', pointers, entries, node, row, C, new, row, C
 have q := hbm q.up6.up6.up6.up6.up6.up6.up6.up9.up9.up9
 have q := hb q.up4.up4.up4.up4.up4.up7.up7.up7
 have q := KidsR.s rfl (KidsR.two q.up2.up5.up5.up5.up5.up5)
 -- kids, node', pointers, entries, tree
 have q := St.rowLit q.up4.up3.up3.up3.up4 (En := EE) (xs := [A.l[0]'(by omega), n.l[0]'(by omega)]) (n := 2) rfl rfl (by decide)
 have q := St.rowLit q.up3 (En := EPt) (xs := [g, gm]) (n := 2) rfl rfl (by decide)
 -- pointers, entries, kids, node', tree
 have q := q.up4.up3.up2.up3.up4
 refine NodeR.ofKids (l := ⟨some (blk g0), 2, 2⟩) (k := ⟨some (blk g1), 2, 2⟩) (gs := [g, gm]) rfl ?_
 have e : (ndK 0 true [A, n] : Nd (d + 1)).l = [A.l[0]'(by omega), n.l[0]'(by omega)] := by
   rw [hdE_zero, hdE_zero]; rfl
 rw [e]
 exact q
end
end Go.Proofs.YtggachhkcmfijaaGreatDoor

/- Trees: what is another one now is written. -/
set_option linter.unusedVariables false
namespace Go.Proofs.YtggachhkcmfijaaGreatDoor
open Go Go.Vc Go.RowKit Go.Lib Go.Maps
section
variable {w : World} {X : List As} {d g : Nat}
theorem NodeS.set0 {A : Nd d} (h : St w (NodeS tnN tpN d g A :: X)) {P : World → Prop} (hP : ∀ w', St w' (NodeS tnN tpN d g A :: X) → P w') : stC w (blk g) (.int .i64 A.at_) P := by
 rcases NodeS.or h with q | q
 · obtain ⟨l, k, C, q, hb⟩ := NodeR.open_ q
   exact St.st0 q (by simp) fun w' q => hP w' (NodeR.s (hb q))
 · obtain ⟨hw, q⟩ := q.wh
   exact St.st0 q (by simp) fun w' q => hP w' (NodeU.s (St.whmk hw q))
theorem NodeS.read {A : Nd d} (h : St w (NodeS tnN tpN d g A :: X)) (hw : A.wr = true) : St w (NodeR tnN tpN d g A :: X) := by
 rcases NodeS.or h with q | q
 · exact q
 · have := q.wh.1
   rw [hw] at this; cases this
theorem room_one {D : DkV} {es : List Ent} (hH : Have D es) (hlen : ∀ e ∈ es, e.x.data.length ≤ 236) (hr : es.length + 1 + 2 ≤ D.bs.length) {n : Nat} (hn : n ≤ 236) : needN n ≤ freeN D.bs := by
 refine Have.room hH (ps := es.map fun e => e.x.at_) (M := 236) ?_ hlen hn ?_
 · unfold Cov
   rw [ats_nz hH]
 · rw [List.length_map]
   have : needN 236 = 1 := by decide
   rw [this]; omega
end
section
variable {t k gk cd n0 : Nat} {gen : Int} {rt : Option Addr}
set_option maxHeartbeats 8000000 in
theorem save_st (hg : 1 ≤ gen ∧ gen ≤ 3) : ∀ (d : Nat) {A : Nd d} {g : Nat} {w : World} {X : List As} {D : DkV} {es : List Ent} {ol : List Int} {osl : Sl} (h : St w (NodeS tnN tpN d g A :: Cs t (trC k gen rt osl) tTr :: Row EI T.y_int osl ol :: DeskS k gk (cd + 40 * (es.length - n0)) D :: X)) (hn0 : n0 ≤ es.length) (hH : Have D es) (hD : Dk es gen d A) (hB : Bd d A) (hl : 1 ≤ A.l.length ∧ A.l.length ≤ 6) (hlen : ∀ e ∈ es, e.x.data.length ≤ 236)
   (hroom : es.length + (pl d A).length + 2 ≤ D.bs.length) (hc : cd + 40 * ((es.length - n0) + (pl d A).length) ≤ 900000) (hol : ol.length + (pl d A).length ≤ 100000) {R : Int → Int → World → Prop}
   (hR : ∀ w' A' D' es' ol' osl', Sv D es gen A ol D' es' A' ol' → ol'.length ≤ ol.length + (pl d A).length → St w' (NodeS tnN tpN d g A' :: Cs t (trC k gen rt osl') tTr :: Row EI T.y_int osl' ol' :: DeskS k gk (cd + 40 * (es'.length - n0)) D' :: X) → R A'.at_ 0 w'), F.tree_tree_save (some (blk t)) (some (blk g)) w R
 | 0, A, g, w, X, D, es, ol, osl, h, hn0, hH, hD, hB, hl, hlen, hroom, hc, hol, R, hR => by
   apply E.tree_tree_save
   unfold V.tree_tree_save
   try simp -zeta only [ldC, soC, brC, bkA, slC, cnd_all, blk_add2, Nat.reduceAdd]
   obtain ⟨b0, lf0, l0, k0, s⟩ := NodeS.see h
   refine ⟨_, s.c3, fun hf => ⟨_, s.c0, hR w A D es ol osl (Sv.none_ hH hD hf) (by omega) h⟩, fun ht => ?_⟩
   obtain ⟨l, q⟩ := NodeR.leaf (NodeS.read h ht)
   have hpl : (pl 0 A).length = 1 := rfl
   refine ⟨_, q.cell 5, fun n w' => n = 0 ∧ St w' (Cs g (ndC A.at_ true true A.wr l ⟨none, 0, 0⟩) tnN :: Row EE tEy l A.l :: Cs t (trC k gen rt osl) tTr :: Row EI T.y_int osl ol :: DeskS k gk (cd + 40 * (es.length - n0)) D :: X), fun _ _ => 0, ⟨rfl, q⟩, ?_⟩
   clear s h q
   rintro _ w1 ⟨rfl, q⟩
   refine ⟨fun hlt => absurd hlt (by show ¬ (0 : Int) < ((0 : Nat) : Int); omega), fun _ => ?_⟩
   refine give_st (q.up4.up2.up4.up4.up4) (by omega) fun w3 osl' q => ?_
   -- node, tree, old, row, desk
   refine St.dr q fun wa1 q => ?_
   refine ⟨_, q.sw.cell0, _, q.sw.cell 1, ?_⟩
   refine encode_gen (ls := A.l) (ats := []) (l := l) (k := ⟨none, 0, 0⟩) (lf := true) q (fun w' hw => ⟨hw.cell 2, hw.cell 4, hw.cell 5⟩) (fun w' hw => St.has hw.up3 (by decide)) hB.2 (by omega) (fun h => (by cases h)) (fun a h => (by cases h)) (fun h => (by cases h)) fun w5 q => ⟨q.sw.cell 1, q.sw.cell0, ?_⟩
   have hel := encLf_len hB.2
   have hb : (encB true A.l []).length ≤ 236 := by show (encLf A.l).length ≤ 236; omega
   refine Put_E2 q.up4 hH hg (by decide) (by omega) (by omega) (room_one hH hlen (by omega) hb) fun w6 D' e' g1 g2 g3 hS hH' q => ?_
   have q := q.sw
   refine St.st0 q (by simp) fun wa2 q => ?_
   refine St.st q (by simp) fun wa3 q => ?_
   -- node, desk, tree, old, row
   have hsv := Sv.put0 (A := A) (ol := ol) hH hH' hS g1 g2 g3 (by rw [g3]; exact hb)
   refine hR _ (⟨e'.x.at_, false, A.l, A.ks⟩ : Nd 0) D' _ _ osl' hsv ?_ ?_
   · rw [List.length_append]
     have := nz_len [A.at_]
     simp only [List.length_singleton] at this
     omega
   · have e1 : cd + 40 * (es.length - n0) + 40 = cd + 40 * ((es ++ [e']).length - n0) := by rw [List.length_append, List.length_singleton]; omega
     rw [e1] at q
     have q1 := q.sw.up3.up3.up4.up4
     exact (NodeR.s (NodeR.ofLeaf (A := (⟨e'.x.at_, false, A.l, A.ks⟩ : Nd 0)) q1))
 | d + 1, A, g, w, X, D, es, ol, osl, h, hn0, hH, hD, hB, hl, hlen, hroom, hc, hol, R, hR => by
   have hko := KidsOk.of hB
   have hll : A.l.length = (kidsOf A).length := by rw [hB.1, keyL_len]
   have hpl : (pl (d + 1) A).length = (plL d (kidsOf A)).length + 1 := by rw [pl_succ, List.length_cons]
   apply E.tree_tree_save
   unfold V.tree_tree_save
   try simp -zeta only [ldC, soC, brC, bkA, slC, cnd_all, blk_add2, Nat.reduceAdd]
   obtain ⟨b0, lf0, l0, k0, s⟩ := NodeS.see h
   refine ⟨_, s.c3, fun hf => ⟨_, s.c0, hR w A D es ol osl (Sv.none_ hH hD hf) (by omega) h⟩, fun ht => ?_⟩
   obtain ⟨l, kk, gs, hgl, q⟩ := NodeR.kids (NodeS.read h ht)
   have hkl := (St.has q.up2 (by decide)).1
   refine ⟨_, q.cell 5, fun n w' => ∃ (m : Nat) (ks' : List (Nd d)) (D1 : DkV) (es1 : List Ent) (ol1 : List Int) (osl1 : Sl), n = m ∧ m ≤ (kidsOf A).length ∧ SvL D es gen (kidsOf A) ol m D1 es1 ks' ol1 ∧ ol1.length ≤ ol.length + (plL d ((kidsOf A).take m)).length ∧ St w' (Cs g (ndC A.at_ true false A.wr l kk) tnN :: Row EE tEy l A.l :: Row EPt tpN kk gs :: KidsS tnN tpN d gs ks' :: Cs t (trC k gen rt osl1) tTr :: Row EI T.y_int osl1 ol1 :: DeskS k gk (cd + 40 * (es1.length - n0)) D1 :: X), fun n _ => (((kidsOf A).length : Int) - n).toNat, ⟨0, kidsOf A, D, es, ol, osl, rfl, Nat.zero_le _, SvL.zero hH hD.2, by omega, q⟩, ?_⟩
   clear s h q
   rintro _ w1 ⟨m, ks', D1, es1, ol1, osl1, rfl, hm, hS1, hol1, q⟩
   have hfw := hS1.few
   have hkl' := hS1.len
   have hmono : ∀ j, (plL d ((kidsOf A).take j)).length ≤ (plL d (kidsOf A)).length := fun j => by
     have e : plL d (kidsOf A) = plL d ((kidsOf A).take j) ++ plL d ((kidsOf A).drop j) := by rw [← plL_app, List.take_append_drop]
     rw [e, List.length_append]; omega
   have hlen1 : ∀ e ∈ es1, e.x.data.length ≤ 236 := fun e he => (hS1.new e he).elim (hlen e) (·.2)
   have hbs := hS1.sm.2
   refine ⟨fun hlt => ?_, fun hge => ?_⟩
   · have hlt : m < (kidsOf A).length := by omega
     have hms : (((kidsOf A).length : Int) - ((m + 1 : Nat) : Int)).toNat < (((kidsOf A).length : Int) - (m : Int)).toNat := by omega
     have hm' : m < ks'.length := by omega
     obtain ⟨ad, ha, hb, c0⟩ := Has.pt (St.has q.up2 (by decide)) (m := m) (by omega)
     refine ⟨ad, ha, by omega, by omega, _, c0, ?_⟩
     have q := KidsS.out (by omega) hm' q.up3
     -- kid, lo, hi, node, row l, row k, tree, old, desk
     have ekm : ks'[m] = (kidsOf A)[m] := by
       have := hS1.rest m (Nat.le_refl _)
       rw [List.getElem?_eq_getElem hm', List.getElem?_eq_getElem hlt] at this
       injection this
     obtain ⟨b1, b3, b6⟩ := hko.bd _ (List.getElem_mem hlt)
     have hdk := hS1.dk _ (List.getElem_mem hm')
     have htk : (plL d ((kidsOf A).take (m + 1))).length = (plL d ((kidsOf A).take m)).length + (pl d ks'[m]).length := by
       rw [List.take_succ_eq_append_getElem hlt, plL_app, List.length_append, plL_cons, plL_nil, List.append_nil, ekm]
     have hmo := hmono (m + 1)
     rw [w64_succ (by omega)]
     refine save_st hg d (A := ks'[m]) q.up5.up5.up5.up5.up5.up8.up8.up8.up8 (by omega) hS1.hv hdk (by rw [ekm]; exact b1) (by rw [ekm]; omega) hlen1 (by omega) (by omega) (by omega) fun w2 A2 D2 es2 ol2 osl2 hs2 ho2 q => ⟨fun h => absurd rfl h, fun _ => ⟨_, rfl, ?_⟩⟩
     refine NodeS.set0 q fun w3 q => ⟨⟨m + 1, ks'.set m A2, D2, es2, ol2, osl2, rfl, hlt, hS1.next hm' hs2, by omega, ?_⟩, hms⟩
     -- kid, tree, old, desk, lo, hi, node, row l, row k
     have q := q.up3.up3.up3.up8.up8.up8.up8.up8.up8
     have q := KidsS.into (by rw [List.length_take, List.length_take, hgl, hkl']) q
     rw [take_mid_eq (by omega), ← List.set_eq_take_append_cons_drop.trans (if_pos hm')] at q
     exact q.up6.up6.up6.up3.up6.up6.up6
   · have hmm : m = (kidsOf A).length := by omega
     subst hmm
     rw [List.take_length] at hfw hol1
     -- node, row l, row k, kids, tree, old, desk
     refine give_st (q.up6.up4.up4.up4.up6.up6.up6) (by omega) fun w3 osl' q => ?_
     -- node, tree, old, row l, row k, kids, desk
     refine St.dr q fun wa4 q => ?_
     refine ⟨_, q.sw.cell0, _, q.sw.cell 1, ?_⟩
     have hwr : ∀ k ∈ ks', k.wr = false := fun k hk => by
       obtain ⟨i, hi, rfl⟩ := List.mem_iff_getElem.1 hk
       exact hS1.wr i ks'[i] (by omega) (List.getElem?_eq_getElem hi)
     refine encode_gen (ls := A.l) (ats := ks'.map (·.at_)) (l := l) (k := kk) (lf := false) q (fun w' hw => ⟨hw.cell 2, hw.cell 4, hw.cell 5⟩) (fun w' hw => St.has hw.up3 (by decide)) hB.okl (by omega) (fun _ => by rw [List.length_map]; omega) (fun a ha => ?_) (fun _ w' hw i hi => ?_) fun w5 q => ⟨q.sw.cell 1, q.sw.cell0, ?_⟩
     · obtain ⟨c, hc, rfl⟩ := List.mem_map.1 ha
       have := Dk.rng hS1.hv (hS1.dk c hc) (hwr c hc)
       omega
     · rw [List.length_map] at hi
       obtain ⟨ad, ha, hb, c0⟩ := Has.pt (St.has hw.up4 (by decide)) (m := i) (by omega)
       obtain ⟨b, lf, l1, k1, s⟩ := KidsS.see (by omega) hi hw.up5
       refine ⟨ad, blk gs[i], ha, hb, c0, ?_⟩
       rw [List.getElem_map]
       exact s.c0
     have hel := encIn_len (l := A.l) (ps := ks'.map (·.at_)) (by rw [List.length_map]; omega) hB.okl
     have hb : (encB false A.l (ks'.map (·.at_))).length ≤ 236 := by show (encIn A.l _).length ≤ 236; omega
     refine Put_E2 q.up6 hS1.hv hg (by decide) (by omega) (by omega) (room_one hS1.hv hlen1 (by omega) hb) fun w6 D' e' g1 g2 g3 hS hH' q => ?_
     have q := q.sw
     refine St.st0 q (by simp) fun wa5 q => ?_
     refine St.st q (by simp) fun wa6 q => ?_
     -- node, desk, tree, old, row l, row k, kids
     have hsv := Sv.put hD hS1 hH' hS g1 g2 g3 (by rw [g3]; exact hb)
     refine hR _ (⟨e'.x.at_, false, A.l, ks'⟩ : Nd (d + 1)) D' _ _ osl' hsv ?_ ?_
     · rw [List.length_append]
       have := nz_len [A.at_]
       simp only [List.length_singleton] at this
       omega
     · have e1 : cd + 40 * (es1.length - n0) + 40 = cd + 40 * ((es1 ++ [e']).length - n0) := by rw [List.length_append, List.length_singleton]; omega
       rw [e1] at q
       have q1 := q.sw.up3.up3.up6.up6.up6.up6
       exact NodeR.s (NodeR.ofKids (A := (⟨e'.x.at_, false, A.l, ks'⟩ : Nd (d + 1))) (by show gs.length = ks'.length; omega) q1)
end
end Go.Proofs.YtggachhkcmfijaaGreatDoor
