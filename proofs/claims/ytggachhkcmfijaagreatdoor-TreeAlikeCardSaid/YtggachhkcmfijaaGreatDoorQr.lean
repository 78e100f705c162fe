/- Trees: are they sound. -/
import Derived.Test.YtggachhkcmfijaaGreatDoorQq
set_option linter.unusedVariables false
namespace Go.Proofs.YtggachhkcmfijaaGreatDoor
open Go Go.Vc Go.RowKit Go.Lib Go.Maps
def cells3 (w : World) (a : Addr) (x : Ey) : Prop := w.cell? a = some (.int .i64 x.k) ∧ w.cell? (a.add 1) = some (.string (tx x.s)) ∧ w.cell? (a.add 2) = some (.int .i64 x.a)
/-- the least entry that one is told to have -/
abbrev LowOk (X : List As) (low : Option Addr) (x : Ey) : Prop := low = none ∨ ∃ a, low = some a ∧ ∀ w', St w' X → cells3 w' a x
/-- one that is behind all of them -/
abbrev HighOk (X : List As) (high : Option Addr) (l : List Ey) : Prop := high = none ∨ ∃ a y, high = some a ∧ (∀ x ∈ l, ltE x y) ∧ ∀ w', St w' X → cells3 w' a y
theorem Dk.there {es : List Ent} {gen : Int} : ∀ {d : Nat} {A : Nd d}, Dk es gen d A → A.wr = false → ∃ e ∈ es, e.x.at_ = A.at_ ∧ e.x.gen = gen
 | 0, A, h, hw => by
   obtain ⟨e, he, h1, h2, _⟩ := h hw
   exact ⟨e, he, h1, h2⟩
 | d + 1, A, h, hw => by
   obtain ⟨⟨e, he, h1, h2, _⟩, _⟩ := h.1 hw
   exact ⟨e, he, h1, h2⟩
section
variable (t k gk cd : Nat) (gen level : Int) (rt : Option Addr) (osl : Sl) (D : DkV) (es : List Ent)
def LookP (d : Nat) : Prop := ∀ (A : Nd d) (g : Nat) (w : World) (X : List As) (depth : Int) (low high : Option Addr) (R : Int → World → Prop), St w (NodeS tnN tpN d g A :: Cs t (trC k gen rt osl) tTr :: DeskS k gk cd D :: X) → Dk es gen d A → A.wr = false → Bd d A → (1 ≤ A.l.length ∧ A.l.length ≤ 6) → 1 ≤ depth → depth + (d : Int) = level →
 (1 < depth → 3 ≤ A.l.length) → (d ≠ 0 → 2 ≤ A.l.length) → LowOk X low (hdE A.l) → HighOk X high (flat d A) → (∀ w', St w' (NodeS tnN tpN d g A :: Cs t (trC k gen rt osl) tTr :: DeskS k gk cd D :: X) → R 0 w') → F.tree_tree_look (some (blk t)) (some (blk g)) depth level low high w R
end
section
variable {t k gk cd : Nat} {gen level : Int} {rt : Option Addr} {osl : Sl} {D : DkV} {es : List Ent}
set_option maxHeartbeats 8000000 in
theorem look_step (hH : Have D es) (hlv : level ≤ 10) {d : Nat} (ih : ∀ e, d = e + 1 → LookP t k gk cd gen level rt osl D es e) : LookP t k gk cd gen level rt osl D es d := by
 intro A g w X depth low high R h hD hw hB hl hdp hdl hfew hfew1 hlow hhigh hR
 apply E.tree_tree_look
 unfold V.tree_tree_look
 try simp -zeta only [ldC, soC, brC, bkA, slC, cnd_all, blk_add2, Nat.reduceAdd]
 refine load_st h hH hD hB hl.1 hl.2 (by omega) fun w1 q => ⟨fun h => absurd rfl h, fun _ => ?_⟩
 obtain ⟨l, kk, C, q, hback⟩ := NodeR.open_ q
 have hll := (St.has q.sw (by decide)).1
 -- node, row, C, tree, desk
 refine ⟨fun b w' => b = false ∧ St w' (Cs g (ndC A.at_ true (decide (d = 0)) A.wr l kk) tnN :: Row EE tEy l A.l :: C :: Cs t (trC k gen rt osl) tTr :: DeskS k gk cd D :: X), ⟨fun hd1 => ⟨_, q.cell 4, fun hlt => absurd hlt (by have := hfew hd1; omega), fun _ => ⟨fun h1 => absurd h1 (by omega), fun _ => ⟨rfl, q⟩⟩⟩, fun _ => ⟨fun h1 => ⟨_, q.cell 2, fun hb => ⟨_, q.cell 4, ?_, q⟩, fun _ => ⟨rfl, q⟩⟩, fun _ => ⟨rfl, q⟩⟩⟩, ?_⟩
 · have hd0 : d ≠ 0 := of_decide_eq_false hb
   have := hfew1 hd0
   exact decide_eq_false (by omega)
 clear q
 rintro few w2 ⟨rfl, q⟩
 refine ⟨fun b w' => b = false ∧ St w' (Cs g (ndC A.at_ true (decide (d = 0)) A.wr l kk) tnN :: Row EE tEy l A.l :: C :: Cs t (trC k gen rt osl) tTr :: DeskS k gk cd D :: X), ?_, ?_⟩
 · refine St.dr q fun wa1 q => ?_
   have e : (decide (d = 0) == (depth == level)) = true := by
     rw [beq_iff_eq, Bool.eq_iff_iff, decide_eq_true_iff, beq_iff_eq]
     omega
   refine ⟨fun h => (by cases h), fun _ => ⟨_, q.cell 2, fun hne => ?_, fun _ => ⟨fun hlo => ?_, fun _ => ⟨rfl, q⟩⟩⟩⟩
   · rw [e] at hne; cases hne
   · rcases hlow with rfl | ⟨a, rfl, hc⟩
     · exact absurd hlo (by simp)
     · obtain ⟨ad7, ha7, hb7, e0, e1, e2⟩ := Has.ey (St.has q.sw (by decide)) (m := 0) (by omega)
       obtain ⟨f0, f1, f2⟩ := hc _ q.drop.drop.drop.drop.drop
       refine ⟨_, q.cell 4, ad7, ha7, by omega, by omega, _, e0, _, e1, _, e2, a, rfl, _, f0, _, f1, _, f2, ?_, q⟩
       rw [ey_eq, hdE_zero]
       simp
 clear q
 rintro b w3 ⟨rfl, q⟩
 refine ⟨fun h => (by cases h), fun _ => ?_⟩
 refine St.dr q fun wa2 q => ?_
 obtain ⟨en, hen, e1, e2⟩ := hD.there hw
 refine ⟨_, q.up3.cell0, _, q.cell0, fun w5 hB5 => ?_⟩
 have q := q.fz.iv0 hB5
 rw [← e1]
 refine Get_E q.up5 hH hen fun w6 q => ?_
 obtain ⟨k6, q⟩ := St.kp q.sw
 refine ⟨k6, fun w7 g5 hB7 hg7 hn7 ho7 w8 hB8 => ?_⟩
 have q := ((q.iv hB7 hg7 hn7 ho7).iv0 hB8).sw
 refine St.fill4 q fun wa6 q => ?_
 obtain ⟨k9, q⟩ := q.sw.kp
 refine ⟨k9, fun w13 hB13 => ?_⟩
 have q := (q.iv0 hB13).drop
 -- chain, desk, node, row, C, tree
 refine ⟨fun b w' => b = false ∧ St w' (Cs g (ndC A.at_ true (decide (d = 0)) A.wr l kk) tnN :: Row EE tEy l A.l :: C :: Cs t (trC k gen rt osl) tTr :: DeskS k gk cd D :: X), St.dr q fun w14 q => ⟨fun h => absurd rfl h, fun _ => ⟨_, q.cell0, _, q.up5.cell 1, by rw [e2]; simp, (q.up5.up5.up5.up5.up4).drop⟩⟩, ?_⟩
 clear q
 rintro b w15 ⟨rfl, q⟩
 refine ⟨fun h => (by cases h), fun _ => ⟨_, q.cell 4, fun n w' => ∃ m : Nat, n = m ∧ m ≤ A.l.length ∧ St w' (Cs g (ndC A.at_ true (decide (d = 0)) A.wr l kk) tnN :: Row EE tEy l A.l :: C :: Cs t (trC k gen rt osl) tTr :: DeskS k gk cd D :: X), fun n _ => ((A.l.length : Int) - n).toNat, ⟨0, rfl, Nat.zero_le _, q⟩, ?_⟩⟩
 clear q
 rintro _ w16 ⟨m, rfl, hm, q⟩
 refine ⟨fun hlt => ?_, fun hge => ?_⟩
 · have hlt : m < A.l.length := by omega
   have hms : ((A.l.length : Int) - ((m + 1 : Nat) : Int)).toNat < ((A.l.length : Int) - (m : Int)).toNat := by omega
   obtain ⟨ad, ha, hb, c0, c1, c2⟩ := Has.ey (St.has q.sw (by decide)) hlt
   rw [w64_succ (by omega)]
   refine ⟨ad, ha, by omega, by omega, _, c0, _, c1, _, c2, ?_⟩
   have hin := keys_flat hB A.l[m] (List.getElem_mem _)
   refine St.al q fun wa7 q => ?_
   refine St.fill3 q fun wa10 q => ?_
   refine St.dr q fun wa11 q => ?_
   -- x, node, row, C, tree, desk
   refine ⟨fun hpos => ?_, fun h0 => ?_⟩
   · have hpos : 0 < m := by omega
     have e3 : w64 ((m : Int) - 1) = ((m - 1 : Nat) : Int) := by rw [w64_id (by omega) (by omega)]; omega
     rw [e3]
     obtain ⟨ad5, ha5, hb5, d0, d1, d2⟩ := Has.ey (St.has q.up2 (by decide)) (m := m - 1) (by omega)
     have hsl := srt_lt hB.keys (i := m - 1) (j := m) (by omega) hlt (by omega)
     refine ⟨_, q.sw.cell 4, ad5, ha5, by omega, by omega, _, d0, _, d1, _, d2, _, q.cell0, _, q.cell 1, _, q.cell 2, compare_st q fun w22 _ q => ⟨q.sw.cell 4, fun hge => ?_, fun _ => ⟨fun hhi => ?_, fun _ => ⟨q.sw.cell 4, ⟨m + 1, rfl, hlt, q.drop⟩, hms⟩⟩⟩⟩
     · exact absurd ((cfE_lt _ _).2 hsl) (by omega)
     · rcases hhigh with rfl | ⟨a, y, rfl, hly, hc⟩
       · exact absurd hhi (by simp)
       · obtain ⟨f0, f1, f2⟩ := hc _ q.drop.drop.drop.drop.drop.drop
         refine ⟨_, q.cell0, _, q.cell 1, _, q.cell 2, a, rfl, _, f0, _, f1, _, f2, compare_st q fun w23 _ q => ⟨q.sw.cell 4, fun hge => absurd ((cfE_lt _ _).2 (hly _ hin)) (by omega), fun _ => ⟨⟨m + 1, rfl, hlt, q.drop⟩, hms⟩⟩⟩
   · refine ⟨fun hhi => ?_, fun _ => ⟨⟨m + 1, rfl, hlt, q.drop⟩, hms⟩⟩
     rcases hhigh with rfl | ⟨a, y, rfl, hly, hc⟩
     · exact absurd hhi (by simp)
     · obtain ⟨f0, f1, f2⟩ := hc _ q.drop.drop.drop.drop.drop.drop
       refine ⟨_, q.cell0, _, q.cell 1, _, q.cell 2, a, rfl, _, f0, _, f1, _, f2, compare_st q fun w23 _ q => ⟨fun hge => absurd ((cfE_lt _ _).2 (hly _ hin)) (by omega), fun _ => ⟨⟨m + 1, rfl, hlt, q.drop⟩, hms⟩⟩⟩
 · have qr := hback q
   clear q hback
   cases d with
   | zero =>
     obtain ⟨l2, q⟩ := NodeR.leaf qr
     refine ⟨_, q.cell 5, fun n w' => n = 0 ∧ St w' (NodeS tnN tpN 0 g A :: Cs t (trC k gen rt osl) tTr :: DeskS k gk cd D :: X), fun _ _ => 0, ⟨rfl, NodeR.s qr⟩, ?_⟩
     rintro _ w25 ⟨rfl, q⟩
     exact ⟨fun hlt => absurd hlt (by show ¬ (0 : Int) < ((0 : Nat) : Int); omega), fun _ => hR w25 q⟩
   | succ d =>
     have ih := ih d rfl
     have hko := KidsOk.of hB
     have hlk : A.l.length = (kidsOf A).length := by rw [hB.1, keyL_len]
     have hkey : ∀ (i : Nat) (hi : i < (kidsOf A).length), A.l[i]'(by omega) = hdE (kidsOf A)[i].l := fun i hi => by
       have := keyL_get hi
       rw [← this]
       congr 1
       exact hB.1
     obtain ⟨l2, kk2, gs, hgl, q⟩ := NodeR.kids qr
     clear qr
     have hl2 := (St.has q.sw (by decide)).1
     have hk2 := (St.has q.up2 (by decide)).1
     -- node, row l, row k, kids, tree, desk
     refine ⟨_, q.cell 5, fun n w' => ∃ m : Nat, n = m ∧ m ≤ (kidsOf A).length ∧ St w' (Cs g (ndC A.at_ true false A.wr l2 kk2) tnN :: Row EE tEy l2 A.l :: Row EPt tpN kk2 gs :: KidsS tnN tpN d gs (kidsOf A) :: Cs t (trC k gen rt osl) tTr :: DeskS k gk cd D :: X), fun n _ => (((kidsOf A).length : Int) - n).toNat, ⟨0, rfl, Nat.zero_le _, q⟩, ?_⟩
     clear q
     rintro _ w25 ⟨m, rfl, hm, q⟩
     refine ⟨fun hlt => ?_, fun hge => ?_⟩
     · have hlt : m < (kidsOf A).length := by omega
       have hms : (((kidsOf A).length : Int) - ((m + 1 : Nat) : Int)).toNat < (((kidsOf A).length : Int) - (m : Int)).toNat := by omega
       obtain ⟨ad, ha, hb, c0⟩ := Has.pt (St.has q.up2 (by decide)) (m := m) (by omega)
       have hgi : m < gs.length := by omega
       rw [w64_succ (by omega)]
       refine ⟨ad, ha, by omega, by omega, _, c0, ?_⟩
       obtain ⟨Y, hY⟩ : ∃ Y, Y = KidsS tnN tpN d (gs.take m) ((kidsOf A).take m) :: KidsS tnN tpN d (gs.drop (m + 1)) ((kidsOf A).drop (m + 1)) :: Cs g (ndC A.at_ true false A.wr l2 kk2) tnN :: Row EE tEy l2 A.l :: Row EPt tpN kk2 gs :: X := ⟨_, rfl⟩
       have hcell : ∀ (i : Nat) (hi : i < A.l.length) (ad2 : Addr), l2.a = some ad2 → ∀ w', St w' Y → cells3 w' (ad2.add (i * 3)) A.l[i] := fun i hi ad2 ha2 w' hw => by
         rw [hY] at hw
         obtain ⟨ad3, ha3, _, x0, x1, x2⟩ := Has.ey (St.has hw.up3 (by decide)) hi
         rw [ha2] at ha3
         injection ha3 with ha3
         subst ha3
         exact ⟨x0, x1, x2⟩
       obtain ⟨ad2, ha2, hb2, _⟩ := Has.ey (St.has q.sw (by decide)) (m := m) (by omega)
       refine ⟨fun nx w' => HighOk Y nx (flat d (kidsOf A)[m]) ∧ St w' (Cs g (ndC A.at_ true false A.wr l2 kk2) tnN :: Row EE tEy l2 A.l :: Row EPt tpN kk2 gs :: KidsS tnN tpN d gs (kidsOf A) :: Cs t (trC k gen rt osl) tTr :: DeskS k gk cd D :: X), ⟨_, q.cell 4, fun hnx => ⟨_, q.cell 4, ad2, ha2, by omega, by omega, ?_, q⟩, fun _ => ⟨?_, q⟩⟩, ?_⟩
       · have hnx : m + 1 < (kidsOf A).length := by omega
         refine .inr ⟨_, A.l[m + 1]'(by omega), rfl, fun x hx => ?_, hcell (m + 1) (by omega) ad2 ha2⟩
         rw [hkey (m + 1) hnx]
         obtain ⟨a1, a2⟩ := hko.hd hnx
         rw [← a2]
         exact flat_lt hko.srt (Nat.lt_succ_self m) hnx hx (hdE_mem a1)
       · rcases hhigh with rfl | ⟨a, y, rfl, hly, hc⟩
         · exact .inl rfl
         · exact .inr ⟨a, y, rfl, fun x hx => hly x (List.mem_flatMap.2 ⟨_, List.getElem_mem hlt, hx⟩), fun w' hw => by
             rw [hY] at hw
             exact hc w' hw.drop.drop.drop.drop.drop⟩
       clear q
       rintro nx w26 ⟨hnx, q⟩
       refine ⟨_, q.cell 4, ad2, ha2, by omega, by omega, ?_⟩
       have e1 : w64 (depth + 1) = depth + 1 := w64_id (by omega) (by omega)
       rw [e1]
       obtain ⟨b1, b3, b6⟩ := hko.bd _ (List.getElem_mem hlt)
       have q := KidsS.out hgl hlt q.up3
       have q : St w26 (NodeS tnN tpN d gs[m] (kidsOf A)[m] :: Cs t (trC k gen rt osl) tTr :: DeskS k gk cd D :: Y) := by
         rw [hY]
         exact q.up7.up7.up2
       refine ih _ _ _ _ _ _ _ _ q (hD.2 _ (List.getElem_mem hlt)) ((hD.1 hw).2 _ (List.getElem_mem hlt)) b1 ⟨by omega, b6⟩ (by omega) (by omega) (fun _ => b3) (fun _ => by omega) (.inr ⟨_, rfl, ?_⟩) hnx fun w27 q => ⟨fun h => absurd rfl h, fun _ => ⟨⟨m + 1, rfl, hlt, ?_⟩, hms⟩⟩
       · rw [← hkey m hlt]
         exact hcell m (by omega) ad2 ha2
       · rw [hY] at q
         have q := KidsS.into (by rw [List.length_take, List.length_take, hgl]) (q.up7.up7.up7.up7.up7.up5)
         rw [take_mid_eq hgi, take_mid_eq hlt] at q
         exact q.up3.up3.up3
     · have hmm : m = (kidsOf A).length := by omega
       subst hmm
       exact hR w25 (NodeR.s (NodeR.ofKids hgl q))
theorem look_st (hH : Have D es) (hlv : level ≤ 10) : ∀ d, LookP t k gk cd gen level rt osl D es d
 | 0 => look_step hH hlv fun e h => (by cases h)
 | d + 1 => look_step hH hlv fun e h => by
   injection h with h
   subst h
   exact look_st hH hlv d
end
section
variable {w : World} {X : List As} {k gk cd : Nat} {D : DkV} {es : List Ent} {gen root : Int} {L : List Ey}
theorem TCheck_b (h : St w (DeskS k gk cd D :: X)) (hH : Have D es) (hT : TrD es gen root L) (hl : L.length ≤ 161) {R : Int → World → Prop} (hR : ∀ w', St w' (DeskS k gk cd D :: X) → R 0 w') : F.tree_Check (some (blk k)) gen root w R := by
 obtain ⟨Tr, hr, hM⟩ := hT.mem hH
 apply E.tree_Check
 unfold V.tree_Check
 try simp -zeta only [ldC, soC, brC, bkA, slC, cnd_all, blk_add2, Nat.reduceAdd]
 refine topen_st h hH hM.ok hM.dk hr fun t w1 q => ⟨fun h => absurd rfl h, fun _ => ?_⟩
 obtain ⟨r, osl, q⟩ := TreeS.parts q
 refine ⟨_, rfl, _, q.cell 2, ?_⟩
 have q0 := q.up2
 clear q
 rcases RootS.cases q0 with ⟨rfl, rfl, qz⟩ | ⟨g, d, A, rfl, rfl, qz⟩
 · exact ⟨fun _ => hR w1 qz.drop.drop, fun h => absurd h (by simp [ptO])⟩
 · have q := qz
   have hok := hM.ok
   have hd := TrD.fit (es := es) (gen := gen) (root := root) hok hM.fl hl
   refine ⟨fun h => absurd h (by simp [ptO]), fun _ => ?_⟩
   -- node, tree, old, desk
   refine TDepth_st q.up3 hH hr hM hl fun w2 q => ⟨fun h => absurd rfl h, fun _ => ⟨_, rfl, _, q.up2.cell 2, ?_⟩⟩
   refine look_st hH (by show ((d + 1 : Nat) : Int) ≤ 10; omega) d A g _ _ _ _ _ _ (q.up2.up2) hM.dk hr.1 hok.1 hok.len (by decide) (by show (1 : Int) + (d : Int) = ((d + 1 : Nat) : Int); omega) (fun h => absurd h (by decide)) (fun h => by have := hok.2.1; omega) (.inl rfl) (.inl rfl) fun w3 q => hR w3 (q.drop.drop.d2)
end
end Go.Proofs.YtggachhkcmfijaaGreatDoor
