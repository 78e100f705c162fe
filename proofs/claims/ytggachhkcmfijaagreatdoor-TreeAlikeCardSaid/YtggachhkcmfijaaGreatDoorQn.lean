/- Trees: all that is another one now is written, and what is not needed any more is given back; how many entries there are. -/
import Derived.Test.YtggachhkcmfijaaGreatDoorQj
set_option linter.unusedVariables false
namespace Go.Proofs.YtggachhkcmfijaaGreatDoor
open Go Go.Vc Go.RowKit Go.Lib Go.Maps
section
variable {w : World} {X : List As} {t k gk cd : Nat} {gen tg : Int} {D : DkV} {es : List Ent} {Tr : Tree} {ol : List Int} {L : List Ey}
set_option maxHeartbeats 4000000 in
theorem done_st (hg : 1 ≤ gen ∧ gen ≤ 3) (h : St w (TreeS t k gen Tr ol :: DeskS k gk cd D :: X)) (hT : MTr D es gen Tr ol L) (hroom : es.length + (plT Tr).length + 2 ≤ D.bs.length) (hL : es.length ≤ 1000 ∧ (plT Tr).length ≤ 1000) (hc : cd ≤ 800000) (hol : ol.length ≤ 10000) {R : Int → Int → World → Prop}
   (hR : ∀ w' D' es' root, TrD es' gen root L → Have D' es' → Sm D D' → St w' (DeskS k gk (cd + 40 * (plT Tr).length) D' :: X) → R root 0 w') : F.tree_tree_done (some (blk t)) w R := by
 apply E.tree_tree_done
 unfold V.tree_tree_done
 try simp -zeta only [ldC, soC, brC, bkA, slC, cnd_all, blk_add2, Nat.reduceAdd]
 obtain ⟨r, osl, q⟩ := TreeS.parts h
 refine ⟨fun at_ e w' => e = 0 ∧ ∃ Tr' D' es' ol' r' osl', Dn D gen Tr' ol' D' es' ∧ OkT Tr' ∧ flatT Tr' = L ∧ RootT Tr' at_ ∧ ol'.length ≤ 100000 ∧ St w' (Cs t (trC k gen (ptO r') osl') tTr :: Row EI T.y_int osl' ol' :: DeskS k gk (cd + 40 * (plT Tr).length) D' :: X), ⟨_, q.cell 2, ?_, ?_⟩, ?_⟩
 · intro hno
   have q0 := q.up2
   clear q
   rcases RootS.cases q0 with ⟨rfl, rfl, qz⟩ | ⟨g, d, A, rfl, rfl, qz⟩
   · exact absurd hno (by simp [ptO])
   · have q := qz
     have hok := hT.ok
     have ep : plT (some ⟨d, A⟩) = pl d A := rfl
     rw [ep] at hroom hL
     have e0 : cd = cd + 40 * (es.length - es.length) := by omega
     rw [e0] at q
     refine ⟨_, q.sw.cell 2, ?_⟩
     refine save_st (n0 := es.length) hg d q (Nat.le_refl _) hT.hv hT.dk hok.1 hok.len hT.lens hroom (by omega) (by omega) fun w1 A' D' es' ol' osl' hs ho q => ?_
     have hl := OkT.like hok hs.like
     have hfw := hs.few
     have hrg := Dk.rng hs.hv hs.dk hs.wr
     refine ⟨rfl, some ⟨d, A'⟩, D', es', ol', some g, osl', Dn.of hT hs, hl.1, hl.2.trans hT.fl, ⟨hs.wr, rfl, by omega⟩, by omega, ?_⟩
     have q := DeskS.mono (q.up2.up2.up3) (c' := cd + 40 * (plT (some ⟨d, A⟩)).length) (by rw [ep]; omega)
     exact q.up3.drop.up2.up2
 · intro hno
   have q0 := q.up2
   clear q
   rcases RootS.cases q0 with ⟨rfl, rfl, qz⟩ | ⟨g, d, A, rfl, rfl, qz⟩
   · exact ⟨rfl, none, D, es, ol, none, osl, Dn.none_ hT, trivial, hT.fl, rfl, by omega, qz⟩
   · exact absurd hno (by simp [ptO])
 rintro at_ _ w1 ⟨rfl, Tr', D', es', ol', r', osl', hD, hok, hfl, hrt, hol', q⟩
 have hlo := (St.has q.sw (by decide)).1
 refine ⟨_, q.cell 3, fun e n w' => e = 0 ∧ ∃ (m : Nat) (D1 : DkV) (es1 : List Ent), n = m ∧ m ≤ ol'.length ∧ Dn D gen Tr' (ol'.drop m) D1 es1 ∧ St w' (Cs t (trC k gen (ptO r') osl') tTr :: Row EI T.y_int osl' ol' :: DeskS k gk (cd + 40 * (plT Tr).length) D1 :: X), fun _ n _ => ((ol'.length : Int) - n).toNat, ⟨rfl, 0, D', es', rfl, Nat.zero_le _, hD, q⟩, ?_⟩
 clear hD q
 rintro _ _ w2 ⟨rfl, m, D1, es1, rfl, hm, hD1, q⟩
 refine ⟨fun hlt => ?_, fun hge => ?_⟩
 · have hlt : m < ol'.length := by omega
   have hms : ((ol'.length : Int) - ((m + 1 : Nat) : Int)).toNat < ((ol'.length : Int) - (m : Int)).toNat := by omega
   obtain ⟨ad, ha, hb, c0⟩ := Has.int (St.has q.sw (by decide)) (m := m) hlt
   rw [List.drop_eq_getElem_cons hlt] at hD1
   obtain ⟨a, e, b, rfl, hat, hnext⟩ := hD1.step
   refine ⟨ad, ha, by omega, by omega, _, by simpa using c0, fun _ => ⟨_, q.cell0, ?_⟩, fun hno => absurd rfl hno⟩
   rw [← hat, w64_succ (by omega)]
   exact Drop_E q.up2 hD1.hv fun w3 hH3 q => ⟨⟨rfl, m + 1, _, _, rfl, hlt, hnext hH3, q.up2.up2⟩, hms⟩
 · have hmm : m = ol'.length := by omega
   subst hmm
   rw [List.drop_length] at hD1
   exact hR w2 D1 es1 at_ (hD1.end_ hok hfl hrt) hD1.hv hD1.sm q.drop.drop
end
end Go.Proofs.YtggachhkcmfijaaGreatDoor

/- Trees: how many entries there are. -/
set_option linter.unusedVariables false
namespace Go.Proofs.YtggachhkcmfijaaGreatDoor
open Go Go.Vc Go.RowKit Go.Lib Go.Maps
section
variable {w : World} {X : List As} {t k gk cd : Nat} {gen tg : Int} {D : DkV} {es : List Ent} {Tr : Tree} {ol : List Int} {L : List Ey}
/-- one of those below a part -/
theorem NodeR.down {d g : Nat} {A : Nd (d + 1)} {C1 C2 : As} {Y : List As} (h : St w (NodeR tnN tpN (d + 1) g A :: C1 :: C2 :: Y)) {i : Nat} (hi : i < (kidsOf A).length) :
   ∃ (kk : Sl) (ad : Addr) (gi : Nat) (Y' : List As), w.cell? ((blk g).add 2) = some (.bool false) ∧ w.cell? ((blk g).add 5) = some (.slice kk.a kk.len kk.cap) ∧ kk.a = some ad ∧ i < kk.len ∧ w.cell? (ad.add (i * 1)) = some (.pointer (some (blk gi))) ∧
     St w (NodeS tnN tpN d gi (kidsOf A)[i] :: C1 :: C2 :: Y') ∧ ∀ w', St w' (NodeS tnN tpN d gi (kidsOf A)[i] :: C1 :: C2 :: Y') → St w' (NodeS tnN tpN (d + 1) g A :: C1 :: C2 :: Y) := by
 obtain ⟨l, kk, gs, hgl, q⟩ := NodeR.kids h
 obtain ⟨ad, ha, hb, c0⟩ := Has.pt (St.has q.up2 (by decide)) (m := i) (by omega)
 have hgi : i < gs.length := by omega
 have c2 := q.cell 2
 have c5 := q.cell 5
 have q := KidsS.out hgl hi q.up3
 -- kid, lo, hi, node, row l, row k, C1, C2
 refine ⟨kk, ad, gs[i], _, c2, c5, ha, hb, c0, q.up7.up7.up2, fun w' q => ?_⟩
 have q := KidsS.into (by rw [List.length_take, List.length_take, hgl]) (q.up4.up4.up2)
 rw [take_mid_eq hgi, take_mid_eq hi] at q
 exact NodeR.s (NodeR.ofKids hgl q.up2.up2.up2.up5.up5.up5)
theorem pow6 {j : Nat} (h : j ≤ 3) : 6 ^ j ≤ 216 ∧ 6 ^ (j + 1) = 6 ^ j * 6 := by
 refine ⟨?_, Nat.pow_succ ..⟩
 have : 6 ^ j ≤ 6 ^ 3 := Nat.pow_le_pow_right (by decide) h
 have e : (6 : Nat) ^ 3 = 216 := by decide
 omega
set_option maxHeartbeats 4000000 in
theorem count_st (h : St w (TreeS t k gen Tr ol :: DeskS k gk cd D :: X)) (hT : MTr D es tg Tr ol L) (hL : L.length ≤ 161) {more : Nat} (hm : more ≤ 161) {R : Int → Int → World → Prop}
   (hR : ∀ w', St w' (TreeS t k gen Tr ol :: DeskS k gk cd D :: X) → R 0 0 w') : F.tree_tree_count (some (blk t)) (more : Int) w R := by
 apply E.tree_tree_count
 unfold V.tree_tree_count
 try simp -zeta only [ldC, soC, brC, bkA, slC, cnd_all, blk_add2, Nat.reduceAdd]
 obtain ⟨r, osl, q⟩ := TreeS.parts h
 refine ⟨_, q.cell 2, fun room depth n w' => ∃ j : Nat, room = ((6 ^ j : Nat) : Int) ∧ depth = j ∧ j ≤ 3 ∧ ((n = none ∧ St w' (TreeS t k gen Tr ol :: DeskS k gk cd D :: X)) ∨ ∃ (d' g' : Nat) (A' : Nd d') (Y : List As), n = some (blk g') ∧ d' + j ≤ 3 ∧ Dk es tg d' A' ∧ Bd d' A' ∧ (1 ≤ A'.l.length ∧ A'.l.length ≤ 6) ∧ St w' (NodeS tnN tpN d' g' A' :: Cs t (trC k gen (ptO r) osl) tTr :: DeskS k gk cd D :: Y) ∧ ∀ w'', St w'' (NodeS tnN tpN d' g' A' :: Cs t (trC k gen (ptO r) osl) tTr :: DeskS k gk cd D :: Y) → St w'' (TreeS t k gen Tr ol :: DeskS k gk cd D :: X)), fun _ depth _ _ => (10 - depth).toNat, ⟨0, rfl, rfl, by decide, ?_⟩, ?_⟩
 · have q0 := q.up2
   clear q
   rcases RootS.cases q0 with ⟨rfl, rfl, qz⟩ | ⟨g, d, A, rfl, rfl, qz⟩
   · exact .inl ⟨rfl, h⟩
   · have hok := hT.ok
     have hfl : flat d A = L := hT.fl
     refine .inr ⟨d, g, A, Row EI T.y_int osl ol :: X, rfl, ?_, hT.dk, hok.1, hok.len, qz.up2.up3.up3.up3, fun w'' q => TreeS.some_ (g := g) (osl := osl) ?_⟩
     · have := depth_le hok.1 hok.2.1 (n := 161) (by rw [hfl]; exact hL) (by decide)
       omega
     · exact q.up2.up3.up3.up3
 clear q h
 rintro room depth n w1 ⟨j, rfl, rfl, hj, hn⟩
 obtain ⟨p1, p2⟩ := pow6 hj
 have e1 : w64 (((6 ^ j : Nat) : Int) + (more : Int)) = ((6 ^ j + more : Nat) : Int) := by rw [w64_id (by omega) (by omega)]; omega
 have e2 : w64 (((6 ^ j : Nat) : Int) * 6) = ((6 ^ (j + 1) : Nat) : Int) := by rw [w64_id (by omega) (by omega), p2]; omega
 have e3 : w64 (((6 ^ (j + 1) : Nat) : Int) + (more : Int)) = ((6 ^ (j + 1) + more : Nat) : Int) := by rw [w64_id (by omega) (by omega)]; omega
 rw [e1, e2, e3, w64_succ (by omega)]
 rcases hn with ⟨rfl, q⟩ | ⟨d', g', A', Y, rfl, hdj, hDk, hBd, hlen, q, hback⟩
 · exact ⟨fun h => absurd h (by simp), fun _ => ⟨fun _ => hR w1 q, fun hno => absurd (by omega) hno⟩⟩
 refine ⟨fun _ => ⟨fun _ => ?_, fun hno => absurd (by omega) hno⟩, fun h => absurd h (by simp)⟩
 refine load_st q hT.hv hDk hBd hlen.1 hlen.2 (by omega) fun w2 q => ⟨fun h => absurd rfl h, fun _ => ?_⟩
 cases d' with
 | zero =>
   obtain ⟨l', k', s⟩ := NodeR.see q
   exact ⟨_, rfl, _, s.c2, fun _ => ⟨fun _ => hR w2 (hback w2 (NodeR.s q)), fun hno => absurd (by omega) hno⟩, fun h => absurd h (by simp)⟩
 | succ d =>
   have hll : A'.l.length = (kidsOf A').length := by rw [hBd.1, keyL_len]
   obtain ⟨kk, ad, gi, Y', c2, c5, ha, hb, c0, q, hback2⟩ := NodeR.down q (i := 0) (by omega)
   obtain ⟨b1, b3, b6⟩ := (KidsOk.of hBd).bd _ (List.getElem_mem (show 0 < (kidsOf A').length by omega))
   refine ⟨_, rfl, _, c2, fun h => (by cases h), fun _ => ⟨_, rfl, _, c5, ad, ha, by omega, by omega, _, c0, ⟨j + 1, rfl, rfl, by omega, .inr ⟨d, gi, _, Y', rfl, by omega, hDk.2 _ (List.getElem_mem _), b1, ⟨by omega, b6⟩, q, fun w'' q => hback w'' (hback2 w'' q)⟩⟩, ?_⟩⟩
   show (10 - ((j + 1 : Nat) : Int)).toNat < (10 - (j : Int)).toNat
   omega
end
end Go.Proofs.YtggachhkcmfijaaGreatDoor

/- Trees: entries are added, dropped: all of them, or none. -/
set_option linter.unusedVariables false
namespace Go.Proofs.YtggachhkcmfijaaGreatDoor
open Go Go.Vc Go.RowKit Go.Lib Go.Maps
/-- a call that adds, or drops, an entry; Z: what it keeps besides -/
def DoT (k gk : Nat) (gen : Int) (D : DkV) (es : List Ent) (n f : Nat) (cap : List Value) (Z : Nat → As) (stp : List Ey × Int → Ey → List Ey × Int) : Prop :=
 ∀ (w : World) (X : List As) (t cd m : Nat) (Tr : Tree) (ol : List Int) (L : List Ey) (x : Ey) (R : Int → World → Prop), St w (TreeS t k gen Tr ol :: DeskS k gk cd D :: Z m :: X) → MTr D es gen Tr ol L → L.length + 1 ≤ 161 → ol.length ≤ 20 * m → m + 1 ≤ n → x.s.length ≤ 1000000000 →
   (∀ e w', stp (L, 0) x = (L, e) → e ≠ 0 → St w' (DeskS k gk cd D :: X) → R e w') →
   (∀ w' Tr' ol', (stp (L, 0) x).2 = 0 → MTr D es gen Tr' ol' (stp (L, 0) x).1 → ol'.length ≤ 20 * (m + 1) → St w' (TreeS t k gen Tr' ol' :: DeskS k gk cd D :: Z (m + 1) :: X) → R 0 w') →
   RetT Pg [.one (.int .i64)] f ⟨[.pointer (some (blk t)), .agg #[.int .i64 x.k, .string (tx x.s), .int .i64 x.a]] ++ cap⟩ w R
section
variable {w : World} {X : List As} {k gk cd : Nat} {D : DkV} {es : List Ent} {gen root : Int} {L : List Ey}
theorem TrD.mem (h : TrD es gen root L) (hH : Have D es) : ∃ Tr, RootT Tr root ∧ MTr D es gen Tr [] L := by
 obtain ⟨t, h1, h2, h3, h4, h5⟩ := h.tree
 refine ⟨t, ?_, hH, h1, h2, h3, by rw [List.append_nil]; exact h4, h.gens, h.lens, rfl⟩
 cases t with
 | none => exact h5
 | some q => exact h5
set_option maxHeartbeats 4000000 in
theorem tchange_st {f : Nat} {cap : List Value} {Z : Nat → As} {stp : List Ey × Int → Ey → List Ey × Int} {xs : List Ey} (hdo : DoT k gk gen D es xs.length f cap Z stp) (hcall : Callable Pg f) (hse : ∀ st x, st.2 ≠ 0 → stp st x = st) (hsl : ∀ st x, (stp st x).1.length ≤ st.1.length + 1)
   (h : St w (DeskS k gk cd D :: Z 0 :: X)) (hH : Have D es) (hT : TrD es gen root L) (hg : 1 ≤ gen ∧ gen ≤ 3) (hroom : 2 * L.length + xs.length + 2 ≤ D.bs.length)
   {sl : Sl} (hx : ∀ w', St w' X → Has EE w' sl xs) (hl : L.length + xs.length ≤ 161) (hxs : ∀ x ∈ xs, x.s.length ≤ 1000000000) (hcd : cd ≤ 700000) {R : Int → Int → World → Prop}
   (hE : ∀ w' e, (allF stp L xs).2 = e → e ≠ 0 → St w' (DeskS k gk (cd + 8000) D :: X) → R 0 e w')
   (hR : ∀ w' D' es' root', (allF stp L xs).2 = 0 → Have D' es' → Sm D D' → TrD es' gen root' (allF stp L xs).1 → St w' (DeskS k gk (cd + 8000) D' :: X) → R root' 0 w') : F.tree_change (some (blk k)) gen root sl (.func (.func f) #[] ⟨cap⟩) w R := by
 apply E.tree_change
 unfold V.tree_change
 try simp -zeta only [ldC, soC, brC, bkA, slC, cnd_all, blk_add2, Nat.reduceAdd]
 have hlx := (hx w h.drop.drop).1
 refine ⟨fun b w' => b = false ∧ w = w', ⟨fun h => absurd h (by omega), fun _ => ⟨decide_eq_false (by omega), rfl⟩⟩, ?_⟩
 rintro b _ ⟨rfl, rfl⟩
 refine ⟨fun h => (by cases h), fun _ => ⟨fun hz => ?_, fun hnz => ?_⟩⟩
 · have hz : xs = [] := List.eq_nil_of_length_eq_zero (by have hz : ((sl.len : Nat) : Int) = 0 := (by first | exact hz | simpa using hz); omega)
   subst hz
   exact hR w D es root rfl hH (Sm.refl D) hT (DeskS.mono h.d2 (by omega))
 have hdk := DeskS.ok h
 refine Mark_st h fun r b w1 q => ?_
 refine St.al q fun wa1 q => ?_
 generalize w1.heap.size = mk at *
 refine St.fill4 q fun wa5 q => ?_
 obtain ⟨Tr0, hr0, hM0⟩ := hT.mem hH
 -- mark, .., desk, Z, X
 refine topen_st q.up3 hH hM0.ok hM0.dk hr0 fun t w7 q => ?_
 generalize hY : Cs mk [.pointer (some (blk k)), .pointer (some (blk r)), .map (some b), .int .i64 D.syncs] T.y_desk_Mark :: RoomS r D.bs :: MapS b D.ws :: X = Y
 have hxY : ∀ w', St w' Y → Has EE w' sl xs := fun w' hw => by
   rw [← hY] at hw
   exact hx w' hw.drop.drop.drop
 have q : St w7 (TreeS t k gen Tr0 [] :: DeskS k gk cd D :: Z 0 :: Y) := by
   rw [← hY]
   exact q.up4.up4.up4.up5.up5.up5
 have hfl : ∀ m, (allF stp L (xs.take m)).1.length ≤ L.length + xs.length := fun m => by
   have := allF_len hsl L (xs.take m)
   rw [List.length_take] at this; omega
 -- all that was done so far, or an error
 have hInv : ∃ Inv : Int → Nat → World → Prop, Inv = fun e m w' => (e = 0 ∧ (allF stp L (xs.take m)).2 = 0 ∧ ∃ Tr ol, MTr D es gen Tr ol (allF stp L (xs.take m)).1 ∧ ol.length ≤ 20 * m ∧ St w' (TreeS t k gen Tr ol :: DeskS k gk cd D :: Z m :: Y)) ∨ (e ≠ 0 ∧ (allF stp L xs).2 = e ∧ St w' (DeskS k gk cd D :: Y)) := ⟨_, rfl⟩
 obtain ⟨Inv, hInv⟩ := hInv
 refine ⟨fun e w' => Inv e xs.length w', ⟨fun e i w' => ∃ m : Nat, i = m ∧ m ≤ xs.length ∧ Inv e m w', fun e i _ => if e = 0 then ((xs.length : Int) - i).toNat else 0, ⟨0, rfl, Nat.zero_le _, by rw [hInv]; exact .inl ⟨rfl, rfl, Tr0, [], hM0, Nat.zero_le _, q⟩⟩, ?_⟩, ?_⟩
 · rintro e _ w8 ⟨m, rfl, hm, hI⟩
   refine ⟨fun he => ⟨fun hlt => ?_, fun hge => ?_⟩, fun hne => ?_⟩
   · have he : e = 0 := by first | exact he | simpa using he
     subst he
     have hlt : m < xs.length := by omega
     rw [hInv] at hI
     rcases hI with ⟨_, hz, Tr1, ol1, hT1, hol1, q⟩ | ⟨hne, _⟩
     rotate_left
     · exact absurd rfl hne
     obtain ⟨ad, ha, hb, c0, c1, c2⟩ := Has.ey (hxY _ q.drop.drop.drop) hlt
     refine ⟨ad, ha, by omega, by omega, _, c0, _, c1, _, c2, f, #[], ⟨cap⟩, rfl, hcall, ?_⟩
     have hst : (allF stp L (xs.take m)) = ((allF stp L (xs.take m)).1, 0) := by rw [← hz]
     have hnx := allF_take (f := stp) (L := L) hlt
     rw [hst] at hnx
     have hml := hfl m
     rw [w64_succ (by omega)]
     have hms : ∀ e' : Int, (if e' = 0 then ((xs.length : Int) - ((m + 1 : Nat) : Int)).toNat else 0) < (if (0 : Int) = 0 then ((xs.length : Int) - (m : Int)).toNat else 0) := fun e' => by
       rw [if_pos rfl]
       split <;> omega
     have hl1 : (allF stp L (xs.take m)).1.length ≤ L.length + m := by
       have := allF_len hsl L (xs.take m)
       rw [List.length_take] at this; omega
     refine hdo w8 Y t cd m Tr1 ol1 _ xs[m] _ q hT1 (by omega) hol1 hlt (hxs _ (List.getElem_mem _)) (fun e w' he hne q => ⟨⟨m + 1, rfl, hlt, ?_⟩, hms e⟩) fun w' Tr' ol' he hT' hol' q => ⟨⟨m + 1, rfl, hlt, ?_⟩, hms 0⟩
     · rw [hInv]
       rw [he] at hnx
       refine .inr ⟨hne, ?_, q⟩
       rw [allF_err hse (m := m + 1) (by rw [hnx]; exact hne), hnx]
     · rw [hInv]
       exact .inl ⟨rfl, by rw [hnx]; exact he, Tr', ol', by rw [hnx]; exact hT', hol', q⟩
   · have hmm : m = xs.length := by omega
     subst hmm; exact hI
   · have hne : ¬ e = 0 := by first | exact hne | simpa using hne
     rw [hInv] at hI ⊢
     rcases hI with ⟨he, _⟩ | hI
     · exact absurd he hne
     · exact .inr hI
 rintro e w10 hI
 rw [hInv] at hI
 simp only [List.take_length] at hI
 refine ⟨fun e' at_ w' => (e' = 0 ∧ (allF stp L xs).2 = 0 ∧ ∃ D' es', Have D' es' ∧ Sm D D' ∧ TrD es' gen at_ (allF stp L xs).1 ∧ St w' (DeskS k gk (cd + 8000) D' :: Y)) ∨ (e' ≠ 0 ∧ (allF stp L xs).2 = e' ∧ St w' (DeskS k gk cd D :: Y)), ⟨fun he => ?_, fun hne => ?_⟩, ?_⟩
 · have he : e = 0 := by first | exact he | simpa using he
   rcases hI with ⟨_, hz, Tr1, ol1, hT1, hol1, q⟩ | ⟨hne, _⟩
   · have hfew := hT.few
     have hn1 := nodesT_le hT1.ok
     have hfl1 := hfl xs.length
     rw [List.take_length] at hfl1
     rw [hT1.fl] at hn1
     refine done_st hg q hT1 (by omega) ⟨by omega, by omega⟩ (by omega) (by omega) fun w11 D' es' root' hT' hH' hS' q => .inl ⟨rfl, hz, D', es', hH', hS', hT', DeskS.mono q.d2 (by omega)⟩
   · exact absurd he hne
 · have hne : ¬ e = 0 := by first | exact hne | simpa using hne
   rcases hI with ⟨he, _⟩ | hI
   · exact absurd he hne
   · exact .inr hI
 rintro e' at_ w12 hK
 refine ⟨fun hne => ?_, fun he => ?_⟩
 · have hne : ¬ e' = 0 := by first | exact hne | simpa using hne
   rcases hK with ⟨he, _⟩ | ⟨_, hee, q⟩
   · exact absurd he hne
   · rw [← hY] at q
     refine ⟨_, q.sw.cell0, _, q.sw.cell 1, _, q.sw.cell 2, _, q.sw.cell 3, ?_⟩
     refine Back_st q.d2 hdk rfl rfl fun w13 q => ?_
     have e1 : backD D D = D := (Sm.refl D).1
     rw [e1, Nat.max_self] at q
     exact hE w13 e' hee hne (DeskS.mono q.d2.d2 (by omega))
 · have he : e' = 0 := by first | exact he | simpa using he
   rcases hK with ⟨_, hz, D', es', hH', hS', hT', q⟩ | ⟨hne, _⟩
   · rw [← hY] at q
     exact hR w12 D' es' at_ hz hH' hS' hT' q.d2.d2.d2
   · exact absurd he hne
end
end Go.Proofs.YtggachhkcmfijaaGreatDoor

/- Trees: Add. -/
set_option linter.unusedVariables false
namespace Go.Proofs.YtggachhkcmfijaaGreatDoor
open Go Go.Vc Go.RowKit Go.Lib Go.Maps
theorem addS_bad {L : List Ey} {x : Ey} (h : ¬ okE x) : addS (L, 0) x = (L, 1) := by
 unfold addS
 rw [if_neg (by simp), if_pos h]
theorem addS_dup {L : List Ey} {x : Ey} (h : okE x) (hm : x ∈ L) : addS (L, 0) x = (L, 9) := by
 unfold addS
 rw [if_neg (by simp), if_neg (fun k => k h), if_pos hm]
theorem addS_yes {L : List Ey} {x : Ey} (h : okE x) (hm : x ∉ L) (hl : L.length < 1500) : addS (L, 0) x = (insE L x, 0) := by
 unfold addS
 rw [if_neg (by simp), if_neg (fun k => k h), if_neg hm, if_neg (by show ¬ 1500 ≤ L.length; omega)]
/-- what Add keeps between two of its entries: how many there were, and the list that was handed in -/
def addZ (gm gl : Nat) (sl : Sl) (m : Nat) : As := As.all [Cs gm [.int .i64 (if m = 0 then -1 else (m : Int))] T.y_int, Cs gl [.slice sl.a sl.len sl.cap] T.y_sl_api_Entry]
section
variable {k gk gm gl n : Nat} {sl : Sl} {D : DkV} {es : List Ent} {gen : Int}
set_option maxHeartbeats 4000000 in
theorem do_add18 (hn : sl.len = n) (hn2 : n ≤ 161) : DoT k gk gen D es n 42 [.pointer (some (blk gm)), .pointer (some (blk gl))] (addZ gm gl sl) addS := by
 intro w X t cd m Tr ol L x R h hT hL hol hm hx hB hR
 show F.tree_Add_fn1 (some (blk t)) x.k (tx x.s) x.a (blk gm) (blk gl) w R
 apply E.tree_Add_fn1
 unfold V.tree_Add_fn1
 try simp -zeta only [ldC, soC, brC, bkA, slC, cnd_all, blk_add2, Nat.reduceAdd]
 refine St.al h fun wa1 q => ?_
 generalize w.heap.size = gx at *
 -- entry, tree, desk, Z
 refine ⟨_, q.cell0, _, q.cell 1, _, q.cell 2, valid_st q fun w1 q => ⟨fun hb => ?_, fun hb => ?_⟩⟩
 · have hb : ¬ okE x := by simpa using hb
   exact hB 1 w1 (addS_bad hb) (by decide) q.drop.drop.d2
 have hxo : okE x := by simpa using hb
 have q : St w1 (TreeS t k gen Tr ol :: DeskS k gk cd D :: Cs gm [.int .i64 (if m = 0 then -1 else (m : Int))] T.y_int :: Cs gl [.slice sl.a sl.len sl.cap] T.y_sl_api_Entry :: Cs gx [.int .i64 x.k, .string (tx x.s), .int .i64 x.a] T.y_api_Entry :: X) := by
   have q1 := (q.up3).unfold
   exact q1.up2.up2.up2.up4.up4
 refine ⟨fun w' => St w' (TreeS t k gen Tr ol :: DeskS k gk cd D :: Cs gm [.int .i64 (m : Int)] T.y_int :: Cs gl [.slice sl.a sl.len sl.cap] T.y_sl_api_Entry :: Cs gx [.int .i64 x.k, .string (tx x.s), .int .i64 x.a] T.y_api_Entry :: X), ?_, ?_⟩
 · refine ⟨_, q.up2.cell0, fun hneg => ?_, fun hpos => ?_⟩
   · have hm0 : m = 0 := Decidable.byContradiction fun hne => by rw [if_neg hne] at hneg; omega
     subst hm0
     refine ⟨_, q.up3.cell0, ?_⟩
     refine count_st q hT (by omega) (by omega) fun w2 q => ⟨fun h => absurd rfl h, fun _ => ?_⟩
     have q := q.up2
     refine St.st0 q (by simp) fun wa2 q => ?_
     exact q.up2.up2
   · have hm0 : m ≠ 0 := fun e => by rw [if_pos e] at hpos; omega
     rw [if_neg hm0] at q
     exact q
 clear q h
 intro w4 q
 refine ⟨_, q.up2.cell0, fun hbig => absurd hbig (by omega), fun _ => ⟨_, q.up2.cell0, ?_⟩⟩
 have q := q.up2
 have e1 : w64 ((m : Int) + 1) = ((m + 1 : Nat) : Int) := w64_succ (by omega)
 rw [e1]
 refine St.st0 q (by simp) fun wa3 q => ?_
 -- many, tree, desk, list, entry
 obtain ⟨r, osl, q⟩ := TreeS.parts q.sw
 -- tree, old, root, many, desk, list, entry
 have hZ : ∀ (w' : World) (A B : As), St w' (A :: B :: Cs gm [.int .i64 ((m + 1 : Nat) : Int)] T.y_int :: Cs gl [.slice sl.a sl.len sl.cap] T.y_sl_api_Entry :: X) → St w' (A :: B :: addZ gm gl sl (m + 1) :: X) := fun w' A B q => by
   have e2 : (if m + 1 = 0 then (-1 : Int) else ((m + 1 : Nat) : Int)) = ((m + 1 : Nat) : Int) := if_neg (by omega)
   unfold addZ
   rw [e2]
   have q1 : St w' (As.all [Cs gm [.int .i64 ((m + 1 : Nat) : Int)] T.y_int, Cs gl [.slice sl.a sl.len sl.cap] T.y_sl_api_Entry] :: A :: B :: X) := St.fold [Cs gm [.int .i64 ((m + 1 : Nat) : Int)] T.y_int, Cs gl [.slice sl.a sl.len sl.cap] T.y_sl_api_Entry] q.up3.up3
   exact q1.up2.up2
 have q0 := q.up2
 clear q
 rcases RootS.cases q0 with ⟨rfl, rfl, qz⟩ | ⟨g, d, A, rfl, rfl, qz⟩
 · -- tree, old, many, desk, list, entry
   have q := qz
   have hL0 : L = [] := hT.fl.symm
   subst hL0
   have hadd := addS_yes hxo (L := []) (by simp) (by simp)
   refine ⟨_, q.cell 2, fun _ => ?_, fun h => absurd h (by simp [ptO])⟩
   refine ⟨_, q.up5.cell0, _, q.up5.cell 1, _, q.up5.cell 2, ?_⟩
   refine St.al q fun wa4 q => ?_
   refine St.al q fun wa5 q => ?_
   -- node, lit, tree, old, many, desk, list, entry
   have q := q.up2
   refine St.st q (by simp) fun wa6 q => ?_
   have q := St.rowLit (q.up2) (En := EE) (xs := [x]) (n := 1) rfl rfl (by decide)
   -- row, tree, node, old, many, desk, list, entry
   rw [hadd] at hR
   refine hR _ (addT none x) ol rfl (hT.add hxo (by simp)) (by omega) (hZ _ _ _ ?_)
   have q : St _ (NodeR tnN tpN 0 _ (⟨0, true, [x], []⟩ : Nd 0) :: _) := NodeR.ofLeaf (l := ⟨some (blk _), 1, 1⟩) q.sw.sw.up2
   -- node, tree, old, many, desk, list, entry
   have q := TreeS.some_ (NodeR.s q)
   exact (q.up3.up2.up3.up3.up4).drop
 · -- node, tree, old, many, desk, list, entry
   have q := qz
   have hfl : flat d A = L := hT.fl
   have hok := hT.ok
   refine ⟨_, q.sw.cell 2, fun h => absurd h (by simp [ptO]), fun _ => ?_⟩
   refine St.dr q fun wa7 q => ?_
   refine ⟨_, q.sw.cell 2, _, q.up6.cell0, _, q.up6.cell 1, _, q.up6.cell 2, ?_⟩
   have hdd := depth_le hok.1 hok.2.1 (n := 161) (by rw [hfl]; omega) (by decide)
   refine add_st hxo hT.hv d q.up6.up6.up5.up5.up6.up6.up6 hT.dk hok.1 hok.len.1 hok.len.2 (by decide) (by omega) (fun hin w5 q => ⟨fun h => absurd h (by decide), fun _ => ?_⟩) fun hno w5 o q => ⟨fun _ => ?_, fun h => absurd rfl h⟩
   · rw [hfl] at hin
     exact hB 9 w5 (addS_dup hxo hin) (by decide) (q.drop.drop.d2.d2.d2.d2)
   · rw [hfl] at hno
     have hadd := addS_yes hxo hno (by omega)
     rw [hadd] at hR
     have hM := hT.add hxo hno
     have hok2 := hM.ok
     have hco := add_ok d A x hok.1 (fun e => by have := hok.len.1; rw [e] at this; simp at this) hok.len.2 hxo (by rw [hfl]; exact hno)
     have hge : 1 ≤ (addN d A x).1.l.length := by
       cases h2 : (addN d A x).2 with
       | none => have := hco.no h2; have := hok.len.1; omega
       | some m => have := (hco.so m h2).2.2.2; omega
     have heq : addT (some ⟨d, A⟩) x = match addN d A x with
       | (A', none) => some ⟨d, A'⟩
       | (A', some m) => some ⟨d + 1, ndK 0 true [A', m]⟩ := rfl
     rw [heq] at hM
     -- opt, node, tree, desk, old, many, list, entry
     refine grow_st q hge (fun q hq => by have := (hco.so q hq).2.1; omega) (fun hno w6 q => ?_) fun mm hmm w6 g' q => ?_
     · generalize addN d A x = r at *
       obtain ⟨r1, r2⟩ := r
       simp only at hno
       subst hno
       refine hR w6 _ ol rfl hM (by omega) (hZ _ _ _ ?_)
       -- node, tree, desk, old, many, list, entry
       have q := TreeS.some_ (NodeR.s (q.up6.up6.up4.up6.up6.up6.up6))
       exact (q.up3.up2.up3.up3.up4).drop
     · generalize addN d A x = r at *
       obtain ⟨r1, r2⟩ := r
       simp only at hmm
       subst hmm
       refine hR w6 _ ol rfl hM (by omega) (hZ _ _ _ ?_)
       have q := TreeS.some_ (NodeR.s (q.up6.up6.up4.up6.up6.up6.up6))
       exact (q.up3.up2.up3.up3.up4).drop
end
theorem call42 : Callable Pg 42 := okChk_spec (by kernel_rfl)
section
variable {w : World} {X : List As} {k gk cd : Nat} {D : DkV} {es : List Ent} {gen root : Int} {L : List Ey}
theorem TAdd_st (h : St w (DeskS k gk cd D :: X)) (hH : Have D es) (hT : TrD es gen root L) (hg : 1 ≤ gen ∧ gen ≤ 3) {sl : Sl} {xs : List Ey} (hroom : 2 * L.length + xs.length + 2 ≤ D.bs.length)
   (hx : ∀ w', St w' X → Has EE w' sl xs) (hl : L.length + xs.length ≤ 161) (hxs : ∀ x ∈ xs, x.s.length ≤ 1000000000) (hcd : cd ≤ 700000) {R : Int → Int → World → Prop}
   (hE : ∀ w' e, (allF addS L xs).2 = e → e ≠ 0 → St w' (DeskS k gk (cd + 8000) D :: X) → R 0 e w')
   (hR : ∀ w' D' es' root', (allF addS L xs).2 = 0 → Have D' es' → Sm D D' → TrD es' gen root' (allF addS L xs).1 → St w' (DeskS k gk (cd + 8000) D' :: X) → R root' 0 w') : F.tree_Add (some (blk k)) gen root sl w R := by
 apply E.tree_Add
 unfold V.tree_Add
 try simp -zeta only [ldC, soC, brC, bkA, slC, cnd_all, blk_add2, Nat.reduceAdd]
 have hlx := (hx w h.drop).1
 refine St.al h fun wa1 q => ?_
 generalize w.heap.size = gl at *
 refine St.al q fun wa2 q => ?_
 generalize wa1.heap.size = gm at *
 refine St.st0 q (by simp) fun wa3 q => ?_
 refine ⟨_, q.sw.cell0, ?_⟩
 -- many, list, desk
 have q : St _ (addZ gm gl sl 0 :: DeskS k gk cd D :: X) := St.fold [Cs gm [.int .i64 (-1)] T.y_int, Cs gl [.slice sl.a sl.len sl.cap] T.y_sl_api_Entry] q
 exact tchange_st (do_add18 hlx (by omega)) call42 addS_err addS_len q.sw hH hT hg hroom hx hl hxs hcd hE hR
end
end Go.Proofs.YtggachhkcmfijaaGreatDoor
