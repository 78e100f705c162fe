/- brick: its calls, of chains that are there; masonrylaw16.alive. -/
import Derived.Test.YtmokmbhhnbcelaaGreatDoorGh
import Derived.Test.YtmokmbhhnbcelaaGreatDoorPk
import Derived.Test.YtmokmbhhnbcelaaGreatDoorPm
set_option linter.unusedVariables false
namespace Go.Proofs.YtmokmbhhnbcelaaGreatDoor
open Go Go.Vc Go.RowKit Go.Lib
/-- a chain is a piece -/
def BrOk (x : Th) : Prop := x.tag = 1 ∧ 34 ≤ x.data.length ∧ x.data.length ≤ 161 ∧ x.data.take 33 = layPr (kindG x.gen) (sumK (kindG x.gen) (x.data.drop 33))
def brB (gen : Int) (s : Bs) : Bs := layPr (kindG gen) (sumK (kindG gen) s) ++ s
theorem brB_take {gen : Int} (hg : 1 ≤ gen ∧ gen ≤ 3) (s : Bs) : (brB gen s).length = 33 + s.length ∧ (brB gen s).take 33 = layPr (kindG gen) (sumK (kindG gen) s) ∧ (brB gen s).drop 33 = s := by
 have hl : (layPr (kindG gen) (sumK (kindG gen) s)).length = 33 := layPr_len (by rw [sumK_len (kindG_ok hg)]; exact szN_le _)
 unfold brB
 refine ⟨by rw [List.length_append, hl], ?_, ?_⟩
 · rw [← hl, List.take_left]
 · rw [← hl, List.drop_left]
theorem BrOk.of {x : Th} (hg : 1 ≤ x.gen ∧ x.gen ≤ 3) {s : Bs} (ht : x.tag = 1) (hd : x.data = brB x.gen s) (h1 : 1 ≤ s.length) (h2 : s.length ≤ 128) : BrOk x ∧ x.data.drop 33 = s := by
 obtain ⟨a, b, c⟩ := brB_take hg s
 unfold BrOk
 rw [hd, c, b, a]
 exact ⟨⟨ht, by omega, by omega, rfl⟩, rfl⟩
section
variable {w : World} {X : List As} {k g c : Nat} {D : DkV} {e : Ent} {es : List Ent}
theorem EntOk.gen (h : EntOk D e) : 1 ≤ e.x.gen ∧ e.x.gen ≤ 3 := by
 have := (h.chn.ok 0 (by have := h.chn.pos; omega)).gen
 rw [h.hd.1] at this
 exact this
theorem Kind_st {gen : Int} {R : Int → World → Prop} (hR : R (kindG gen : Int) w) : F.brick_Kind gen w R := by
 apply E.brick_Kind
 unfold V.brick_Kind
 try simp (config := { zeta := false }) only [cnd_all, Nat.reduceAdd]
 unfold kindG at hR
 refine ⟨fun e => ?_, fun e => ⟨fun e2 => ⟨fun _ => ?_, fun e3 => absurd e2 e3⟩, fun e2 => ⟨fun e3 => ?_, fun e3 => ?_⟩⟩⟩
 · rw [if_pos e] at hR; exact hR
 · rw [if_neg e, if_pos (.inl e2)] at hR; exact hR
 · rw [if_neg e, if_pos (.inr e3)] at hR; exact hR
 · rw [if_neg e, if_neg (by omega)] at hR; exact hR
theorem Read_mark2 (h : St w X) {b : Bs} (hb : b.length ≤ 1000000000) {R : Int → ByteArray → Int → World → Prop}
   (hR : ∀ n s e w', (readPr b = none ∧ e ≠ 0) ∨ (∃ k, readPr b = some (k, s) ∧ n = (k : Int) ∧ e = 0) → St w' X → R n (tx s) e w') : F.mark_Read (tx b) w R :=
 Read_mark h hb (fun e w' h1 h2 h3 => by have := hR 0 [] e w' (.inl ⟨h1, h2⟩) h3; rw [← tx_nil] at this; exact this) fun k s w' h1 h2 => hR k s 0 w' (.inr ⟨k, h1, rfl, rfl⟩) h2
set_option maxHeartbeats 4000000 in
theorem Get_brick (h : St w (DeskS k g c D :: X)) (hH : Have D es) (he : e ∈ es) {R : Int → Int → Int → ByteArray → ByteArray → Int → World → Prop}
   (hB : ∀ w', ¬ BrOk e.x → St w' (DeskS k g c D :: X) → R 0 0 0 sNil sNil 25 w')
   (hR : ∀ w', BrOk e.x → St w' (DeskS k g c D :: X) → R e.x.gen e.x.refs (kindG e.x.gen : Int) (tx (sumK (kindG e.x.gen) (e.x.data.drop 33))) (tx (e.x.data.drop 33)) 0 w') : F.brick_Get (some (blk k)) e.x.at_ w R := by
 have hen := hH.ok e he
 have hgen := hen.gen
 have hlen := hen.len
 have hkk := kindG_ok hgen
 have hsz := tx_size e.x.data
 apply E.brick_Get
 unfold V.brick_Get
 try simp (config := { zeta := false }) only [cnd_all, Nat.reduceAdd]
 simp -zeta only [add_add, Nat.reduceAdd]
 intro wa1
 replace h : St wa1 (Cs _ _ _ :: _) := h.new _ _
 clear_value wa1
 generalize w.heap.size = q0 at *
 refine Get_E h.sw hH he fun w1 h1 => ?_
 intro wa2
 replace h1 : St wa2 (Cs _ _ _ :: _) := h1.new _ _
 clear_value wa2
 generalize w1.heap.size = q1 at *
 refine ⟨h1.wr0 (by simp), ?_⟩
 intro wa3
 replace h1 : St wa3 _ := h1.set0 _
 clear_value wa3
 refine ⟨h1.wr (by simp), ?_⟩
 intro wa4
 replace h1 : St wa4 _ := h1.set 1 _
 clear_value wa4
 refine ⟨h1.wr (by simp), ?_⟩
 intro wa5
 replace h1 : St wa5 _ := h1.set 2 _
 clear_value wa5
 refine ⟨h1.wr (by simp), ?_⟩
 intro wa6
 replace h1 : St wa6 _ := h1.set 3 _
 clear_value wa6
 simp only [List.set_cons_zero, List.set_cons_succ] at h1
 refine ⟨fun e => absurd rfl e, fun _ => ⟨_, h1.cell 3, ?_⟩⟩
 have e33 : w64 (((tx e.x.data).size : Int) - 33) = (e.x.data.length : Int) - 33 := by rw [hsz, w64_id (by omega) (by omega)]
 rw [e33]
 refine ⟨fun b w' => w' = wa6 ∧ (b = false ↔ e.x.tag = 1 ∧ 34 ≤ e.x.data.length ∧ e.x.data.length ≤ 161), ⟨_, h1.cell 1, fun e1 => ⟨rfl, ?_⟩, fun e1 => ⟨fun e2 => ⟨rfl, ?_⟩, fun e2 => ⟨rfl, ?_⟩⟩⟩, ?_⟩
 · exact ⟨fun h => (by cases h), fun h => absurd h.1 e1⟩
 · exact ⟨fun h => (by cases h), fun h => by omega⟩
 · rw [decide_eq_false_iff_not]
   constructor
   · intro h; exact ⟨e1, by omega, by omega⟩
   · rintro ⟨a1, a2, a3⟩; omega
 rintro b w2 ⟨rfl, hb⟩
 refine ⟨fun hbt => ?_, fun hbf => ?_⟩
 · have hno : ¬ BrOk e.x := fun ho => by
     have := hb.2 ⟨ho.1, ho.2.1, ho.2.2.1⟩
     rw [this] at hbt; cases hbt
   have h2 := h1.up2
   refine ⟨h2.wr0 (by simp), ?_⟩
   intro wa7
   replace h2 : St wa7 _ := h2.set0 _
   clear_value wa7
   refine ⟨h2.wr (by simp), ?_⟩
   intro wa8
   replace h2 : St wa8 _ := h2.set 1 _
   clear_value wa8
   refine ⟨h2.wr (by simp), ?_⟩
   intro wa9
   replace h2 : St wa9 _ := h2.set 2 _
   clear_value wa9
   refine ⟨h2.wr (by simp), ?_⟩
   intro wa10
   replace h2 : St wa10 _ := h2.set 3 _
   clear_value wa10
   refine ⟨h2.wr (by simp), ?_⟩
   intro wa11
   replace h2 : St wa11 _ := h2.set 4 _
   clear_value wa11
   simp only [List.set_cons_zero, List.set_cons_succ] at h2
   refine ⟨_, h2.cell0, _, h2.cell 1, _, h2.cell 2, _, h2.cell 3, _, h2.cell 4, ?_⟩
   exact hB _ hno h2.drop.drop
 obtain ⟨ht, hl1, hl2⟩ := hb.1 hbf
 intro wa12
 replace h1 : St wa12 _ := h1.drew
 clear_value wa12
 refine ⟨_, h1.cell0, _, h1.cell 2, _, h1.cell 3, by decide, by omega, ?_⟩
 intro wa13
 replace h1 : St wa13 (Cs _ _ _ :: _) := h1.new _ _
 clear_value wa13
 generalize wa12.heap.size = q2 at *
 refine ⟨h1.sw.cell 3, h1.sw.cell 2, h1.sw.cell0, ?_⟩
 have x2 : (tx e.x.data).extract (33 : Int).toNat (tx e.x.data).size = tx (e.x.data.drop 33) := by
   rw [tx_ext, tx_size]
   congr 1
   exact List.take_of_length_le (by rw [List.length_drop]; exact Nat.le_refl _)
 rw [x2]
 refine ⟨h1.wr0 (by simp), ?_⟩
 intro wa14
 replace h1 : St wa14 _ := h1.set0 _
 clear_value wa14
 refine ⟨h1.wr (by simp), ?_⟩
 intro wa15
 replace h1 : St wa15 _ := h1.set 1 _
 clear_value wa15
 refine ⟨h1.wr (by simp), ?_⟩
 intro wa16
 replace h1 : St wa16 _ := h1.set 2 _
 clear_value wa16
 refine ⟨h1.wr (by simp), ?_⟩
 intro wa17
 replace h1 : St wa17 _ := h1.set 3 _
 clear_value wa17
 refine ⟨h1.wr (by simp), ?_⟩
 intro wa18
 replace h1 : St wa18 _ := h1.set 4 _
 clear_value wa18
 simp only [List.set_cons_zero, List.set_cons_succ] at h1
 refine ⟨_, h1.sw.cell 3, by decide, by omega, ?_⟩
 have x1 : (tx e.x.data).extract 0 (33 : Int).toNat = tx (e.x.data.take 33) := tx_ext _ _ _
 rw [x1]
 refine Read_mark2 h1 (by rw [List.length_take]; omega) fun n s er w3 hrd h3 => ?_
 intro wa19
 replace h3 : St wa19 (Cs _ _ _ :: _) := h3.new _ _
 clear_value wa19
 generalize w3.heap.size = q3 at *
 refine ⟨h3.wr0 (by simp), ?_⟩
 intro wa20
 replace h3 : St wa20 _ := h3.set0 _
 clear_value wa20
 refine ⟨h3.wr (by simp), ?_⟩
 intro wa21
 replace h3 : St wa21 _ := h3.set 1 _
 clear_value wa21
 simp only [List.set_cons_zero, List.set_cons_succ] at h3
 intro wa22
 replace h3 : St wa22 _ := h3.drew
 clear_value wa22
 refine ⟨_, h3.up2.cell0, _, h3.sw.cell 4, fun w4 hB4 => Kind_st ?_⟩
 obtain ⟨k4, h4⟩ := (h3.fz.iv0 hB4).kp
 refine ⟨k4, h4.up2.cell 4, fun w5 gg hB5 hg5 hn5 ho5 w6 hB6 => ?_⟩
 have h6 := ((h4.iv hB5 hg5 hn5 ho5).iv0 hB6).sw
 refine Of_mark h6 hkk (l := [e.x.data.drop 33]) (fun w' hw => hw.lit (En := ET) (xs := [e.x.data.drop 33]) rfl rfl 1) (fun a ha => by injection ha with ha; subst ha; exact ⟨rfl, heap_lt h6.bl⟩) (Nat.le_refl _) (by simp) (by simp [joinB]; omega) fun w7 h7 => ?_
 have ej : joinB [e.x.data.drop 33] = e.x.data.drop 33 := by simp [joinB]
 rw [ej]
 obtain ⟨k7, h7⟩ := h7.drop.kp
 refine ⟨k7, h7.up2.cell 4, fun w8 g1 hB8 hg8 hn8 ho8 w9 hB9 => ?_⟩
 have h9 := ((h7.iv hB8 hg8 hn8 ho8).iv0 hB9).sw
 refine ⟨h9.wr0 (by simp), ?_⟩
 intro wa23
 replace h9 : St wa23 _ := h9.set0 _
 clear_value wa23
 refine ⟨h9.wr (by simp), ?_⟩
 intro wa24
 replace h9 : St wa24 _ := h9.set 1 _
 clear_value wa24
 simp only [List.set_cons_zero, List.set_cons_succ] at h9
 obtain ⟨k9, h9⟩ := h9.sw.kp
 refine ⟨k9, fun w10 hB10 => ?_⟩
 have h10 := (h9.iv0 hB10).drop
 generalize hsm : sumK (kindG e.x.gen) (e.x.data.drop 33) = sm at *
 have hsl : sm.length = szN (kindG e.x.gen) := by rw [← hsm]; exact sumK_len hkk _
 have hiff : (er = 0 ∧ n = (kindG e.x.gen : Int) ∧ s = sm) ↔ BrOk e.x := by
   unfold BrOk
   rw [hsm]
   constructor
   · rintro ⟨a1, a2, a3⟩
     rcases hrd with ⟨_, b2⟩ | ⟨kk, b1, b2, _⟩
     · exact absurd a1 b2
     · have : kk = kindG e.x.gen := by omega
       subst this
       rw [a3] at b1
       exact ⟨ht, hl1, hl2, (readPr_some.1 b1).2.2⟩
   · rintro ⟨_, _, _, a4⟩
     have hr := readPr_some.2 ⟨hkk, hsl, a4⟩
     rcases hrd with ⟨b1, _⟩ | ⟨kk, b1, b2, b3⟩
     · rw [b1] at hr; cases hr
     · rw [b1] at hr
       simp only [Option.some.injEq, Prod.mk.injEq] at hr
       exact ⟨b3, by omega, hr.2⟩
 refine ⟨fun b w' => w' = w10 ∧ (b = false ↔ BrOk e.x), ⟨fun en => ⟨rfl, ?_⟩, fun en => ⟨_, h10.sw.cell0, _, h10.sw.cell 1, _, h10.cell0, _, h10.cell 1, rfl, ?_⟩⟩, ?_⟩
 · exact ⟨fun h => (by cases h), fun h => absurd (hiff.2 h).1 en⟩
 · rw [← hiff, tx_eq]
   simp only [Bool.not_eq_false', Bool.and_eq_true, beq_iff_eq, Bool.and_true, decide_eq_true_iff]
   exact ⟨fun h => ⟨en, h.1, h.2⟩, fun h => ⟨h.2.1, h.2.2⟩⟩
 rintro b w11 ⟨rfl, hb2⟩
 refine ⟨fun hbt => ?_, fun hbf => ?_⟩
 · have hno : ¬ BrOk e.x := fun ho => by
     have := hb2.2 ho
     rw [this] at hbt; cases hbt
   have h2 := h10.up5
   refine ⟨h2.wr0 (by simp), ?_⟩
   intro wa25
   replace h2 : St wa25 _ := h2.set0 _
   clear_value wa25
   refine ⟨h2.wr (by simp), ?_⟩
   intro wa26
   replace h2 : St wa26 _ := h2.set 1 _
   clear_value wa26
   refine ⟨h2.wr (by simp), ?_⟩
   intro wa27
   replace h2 : St wa27 _ := h2.set 2 _
   clear_value wa27
   refine ⟨h2.wr (by simp), ?_⟩
   intro wa28
   replace h2 : St wa28 _ := h2.set 3 _
   clear_value wa28
   refine ⟨h2.wr (by simp), ?_⟩
   intro wa29
   replace h2 : St wa29 _ := h2.set 4 _
   clear_value wa29
   simp only [List.set_cons_zero, List.set_cons_succ] at h2
   refine ⟨_, h2.cell0, _, h2.cell 1, _, h2.cell 2, _, h2.cell 3, _, h2.cell 4, ?_⟩
   exact hB _ hno h2.drop.drop.drop.drop.drop
 · have hok := hb2.1 hbf
   obtain ⟨_, hn, hs⟩ := hiff.2 hok
   subst hs
   refine ⟨_, h10.sw.cell0, _, h10.sw.cell 1, ?_⟩
   have h2 := h10.up2
   refine ⟨h2.wr (by simp), ?_⟩
   intro wa30
   replace h2 : St wa30 _ := h2.set 2 _
   clear_value wa30
   refine ⟨h2.wr (by simp), ?_⟩
   intro wa31
   replace h2 : St wa31 _ := h2.set 3 _
   clear_value wa31
   refine ⟨_, h2.cell0, _, h2.cell 1, _, h2.cell 2, _, h2.cell 3, _, h2.cell 4, ?_⟩
   have h3 := h2.up5
   refine ⟨h3.wr0 (by simp), ?_⟩
   intro wa32
   replace h3 : St wa32 _ := h3.set0 _
   clear_value wa32
   refine ⟨h3.wr (by simp), ?_⟩
   intro wa33
   replace h3 : St wa33 _ := h3.set 1 _
   clear_value wa33
   refine ⟨h3.wr (by simp), ?_⟩
   intro wa34
   replace h3 : St wa34 _ := h3.set 2 _
   clear_value wa34
   refine ⟨h3.wr (by simp), ?_⟩
   intro wa35
   replace h3 : St wa35 _ := h3.set 3 _
   clear_value wa35
   refine ⟨h3.wr (by simp), ?_⟩
   intro wa36
   replace h3 : St wa36 _ := h3.set 4 _
   clear_value wa36
   simp only [List.set_cons_zero, List.set_cons_succ] at h3
   refine ⟨_, h3.cell0, _, h3.cell 1, _, h3.cell 2, _, h3.cell 3, _, h3.cell 4, ?_⟩
   rw [hn]
   exact hR _ hok h3.drop.drop.drop.drop.drop
theorem needN_one {n : Nat} (h : n ≤ 236) : needN n = 1 := by unfold needN; split <;> omega
set_option maxHeartbeats 1000000 in
theorem Put_brick (h : St w (DeskS k g c D :: X)) (hH : Have D es) {gen : Int} {sl : Sl} {l : List Bs} (hx : Has ET w sl l) (hsp : ∀ a, sl.a = some a → a.spot = none ∧ a.block < w.heap.size) (hc : sl.len ≤ sl.cap) (hn : l.length ≤ 1000000000) (hl : (joinB l).length ≤ 1000000000) (hcc : c ≤ 900000) {R : Int → Int → World → Prop}
   (hA : ∀ w', ¬ ((1 ≤ gen ∧ gen ≤ 3) ∧ 1 ≤ (joinB l).length ∧ (joinB l).length ≤ 128) → St w' (DeskS k g c D :: X) → R 0 1 w')
   (hF : ∀ w', freeN D.bs < 1 → St w' (DeskS k g (c + 40) D :: X) → R 0 20 w')
   (hR : ∀ w' D' e', (1 ≤ gen ∧ gen ≤ 3) → 1 ≤ (joinB l).length → (joinB l).length ≤ 128 → e'.x.gen = gen → e'.x.tag = 1 → e'.x.refs = 1 → e'.x.data = brB gen (joinB l) → BrOk e'.x → freeN D'.bs + 1 = freeN D.bs → Have D' (es ++ [e']) → St w' (DeskS k g (c + 40) D' :: X) → R e'.x.at_ 0 w') : F.brick_Put (some (blk k)) gen sl w R := by
 apply E.brick_Put
 unfold V.brick_Put
 try simp (config := { zeta := false }) only [cnd_all, Nat.reduceAdd]
 refine Join_st h hx hsp hc hn hl fun w1 h1 => Kind_st ?_
 generalize joinB l = s at *
 have hs := tx_size s
 intro wa1
 replace h1 : St wa1 (Cs _ _ _ :: _) := h1.new _ _
 clear_value wa1
 have ej : joinB [s] = s := by simp [joinB]
 by_cases hg : 1 ≤ gen ∧ gen ≤ 3
 · have hkk := kindG_ok hg
   refine Of_mark h1 hkk (l := [s]) (fun w' hw => hw.lit (En := ET) (xs := [s]) rfl rfl 1) (fun a ha => by injection ha with ha; subst ha; exact ⟨rfl, heap_lt h1.bl⟩) (Nat.le_refl _) (by simp) (by rw [ej]; exact hl) fun w2 h2 => ?_
   rw [ej]
   intro wa2
   replace h2 : St wa2 (Cs _ _ _ :: _) := h2.new _ _
   clear_value wa2
   refine ⟨h2.wr0 (by simp), ?_⟩
   intro wa3
   replace h2 : St wa3 _ := h2.set0 _
   clear_value wa3
   refine ⟨h2.wr (by simp), ?_⟩
   intro wa4
   replace h2 : St wa4 _ := h2.set 1 _
   clear_value wa4
   simp only [List.set_cons_zero, List.set_cons_succ] at h2
   refine ⟨fun b w' => w' = wa4 ∧ (b = false ↔ 1 ≤ s.length ∧ s.length ≤ 128), ⟨fun e => absurd rfl e, fun _ => ⟨fun e1 => ⟨rfl, ?_⟩, fun e1 => ⟨rfl, ?_⟩⟩⟩, ?_⟩
   · exact ⟨fun h => (by cases h), fun h => by omega⟩
   · rw [decide_eq_false_iff_not]; omega
   rintro b w3 ⟨rfl, hb⟩
   refine ⟨fun e => hA _ (fun hh => by rw [hb.2 hh.2] at e; cases e) h2.drop.drop, fun e => ⟨_, h2.cell0, _, h2.cell 1, ?_⟩⟩
   obtain ⟨l1, l2⟩ := hb.1 e
   obtain ⟨b1, b2, b3⟩ := brB_take hg s
   have hpl : (layPr (kindG gen) (sumK (kindG gen) s)).length = 33 := layPr_len (by rw [sumK_len hkk]; exact szN_le _)
   refine Lay_mark h2 hkk (sumK_len hkk s) fun w3 h3 => ⟨by rw [tx_size, tx_size]; omega, ?_⟩
   rw [tx_app]
   have e1 : layPr (kindG gen) (sumK (kindG gen) s) ++ s = brB gen s := rfl
   rw [e1]
   have hnd : needN (brB gen s).length = 1 := needN_one (by omega)
   refine Put_E h3.drop.drop hH hg (by decide) (by omega) hcc (fun w4 hlt h4 => hF w4 (by omega) h4) fun w4 D' e' hle x1 x2 x3 x4 hfr hH' h4 => hR w4 D' e' hg l1 l2 x1 x2 x3 x4 ?_ (by omega) hH' h4
   exact (BrOk.of (by rw [x1]; exact hg) x2 (by rw [x1]; exact x4) l1 l2).1
 · have e0 : ((kindG gen : Nat) : Int) = 0 := by
     unfold kindG
     rw [if_neg (by omega), if_neg (by omega)]; rfl
   rw [e0]
   refine Of_none h1 fun w2 h2 => ?_
   intro wa5
   replace h2 : St wa5 (Cs _ _ _ :: _) := h2.new _ _
   clear_value wa5
   refine ⟨h2.wr0 (by simp), ?_⟩
   intro wa6
   replace h2 : St wa6 _ := h2.set0 _
   clear_value wa6
   refine ⟨h2.wr (by simp), ?_⟩
   intro wa7
   replace h2 : St wa7 _ := h2.set 1 _
   clear_value wa7
   simp only [List.set_cons_zero, List.set_cons_succ] at h2
   refine ⟨fun b w' => w' = wa7 ∧ b = true, ⟨fun e => ⟨rfl, rfl⟩, fun e => absurd e (by decide)⟩, ?_⟩
   rintro b w3 ⟨rfl, rfl⟩
   exact ⟨fun e => hA _ (fun hh => hg hh.1) h2.drop.drop, fun e => (by cases e)⟩
theorem Use_brick {a b : List Ent} (h : St w (DeskS k g c D :: X)) (hH : Have D (a ++ e :: b)) (hc : c ≤ 1000000) {by_ : Int} {R : Int → Int → World → Prop}
   (hN : ∀ w', ¬ BrOk e.x → St w' (DeskS k g c D :: X) → R 0 25 w')
   (hB : ∀ w', BrOk e.x → (by_ < -e.x.refs ∨ 60000 - e.x.refs < by_) → St w' (DeskS k g c D :: X) → R 0 15 w')
   (hR : ∀ w' D', BrOk e.x → -e.x.refs ≤ by_ → by_ ≤ 60000 - e.x.refs → D'.bs = D.bs → Have D' (a ++ e.use (e.x.refs + by_) :: b) → St w' (DeskS k g (c + 1) D' :: X) → R (e.x.refs + by_) 0 w') : F.brick_Use (some (blk k)) e.x.at_ by_ w R := by
 apply E.brick_Use
 unfold V.brick_Use
 try simp (config := { zeta := false }) only [cnd_all, Nat.reduceAdd]
 refine Get_brick h hH (by simp) (fun w1 hno h1 => ?_) fun w1 hp h1 => ?_
 · intro wa1
   replace h1 : St wa1 (Cs _ _ _ :: _) := h1.new _ _
   clear_value wa1
   refine ⟨h1.wr0 (by simp), ?_⟩
   intro wa2
   replace h1 : St wa2 _ := h1.set0 _
   clear_value wa2
   refine ⟨h1.wr (by simp), ?_⟩
   intro wa3
   replace h1 : St wa3 _ := h1.set 1 _
   clear_value wa3
   refine ⟨h1.wr (by simp), ?_⟩
   intro wa4
   replace h1 : St wa4 _ := h1.set 2 _
   clear_value wa4
   refine ⟨h1.wr (by simp), ?_⟩
   intro wa5
   replace h1 : St wa5 _ := h1.set 3 _
   clear_value wa5
   refine ⟨h1.wr (by simp), ?_⟩
   intro wa6
   replace h1 : St wa6 _ := h1.set 4 _
   clear_value wa6
   simp only [List.set_cons_zero, List.set_cons_succ] at h1
   exact ⟨fun _ => hN _ hno h1.drop, fun h => absurd h (by decide)⟩
 · intro wa7
   replace h1 : St wa7 (Cs _ _ _ :: _) := h1.new _ _
   clear_value wa7
   refine ⟨h1.wr0 (by simp), ?_⟩
   intro wa8
   replace h1 : St wa8 _ := h1.set0 _
   clear_value wa8
   refine ⟨h1.wr (by simp), ?_⟩
   intro wa9
   replace h1 : St wa9 _ := h1.set 1 _
   clear_value wa9
   refine ⟨h1.wr (by simp), ?_⟩
   intro wa10
   replace h1 : St wa10 _ := h1.set 2 _
   clear_value wa10
   refine ⟨h1.wr (by simp), ?_⟩
   intro wa11
   replace h1 : St wa11 _ := h1.set 3 _
   clear_value wa11
   refine ⟨h1.wr (by simp), ?_⟩
   intro wa12
   replace h1 : St wa12 _ := h1.set 4 _
   clear_value wa12
   simp only [List.set_cons_zero, List.set_cons_succ] at h1
   exact ⟨fun h => absurd rfl h, fun _ => Refs_E h1.drop hH hc (fun w' hb h' => hB w' hp hb h') fun w' D' hlo hhi hbs hH' h' => hR w' D' hp hlo hhi hbs hH' h'⟩
theorem Drop_brick {a b : List Ent} (h : St w (DeskS k g c D :: X)) (hH : Have D (a ++ e :: b)) {R : Int → World → Prop}
   (hN : ∀ w', ¬ BrOk e.x → St w' (DeskS k g c D :: X) → R 25 w')
   (hR : ∀ w', BrOk e.x → Have (dropD D e.ps) (a ++ b) → St w' (DeskS k g c (dropD D e.ps) :: X) → R 0 w') : F.brick_Drop (some (blk k)) e.x.at_ w R := by
 apply E.brick_Drop
 unfold V.brick_Drop
 try simp (config := { zeta := false }) only [cnd_all, Nat.reduceAdd]
 refine Get_brick h hH (by simp) (fun w1 hno h1 => ?_) fun w1 hp h1 => ?_
 · intro wa1
   replace h1 : St wa1 (Cs _ _ _ :: _) := h1.new _ _
   clear_value wa1
   refine ⟨h1.wr0 (by simp), ?_⟩
   intro wa2
   replace h1 : St wa2 _ := h1.set0 _
   clear_value wa2
   refine ⟨h1.wr (by simp), ?_⟩
   intro wa3
   replace h1 : St wa3 _ := h1.set 1 _
   clear_value wa3
   refine ⟨h1.wr (by simp), ?_⟩
   intro wa4
   replace h1 : St wa4 _ := h1.set 2 _
   clear_value wa4
   refine ⟨h1.wr (by simp), ?_⟩
   intro wa5
   replace h1 : St wa5 _ := h1.set 3 _
   clear_value wa5
   refine ⟨h1.wr (by simp), ?_⟩
   intro wa6
   replace h1 : St wa6 _ := h1.set 4 _
   clear_value wa6
   simp only [List.set_cons_zero, List.set_cons_succ] at h1
   exact ⟨fun _ => hN _ hno h1.drop, fun h => absurd h (by decide)⟩
 · intro wa7
   replace h1 : St wa7 (Cs _ _ _ :: _) := h1.new _ _
   clear_value wa7
   refine ⟨h1.wr0 (by simp), ?_⟩
   intro wa8
   replace h1 : St wa8 _ := h1.set0 _
   clear_value wa8
   refine ⟨h1.wr (by simp), ?_⟩
   intro wa9
   replace h1 : St wa9 _ := h1.set 1 _
   clear_value wa9
   refine ⟨h1.wr (by simp), ?_⟩
   intro wa10
   replace h1 : St wa10 _ := h1.set 2 _
   clear_value wa10
   refine ⟨h1.wr (by simp), ?_⟩
   intro wa11
   replace h1 : St wa11 _ := h1.set 3 _
   clear_value wa11
   refine ⟨h1.wr (by simp), ?_⟩
   intro wa12
   replace h1 : St wa12 _ := h1.set 4 _
   clear_value wa12
   simp only [List.set_cons_zero, List.set_cons_succ] at h1
   exact ⟨fun h => absurd rfl h, fun _ => Drop_E h1.drop hH fun w' hH' h' => hR w' hp hH' h'⟩
set_option maxHeartbeats 1000000 in
theorem alive16_st (h : St w X) {R : Bool → World → Prop} (hR : ∀ w', St w' X → R true w') : F.masonrylaw16_alive w R := by
 apply E.masonrylaw16_alive
 unfold V.masonrylaw16_alive
 try simp (config := { zeta := false }) only [cnd_all, Nat.reduceAdd]
 simp -zeta only [add_add, Nat.reduceAdd]
 have hf : freeN (fmt0 150).bs = 37 := by rw [fmt0_bs, freeN_bs0 (by decide)]
 refine Fresh_st h (n := 150) (by decide) (by decide) fun k g w2 h2 => ⟨fun h => (by cases h), fun _ => ?_⟩
 have hH := Have.fmt (n := 150) (by decide) (by decide)
 intro wa1
 replace h2 : St wa1 (Cs _ _ _ :: _) := h2.new _ _
 clear_value wa1
 have ej : joinB [[97], [98, 99]] = ([97, 98, 99] : Bs) := rfl
 refine Put_brick h2.sw hH (gen := 1) (l := [[97], [98, 99]]) (h2.lit (En := ET) (xs := [[97], [98, 99]]) rfl rfl 2) (fun a ha => by injection ha with ha; subst ha; exact ⟨rfl, heap_lt h2.bl⟩) (Nat.le_refl _) (by decide) (by decide) (by decide) (fun w3 hno _ => absurd ⟨by decide, by decide, by decide⟩ hno) (fun w3 hlt _ => by omega) fun w3 D' e' _ _ _ x1 x2 x3 x4 hok hfr hH' h3 => ?_
 rw [ej] at x4
 have hdat : e'.x.data.drop 33 = [97, 98, 99] := by rw [x4]; exact (brB_take (by decide) _).2.2
 refine Get_brick h3 hH' (by simp) (fun w4 hno _ => absurd hok hno) fun w4 _ h4 => ?_
 rw [x1, hdat, x3]
 intro wa2
 replace h4 : St wa2 (Cs _ _ _ :: _) := h4.new _ _
 clear_value wa2
 refine ⟨h4.wr0 (by simp), ?_⟩
 intro wa3
 replace h4 : St wa3 _ := h4.set0 _
 clear_value wa3
 refine ⟨h4.wr (by simp), ?_⟩
 intro wa4
 replace h4 : St wa4 _ := h4.set 1 _
 clear_value wa4
 refine ⟨h4.wr (by simp), ?_⟩
 intro wa5
 replace h4 : St wa5 _ := h4.set 2 _
 clear_value wa5
 refine ⟨h4.wr (by simp), ?_⟩
 intro wa6
 replace h4 : St wa6 _ := h4.set 3 _
 clear_value wa6
 refine ⟨h4.wr (by simp), ?_⟩
 intro wa7
 replace h4 : St wa7 _ := h4.set 4 _
 clear_value wa7
 simp only [List.set_cons_zero, List.set_cons_succ] at h4
 intro wa8
 replace h4 : St wa8 _ := h4.drew
 clear_value wa8
 have ek : kindG 1 = 1 := rfl
 rw [ek] at h4
 refine ⟨fun _ => ⟨fun _ => ⟨_, h4.cell 4, fun _ => ⟨_, h4.cell 1, fun _ => ⟨_, h4.cell 2, _, h4.cell 3, ?_⟩, fun e => absurd rfl e⟩, fun e => absurd e (by decide)⟩, fun e => absurd rfl e⟩, fun e => absurd rfl e⟩
 refine RefPrint_st (kind := 1) h4 (.inl rfl) (s := [97, 98, 99]) (by decide) fun w5 h5 => ⟨h5.cell 2, h5.cell 3, h5.cell 1, h5.cell 4, ?_⟩
 refine ⟨fun _ => Kind_st ⟨h5.cell 2, h5.cell 3, h5.cell 1, h5.cell 4, ?_⟩, fun e => ?_⟩
 · exact hR _ h5.drop.drop.drop
 · rw [tx_eq, decide_eq_true rfl] at e
   cases e
end
end Go.Proofs.YtmokmbhhnbcelaaGreatDoor
