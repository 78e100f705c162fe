/- Trees: a part is read from its chain. -/
import Derived.Test.YtggachhkcmfijaaGreatDoorQd
set_option linter.unusedVariables false
namespace Go.Proofs.YtggachhkcmfijaaGreatDoor
open Go Go.Vc Go.RowKit Go.Lib Go.Maps
theorem elt_pt : Elt Pg T.y_sl_p_tree_node T.y_p_tree_node 1 8 := by
 have h : (Pg.info? T.y_p_tree_node).map (fun i => (i.zero, i.size, i.bytes)) = some (some (.pointer none), 1, 8) := by kernel_rfl
 obtain ⟨i, hi, h2⟩ := Option.map_eq_some_iff.1 h
 simp only [Prod.mk.injEq] at h2
 exact ⟨by kernel_rfl, ⟨i, _, hi, h2.1, h2.2.1, h2.2.2, rfl⟩, by decide⟩
abbrev tnN : TypeId := T.y_tree_node
abbrev tpN : TypeId := T.y_p_tree_node
abbrev tEy : TypeId := T.y_api_Entry
abbrev tTr : TypeId := T.y_tree_tree
section
variable {w : World} {X : List As}
set_option maxHeartbeats 8000000 in
theorem decode_gen {lf : Bool} {ls : List Ey} {ats : List Int} (h : St w X) (ho : ∀ x ∈ ls, okE x) (h1 : 1 ≤ ls.length) (h6 : ls.length ≤ 6) (hlen : lf = false → ats.length = ls.length) (hnil : lf = true → ats = []) (hat : ∀ a ∈ ats, 0 ≤ a ∧ a < 65536)
   {gen refs : Int} {R : Option Addr → Bool → World → Prop}
   (hR : ∀ w' g' l k gs, gs.length = ats.length → (lf = true → k = ⟨none, 0, 0⟩) → St w' (Cs g' (ndC 0 true lf false l k) tnN :: Row EE tEy l ls :: Row EPt tpN k gs :: UnS tnN gs ats :: X) → R (some (blk g')) true w') : F.tree_decode gen 4 refs (tx (encB lf ls ats)) w R := by
 apply E.tree_decode
 unfold V.tree_decode
 try simp -zeta only [ldC, soC, brC, bkA, slC, cnd_all, blk_add2, Nat.reduceAdd]
 have hbl := encB_len ho hlen
 have hrl := restB_len ho hlen
 refine St.al h fun wa1 q => ?_
 generalize w.heap.size = gc at *
 refine ⟨_, q.cell 3, InS.on q fun gi w1 q => ?_⟩
 have q : St w1 (InS gi (lfB lf :: UInt8.ofNat ls.length :: restB lf ls ats 0) 0 :: Cs gc [.int .i64 gen, .int .i64 4, .int .i64 refs, .string (tx (encB lf ls ats))] T.y_chain_Chain :: X) := by rw [restB_zero]; exact q
 refine InS.byte q (by have := hrl 0; simp only [List.length_cons]; omega) fun w2 q => ?_
 rw [lfB_byte] at q ⊢
 simp only at q ⊢
 have elf : ((bif lf then (1 : Int) else 0) == 1) = lf := by cases lf <;> rfl
 rw [elf]
 refine St.al q fun wa2 q => ?_
 generalize w2.heap.size = gn at *
 refine InS.byte q.sw (by have := hrl 0; simp only [List.length_cons]; omega) fun w4 q => ?_
 rw [len_byte (by omega)] at q ⊢
 simp only at q ⊢
 refine ⟨fun n w' => ∃ (m : Nat) (l k : Sl) (gs : List Nat), n = m ∧ m ≤ ls.length ∧ gs.length = (ats.take m).length ∧ (lf = true → k = ⟨none, 0, 0⟩) ∧ St w' (InS gi (restB lf ls ats m) 0 :: Cs gn (ndC 0 true lf false l k) tnN :: Row EE tEy l (ls.take m) :: Row EPt tpN k gs :: UnS tnN gs (ats.take m) :: Cs gc [.int .i64 gen, .int .i64 4, .int .i64 refs, .string (tx (encB lf ls ats))] T.y_chain_Chain :: X), fun n _ => ((ls.length : Int) - n).toNat, ⟨0, ⟨none, 0, 0⟩, ⟨none, 0, 0⟩, [], rfl, Nat.zero_le _, rfl, fun _ => rfl, ?_⟩, ?_⟩
 · have q1 := St.row0 (St.row0 (All.nil q) EPt tpN) EE tEy
   exact q1.up4.up4
 clear q
 rintro _ w5 ⟨m, l, k, gs, rfl, hm, hgs, hk, q⟩
 have hll := (St.has q.up2 (by decide)).1
 rw [List.length_take] at hll
 refine ⟨fun hlt => ?_, fun hge => ?_⟩
 · have hlt : m < ls.length := by omega
   have hms : ((ls.length : Int) - ((m + 1 : Nat) : Int)).toNat < ((ls.length : Int) - (m : Int)).toNat := by omega
   have hx := ho ls[m] (List.getElem_mem _)
   obtain ⟨r1, r2, r3⟩ := encE_read hx (tailB lf ats[m]? ++ restB lf ls ats (m + 1))
   have hrm := hrl m
   rw [restB_step hlt hlen] at q hrm
   refine InS.raw q (by omega) fun w6 q => ?_
   rw [r1] at q ⊢
   simp only at q ⊢
   have hrm2 : (leBytes 2 ls[m].a ++ (tailB lf ats[m]? ++ restB lf ls ats (m + 1))).length ≤ 1000000000 := by
     rw [List.length_append, leBytes_len]
     rw [List.length_append, encE_len hx] at hrm
     omega
   have hl33 := hx.layl
   refine Read_mark q (by omega) (fun e w' hno _ _ => by rw [r3] at hno; cases hno) fun kk ss w7 hk3 q => ?_
   rw [r3] at hk3
   injection hk3 with hk3
   obtain ⟨rfl, rfl⟩ := Prod.mk.inj hk3
   rw [hx.k0]
   refine St.al q fun wa3 q => ?_
   refine St.fill2 q fun wa5 q => ?_
   refine St.dr q fun wa6 q => ?_
   refine ⟨_, q.cell0, _, q.cell 1, fun w12 hB12 => ?_⟩
   have q := q.fz.iv0 hB12
   refine InS.half q.up2 hrm2 fun w13 q => ?_
   rw [r2] at q ⊢
   simp only at q ⊢
   obtain ⟨k13, q⟩ := St.kp q.sw
   refine ⟨k13, q.up2.cell0, q.up2.cell 1, fun w14 g6 hB14 hg14 hn14 ho14 w15 hB15 => ?_⟩
   have q := ((q.iv hB14 hg14 hn14 ho14).iv0 hB15).sw
   refine St.fill3 q fun wa9 q => ?_
   obtain ⟨k18, q⟩ := q.sw.kp
   refine ⟨k18, fun w19 hB19 => ?_⟩
   have q := (q.iv0 hB19).drop
   -- entry, in, print, node, ...
   refine ⟨fun b w' => b = false ∧ St w' _, ⟨fun e => absurd trivial e, fun _ => ⟨_, q.cell0, _, q.cell 1, _, q.cell 2, valid_st q fun w20 q => ⟨?_, q⟩⟩⟩, ?_⟩
   · rw [decide_eq_true hx]; rfl
   rintro b w21 ⟨rfl, q⟩
   refine ⟨fun h => (by cases h), fun _ => ?_⟩
   have q := q.d3
   refine St.dr q fun wa10 q => ?_
   -- entry, in, node, row l, row k, un, chain
   refine ⟨_, q.up2.cell 4, _, q.cell0, _, q.cell 1, _, q.cell 2, ?_⟩
   refine St.al q fun wa11 q => ?_
   refine ⟨q.up3.cell 4, ?_⟩
   refine app1_ey q.up4.sw (y := ls[m]) (by rw [List.length_take]; omega) fun l2 w24 q => ?_
   rw [← List.take_succ_eq_append_getElem hlt] at q
   -- row l, entry, in, node, row k, un, chain
   have q := q.d2.up2
   refine St.st q (by simp) fun w25 q => ?_
   -- node, row l, in, row k, un
   refine ⟨_, q.cell 2, fun hf => ?_, fun ht => ?_⟩
   · have hl1 := hlen hf
     have hma : m < ats.length := by omega
     refine St.dr q fun wa12 q => ?_
     refine ⟨_, q.cell 5, ?_⟩
     have etl : tailB lf ats[m]? = leBytes 2 ats[m] := by subst hf; rw [List.getElem?_eq_getElem hma]; rfl
     have hav := hat ats[m] (List.getElem_mem _)
     rw [etl] at q hrm2
     have q := q.up2
     refine InS.half q (by rw [List.length_append, leBytes_len] at hrm2; omega) fun w27 q => ?_
     have e2 : (256 : Int) ^ 2 = 65536 := by decide
     rw [lowIn_layI (by omega) (by omega) (by decide)] at q ⊢
     simp only at q ⊢
     refine ⟨q.sw.cell 5, ?_⟩
     refine St.al q fun wa13 q => ?_
     generalize w27.heap.size = gx at *
     refine ⟨q.up2.cell 5, ?_⟩
     refine St.al q fun wa14 q => ?_
     -- lit, child, in, node, row l, row k, un
     refine ⟨q.up3.cell 5, ?_⟩
     have hkl : gs.length ≤ 6 := by rw [hgs, List.length_take]; omega
     refine St.app elt_pt (En := EPt) (xs := gs) q.up5 (sl := ⟨some (blk _), 1, 1⟩) (ys := [gx]) (q.lit (En := EPt) (xs := [gx]) rfl rfl 1) rfl (by simp; omega) (by simp; omega) fun l3 w30 q _ => ?_
     -- row k, lit, child, in, node, row l, un
     have q := q.d2.up3
     refine St.st q (by simp) fun w31 q => ?_
     -- node, row k, child, in, row l, un, chain
     have q := (q.up5.up3)
     have q := UnS.snoc (by rw [hgs]) q
     rw [← List.take_succ_eq_append_getElem hma] at q
     -- un, node, row k, in, row l, chain
     rw [w64_succ (by omega)]
     refine ⟨⟨m + 1, l2, l3, gs ++ [gx], rfl, hlt, by rw [List.length_append, List.length_singleton, hgs, List.length_take, List.length_take]; omega, fun h => absurd (hf.symm.trans h) (by decide), ?_⟩, hms⟩
     exact q.up2.up4.up3.up4
   · have etl : tailB lf ats[m]? = [] := by subst ht; rfl
     rw [etl, List.nil_append] at q
     have hat0 := hnil ht
     rw [w64_succ (by omega)]
     refine ⟨⟨m + 1, l2, k, gs, rfl, hlt, by rw [hgs, hat0]; simp, hk, ?_⟩, hms⟩
     have e1 : ats.take (m + 1) = ats.take m := by rw [hat0]; simp
     rw [e1]
     exact q.up2
 · have hmm : m = ls.length := by omega
   subst hmm
   rw [restB_end hlen, List.take_length] at q
   have eat : ats.take ls.length = ats := by
     cases lf with
     | true => rw [hnil rfl]; simp
     | false => rw [List.take_of_length_le (by rw [hlen rfl]; exact Nat.le_refl _)]
   rw [eat] at q hgs
   have hll : l.len = ls.length := by omega
   refine St.dr q fun wa15 q => ?_
   refine ⟨_, q.up5.cell 1, fun _ => ⟨_, q.sw.cell 4, fun _ => ⟨_, q.sw.cell 4, fun _ => InS.left q ⟨q.sw.cell 4, q.sw.cell 4, q.up5.cell 1, fun _ => InS.fin q fun w34 q => ⟨q.sw.cell 4, q.sw.cell 4, q.up5.cell 1, fun _ => ⟨_, q.up5.cell 3, ?_⟩, fun h => absurd rfl h⟩, fun h => absurd rfl h⟩, fun h => by omega⟩, fun h => by omega⟩, fun h => absurd rfl h⟩
   refine encode_gen (ls := ls) (ats := ats) (l := l) (k := k) (lf := lf) q (fun w' hw => ⟨hw.sw.cell 2, hw.sw.cell 4, hw.sw.cell 5⟩) (fun w' hw => St.has hw.up2 (by decide)) ho (by omega) hlen hat (fun hf w' hw i hi => ?_) fun w35 q => ⟨q.up5.cell 3, q.sw.cell 4, q.sw.cell 4, q.up5.cell 1, ?_⟩
   · have hgi : i < gs.length := by omega
     obtain ⟨ad, ha, hb, c0⟩ := Has.pt (St.has hw.up3 (by decide)) hgi
     have hu := hw.up4
     unfold UnS at hu
     rw [zip_cut _ hgs hi] at hu
     exact ⟨ad, blk gs[i], ha, hb, c0, (All.split hu).cell0⟩
   · have e : sEq (tx (encB lf ls ats)) (tx (encB lf ls ats)) = true := by rw [tx_eq]; simp
     rw [e]
     refine hR w35 gn l k gs hgs hk ?_
     exact q.drop.up4.drop
end
end Go.Proofs.YtggachhkcmfijaaGreatDoor

/- Trees: a part is read when it is needed. -/
set_option linter.unusedVariables false
namespace Go.Proofs.YtggachhkcmfijaaGreatDoor
open Go Go.Vc Go.RowKit Go.Lib Go.Maps
abbrev trC (k : Nat) (gen : Int) (rt : Option Addr) (old : Sl) : List Value := [.pointer (some (blk k)), .int .i64 gen, .pointer rt, .slice old.a old.len old.cap]
theorem Dk.rng {D : DkV} {es : List Ent} (hH : Have D es) {gen : Int} : ∀ {d : Nat} {A : Nd d}, Dk es gen d A → A.wr = false → 2 ≤ A.at_ ∧ A.at_ < 2000
 | 0, A, h, hw => by
   obtain ⟨e, he, h1, _⟩ := h hw
   have := hH.at_ he
   omega
 | d + 1, A, h, hw => by
   obtain ⟨⟨e, he, h1, _⟩, _⟩ := h.1 hw
   have := hH.at_ he
   omega
section
variable {w : World} {X : List As} {t k g gk cd : Nat} {D : DkV} {es : List Ent} {tg gen : Int} {rt : Option Addr} {osl : Sl}
set_option maxHeartbeats 4000000 in
theorem load_mid {lf : Bool} {ls : List Ey} {ats : List Int} {a : Int} (h : St w (Cs g (ndC a false false false ⟨none, 0, 0⟩ ⟨none, 0, 0⟩) tnN :: Cs t (trC k gen rt osl) tTr :: DeskS k gk cd D :: X)) (hH : Have D es) (hC : Ch es tg a 4 (encB lf ls ats))
   (ho : ∀ x ∈ ls, okE x) (h1 : 1 ≤ ls.length) (h6 : ls.length ≤ 6) (hlen : lf = false → ats.length = ls.length) (hnil : lf = true → ats = []) (hat : ∀ a ∈ ats, 0 ≤ a ∧ a < 65536) {depth : Int} (hdp : depth ≤ 10) {R : Int → World → Prop}
   (hR : ∀ w' l kk gs, gs.length = ats.length → (lf = true → kk = ⟨none, 0, 0⟩) → St w' (Cs g (ndC a true lf false l kk) tnN :: Row EE tEy l ls :: Row EPt tpN kk gs :: UnS tnN gs ats :: Cs t (trC k gen rt osl) tTr :: DeskS k gk cd D :: X) → R 0 w') : F.tree_tree_load (some (blk t)) (some (blk g)) depth w R := by
 apply E.tree_tree_load
 unfold V.tree_tree_load
 try simp -zeta only [ldC, soC, brC, bkA, slC, cnd_all, blk_add2, Nat.reduceAdd]
 refine ⟨fun hbig => absurd hbig (by omega), fun _ => ⟨_, h.cell 1, fun hf => (by cases hf), fun _ => ?_⟩⟩
 have q := h
 refine St.dr q fun wa1 q => ?_
 refine ⟨_, q.sw.cell0, _, q.cell0, fun w1 hB1 => ?_⟩
 have q := q.fz.iv0 hB1
 obtain ⟨en, hen, e1, e2, e3, e4⟩ := hC
 rw [← e1]
 refine Get_E q.up3 hH hen fun w2 q => ?_
 obtain ⟨k2, q⟩ := St.kp q.sw
 refine ⟨k2, fun w3 g5 hB3 hg3 hn3 ho3 w4 hB4 => ?_⟩
 have q := ((q.iv hB3 hg3 hn3 ho3).iv0 hB4).sw
 refine St.fill4 q fun wa5 q => ?_
 obtain ⟨k4, q⟩ := q.sw.kp
 refine ⟨k4, fun w9 hB9 => ⟨fun h => absurd rfl h, fun _ => ?_⟩⟩
 have q := (q.iv0 hB9).drop
 rw [e3, e4] at q
 refine ⟨_, q.cell0, _, q.cell 1, _, q.cell 2, _, q.cell 3, ?_⟩
 refine decode_gen q ho h1 h6 hlen hnil hat fun w10 g' l kk gs hgs hkn q => ⟨fun h => (by cases h), fun _ => ?_⟩
 refine St.dr q fun wa6 q => ?_
 refine ⟨_, rfl, _, q.cell 2, _, rfl, _, q.cell 4, _, rfl, _, q.cell 5, ?_⟩
 -- node', row l, row k, un, chain, desk, node, tree
 have q := q.up6
 refine St.st q (by simp) fun wa7 q => ?_
 refine St.st q (by simp) fun wa8 q => ?_
 refine St.st q (by simp) fun wa9 q => ?_
 refine St.st q (by simp) fun wa10 q => ?_
 -- node, node', row l, row k, un, chain, desk, tree
 have q := q.d2
 have q := q.up4.drop
 -- node, row l, row k, un, desk, tree
 exact hR _ l kk gs hgs hkn (q.up4.up5.up5.up5.up5.up5)
theorem load_st {d : Nat} {A : Nd d} (h : St w (NodeS tnN tpN d g A :: Cs t (trC k gen rt osl) tTr :: DeskS k gk cd D :: X)) (hH : Have D es) (hD : Dk es tg d A) (hB : Bd d A) (h0 : 1 ≤ A.l.length) (h6 : A.l.length ≤ 6) {depth : Int} (hdp : depth ≤ 10) {R : Int → World → Prop}
   (hR : ∀ w', St w' (NodeR tnN tpN d g A :: Cs t (trC k gen rt osl) tTr :: DeskS k gk cd D :: X) → R 0 w') : F.tree_tree_load (some (blk t)) (some (blk g)) depth w R := by
 rcases NodeS.or h with q | q
 · obtain ⟨l, k', s⟩ := NodeR.see q
   apply E.tree_tree_load
   unfold V.tree_tree_load
   try simp -zeta only [ldC, soC, brC, bkA, slC, cnd_all, blk_add2, Nat.reduceAdd]
   exact ⟨fun hbig => absurd hbig (by omega), fun _ => ⟨_, s.c1, fun _ => hR w q, fun hf => (by cases hf)⟩⟩
 · obtain ⟨hw, q⟩ := q.wh
   cases d with
   | zero =>
     refine load_mid (lf := true) (ls := A.l) (ats := []) q hH (hD hw) hB.2 h0 h6 (fun h => (by cases h)) (fun _ => rfl) (fun a h => (by cases h)) hdp fun w' l kk gs hgs hkn q => ?_
     have hkn := hkn rfl
     subst hkn
     refine hR w' (NodeR.ofLeaf (l := l) ?_)
     rw [hw]
     exact q.d3.d3
   | succ d =>
     obtain ⟨hc, hkw⟩ := hD.1 hw
     have hll : A.l.length = (kidsOf A).length := by rw [hB.1, keyL_len]
     refine load_mid (lf := false) (ls := A.l) (ats := (kidsOf A).map (·.at_)) q hH hc hB.okl h0 h6 (fun _ => by rw [List.length_map, hll]) (fun h => (by cases h)) (fun a ha => ?_) hdp fun w' l kk gs hgs hkn q => ?_
     · obtain ⟨c, hcm, rfl⟩ := List.mem_map.1 ha
       have := Dk.rng hH (hD.2 c hcm) (hkw c hcm)
       omega
     · have hgl : gs.length = (kidsOf A).length := by rw [hgs, List.length_map]
       refine hR w' (NodeR.ofKids (l := l) (k := kk) (gs := gs) hgl ?_)
       rw [hw]
       have q2 : St w' (UnS tnN gs ((kidsOf A).map (·.at_)) :: _) := q.up3
       exact (UnS.kids hgl hkw q2).dn3
end
end Go.Proofs.YtggachhkcmfijaaGreatDoor

/- One element of a row is written. -/
set_option linter.unusedVariables false
namespace Go.Proofs.YtggachhkcmfijaaGreatDoor
open Go Go.Vc Go.RowKit Go.Lib
section
variable {α : Type} {En : Enc α} {t : TypeId} {w : World} {X : List As}
theorem Enc.cons (En : Enc α) (x : α) (r : List α) : En.all (x :: r) = En.cells x ++ En.all r := by simp [Enc.all]
theorem Enc.all_set (En : Enc α) : ∀ (xs : List α) (k : Nat) (hk : k < xs.length) (y : α) (j : Nat) (v : Value), j < En.n → En.cells y = (En.cells xs[k]).set j v → (En.all xs).set (k * En.n + j) v = En.all (xs.set k y)
 | [], k, hk, y, j, v, _, _ => by simp at hk
 | x :: r, 0, hk, y, j, v, hj, hc => by
   rw [List.set_cons_zero, Enc.cons En, Enc.cons En, hc]
   simp only [Nat.zero_mul, Nat.zero_add, List.getElem_cons_zero]
   exact List.set_append_left _ _ (by rw [En.len]; exact hj)
 | x :: r, k + 1, hk, y, j, v, hj, hc => by
   have ih := Enc.all_set En r k (by simpa using hk) y j v hj (by simpa using hc)
   rw [List.set_cons_succ, Enc.cons En, Enc.cons En, ← ih, show (k + 1) * En.n + j = (En.cells x).length + (k * En.n + j) by rw [En.len, Nat.add_mul]; omega]
   rw [List.set_append_right _ _ (by omega), Nat.add_sub_cancel_left]
theorem Row.setJ {l : Sl} {xs : List α} (h : St w (Row En t l xs :: X)) {k : Nat} (hk : k < xs.length) {a : Addr} (ha : l.a = some a) (y : α) (j : Nat) (v : Value) (hj : j < En.n) (hc : En.cells y = (En.cells xs[k]).set j v) :
   Wr w ((a.add (k * En.n)).add j) ∧ St (w.setCell ((a.add (k * En.n)).add j) v) (Row En t l (xs.set k y) :: X) := by
 obtain ⟨S, ⟨hO, e⟩, hlt, hX⟩ := h.out
 subst e
 have hl := En.all_len xs
 have e1 : (a.add (k * En.n)).add j = a.add (k * En.n + j) := Vc.addr_add _ _ _
 rw [e1]
 have hlt2 : k * En.n + j < (En.all xs).length := by
   rw [hl]
   have : (k + 1) * En.n ≤ xs.length * En.n := Nat.mul_le_mul_right _ hk
   rw [Nat.add_mul] at this; omega
 obtain ⟨q1, q2, q3⟩ := Own.setN (by omega : 0 < En.n) hO (k := k * En.n + j) hlt2 v ha
 refine ⟨q1, hX ⟨?_, rfl⟩ q3 (fun j hj => .inl hj)⟩
 rw [Enc.all_set En xs k hk y j v hj hc] at q2; exact q2
theorem Row.stJ {l : Sl} {xs : List α} (h : St w (Row En t l xs :: X)) {k : Nat} (hk : k < xs.length) {a : Addr} (ha : l.a = some a) (y : α) (j : Nat) {v : Value} (hj : j < En.n) (hc : En.cells y = (En.cells xs[k]).set j v) {P : World → Prop}
   (hP : ∀ w', St w' (Row En t l (xs.set k y) :: X) → P w') : stC w ((a.add (k * En.n)).add j) v P := ⟨(Row.setJ h hk ha y j v hj hc).1, hP _ (Row.setJ h hk ha y j v hj hc).2⟩
theorem Row.stJ0 {l : Sl} {xs : List α} (h : St w (Row En t l xs :: X)) {k : Nat} (hk : k < xs.length) {a : Addr} (ha : l.a = some a) (y : α) {v : Value} (hj : 0 < En.n) (hc : En.cells y = (En.cells xs[k]).set 0 v) {P : World → Prop}
   (hP : ∀ w', St w' (Row En t l (xs.set k y) :: X) → P w') : stC w (a.add (k * En.n)) v P := by
 have := Row.stJ h hk ha y 0 hj hc hP
 rwa [Vc.addr_add0] at this
theorem Row.stE3 {l : Sl} {xs : List Ey} (h : St w (Row EE t l xs :: X)) {k : Nat} (hk : k < xs.length) {a : Addr} (ha : l.a = some a) (x : Ey) {P : World → Prop}
   (hP : ∀ w', St w' (Row EE t l (xs.set k x) :: X) → P w') : stC w (a.add (k * 3)) (.int .i64 x.k) fun w1 => stC w1 ((a.add (k * 3)).add 1) (.string (tx x.s)) fun w2 => stC w2 ((a.add (k * 3)).add 2) (.int .i64 x.a) P := by
 refine Row.stJ0 h hk ha ⟨x.k, xs[k].s, xs[k].a⟩ (by decide) rfl fun w1 h1 => ?_
 refine Row.stJ h1 (by rw [List.length_set]; exact hk) ha ⟨x.k, x.s, xs[k].a⟩ 1 (by decide) (by rw [List.getElem_set_self]; rfl) fun w2 h2 => ?_
 refine Row.stJ h2 (by rw [List.length_set, List.length_set]; exact hk) ha x 2 (by decide) (by rw [List.getElem_set_self]; rfl) fun w3 h3 => ?_
 rw [List.set_set, List.set_set] at h3
 exact hP _ h3
end
end Go.Proofs.YtggachhkcmfijaaGreatDoor
