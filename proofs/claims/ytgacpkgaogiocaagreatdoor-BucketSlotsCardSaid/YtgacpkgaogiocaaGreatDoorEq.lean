/- a table of buckets: an entry is added, dropped. -/
import Derived.Test.YtgacpkgaogiocaaGreatDoorEl
set_option linter.unusedVariables false
namespace Go.Proofs.YtgacpkgaogiocaaGreatDoor
open Go Go.Vc Go.RowKit Go.Lib Go.Maps
/-- a table in memory has these entries -/
structure MemT (D : DkV) (es : List Ent) (gen : Int) (U : Tb) (L : List Ey) (M : Nat) : Prop where
 hv : Have D es
 good : GoodE L
 cov : Cov es (U.root :: U.ps)
 len : ∀ e ∈ es, e.x.data.length ≤ 35 * M
 gens : ∀ e ∈ es, e.x.gen = gen
 ugen : U.gen = gen
 many : U.many = L.length
 le : L.length ≤ M
 plen : U.ps.length = bktN L.length
 bk : MemB es gen U.ps (Go.Proofs.YtgacpkgaogiocaaGreatDoor.bk L U.ps.length) U.kn U.wr
theorem bktN_pos {n : Nat} (h : n ≠ 0) : bktN n ≠ 0 := by unfold bktN; rw [if_neg h]; omega
section
variable {w : World} {X : List As} {t k g c cd : Nat} {U : Tb} {D : DkV} {es : List Ent} {gen : Int} {L : List Ey} {M : Nat}
theorem many_put {n : Nat} {e : Int} (he : e = (n : Int)) (hl : n ≤ 1000) (h : St w (TabS t k c U :: X)) {P : World → Prop} (hP : ∀ w', St w' (TabS t k c { U with many := n } :: X) → P w') : stC w ((blk t).add 3) (.int .i64 e) P := by
 obtain ⟨hr, q⟩ := TabS.parts h
 refine St.st q (by simp) fun w' q => hP w' ?_
 subst he
 exact TabS.join (U := { U with many := n }) ⟨hr.1, hl, hr.2.2⟩ q
theorem TabS.cell (h : St w (TabS t k c U :: X)) : w.cell? (blk t) = some (.pointer (some (blk k))) ∧ w.cell? ((blk t).add 1) = some (.int .i64 U.gen) ∧ w.cell? ((blk t).add 2) = some (.int .i64 U.root) ∧ w.cell? ((blk t).add 3) = some (.int .i64 (U.many : Int)) ∧ w.cell? ((blk t).add 4) = some (.slice U.p.pl.a U.p.pl.len U.p.pl.cap) ∧ U.p.pl.len = U.ps.length ∧ Has EI w U.p.pl U.ps := by
 obtain ⟨hr, q⟩ := TabS.parts h
 have hh := St.has q.sw (by decide)
 exact ⟨q.cell0, q.cell 1, q.cell 2, q.cell 3, q.cell 4, hh.1, hh⟩
theorem bk_slot {x : Ey} {nb : Nat} : x ∈ Go.Proofs.YtgacpkgaogiocaaGreatDoor.bk L nb (slotN (hashE x) nb) ↔ x ∈ L := by rw [bk_mem]; exact ⟨fun h => h.1, fun h => ⟨h, rfl⟩⟩
set_option maxHeartbeats 4000000 in
theorem add_st {x : Ey} (h : St w (TabS t k c U :: DeskS k g cd D :: X)) (hT : MemT D es gen U L M) (hM : L.length + 1 ≤ M ∧ M ≤ 269) (hc : c ≤ 700000) {R : Int → World → Prop}
   (hB : ∀ e w', addS (L, 0) x = (L, e) → e ≠ 0 → St w' (DeskS k g cd D :: X) → R e w')
   (hR : ∀ w' U', addS (L, 0) x = (insE L x, 0) → MemT D es gen U' (insE L x) M → U'.root = U.root → St w' (TabS t k (c + 10) U' :: DeskS k g cd D :: X) → R 0 w') : F.bucket_table_add (some (blk t)) x.k (tx x.s) x.a w R := by
 apply E.bucket_table_add
 unfold V.bucket_table_add
 try simp -zeta only [ldC, soC, brC, bkA, slC, cnd_all, blk_add2, Nat.reduceAdd]
 have hbl := bktN_le L.length
 have hpn := hT.plen
 have hmn := hT.many
 have hok : ∀ nb i, ∀ x ∈ Go.Proofs.YtgacpkgaogiocaaGreatDoor.bk L nb i, okE x := fun nb i x hx => hT.good.2 x (bk_sub x hx)
 have hbl2 : ∀ nb i, (Go.Proofs.YtgacpkgaogiocaaGreatDoor.bk L nb i).length ≤ 269 := fun nb i => Nat.le_trans (bk_len L _ _) (by omega)
 refine St.al h fun wa1 h => ?_
 generalize w.heap.size = g0 at *
 refine ⟨_, h.cell0, _, h.cell 1, _, h.cell 2, valid_st h fun w1 q => ⟨fun hbad => ?_, fun hgood => ?_⟩⟩
 · have hbad : ¬ okE x := by simpa using hbad
   refine hB 1 w1 ?_ (by decide) q.drop.drop
   unfold addS
   rw [if_neg (by simp), if_pos hbad]
 have hxo : okE x := by simpa using hgood
 have hxh := hxo.hash
 refine ⟨fun w' => x ∉ L ∧ ∃ kn' rows', MemB es gen U.ps (Go.Proofs.YtgacpkgaogiocaaGreatDoor.bk L U.ps.length) kn' U.wr ∧ St w' (Cs g0 [.int .i64 x.k, .string (tx x.s), .int .i64 x.a] T.y_api_Entry :: TabS t k (c + 1) { U with kn := kn', rows := rows' } :: DeskS k g cd D :: X), ?_, ?_⟩
 · obtain ⟨a0, a1, a2, a3, a4, a5, a6⟩ := TabS.cell q.drop
   refine ⟨_, a3, fun hpos => ?_, fun hno => ⟨?_, U.kn, U.rows, hT.bk, (TabS.mono q.sw (Nat.le_succ c)).sw⟩⟩
   · have hL0 : L.length ≠ 0 := by omega
     have hnb := bktN_pos hL0
     refine St.dr q fun wa2 q => ?_
     obtain ⟨a0, a1, a2, a3, a4, a5, a6⟩ := TabS.cell q.drop
     refine ⟨_, q.cell0, _, q.cell 1, U.p.pl, a4, Hash_any q hxh fun w3 q => ⟨(TabS.cell q.drop).2.2.2.2.1, ?_⟩⟩
     rw [a5]
     refine Slot_any (by omega) ⟨?_, ?_⟩
     · rw [← a5]; exact (TabS.cell q.drop).2.2.2.2.1
     have hsl : slotN (hashE x) U.ps.length < U.ps.length := slotN_lt (by omega)
     refine bucket_st q.up2.up2 hT.hv hT.bk hsl (hok _ _) (hbl2 _ _) (by omega) fun w5 kn5 rows5 l1 M5 hin _ q => ⟨?_, fun h => absurd rfl h, fun _ => ?_⟩
     · rw [← a5]; exact (TabS.cell q).2.2.2.2.1
     refine ⟨_, q.up2.cell0, _, q.up2.cell 1, _, q.up2.cell 2, Contains_ey q (fun w' hw => (TabS.has hw hin).1) (by have := hbl2 U.ps.length (slotN (hashE x) U.ps.length); omega) fun w6 q => ⟨fun hb => ?_, fun hb => ⟨?_, kn5, rows5, M5, q.up2⟩⟩⟩
     · have hxm : x ∈ L := bk_slot.1 (of_decide_eq_true hb)
       refine hB 9 w6 ?_ (by decide) q.drop.d2
       unfold addS
       rw [if_neg (by simp), if_neg (fun h => h hxo), if_pos hxm]
     · exact fun hm => (of_decide_eq_false hb) (bk_slot.2 hm)
   · have : L = [] := List.eq_nil_of_length_eq_zero (by omega)
     rw [this]; simp
 rintro w7 ⟨hxn, kn7, rows7, M7, q⟩
 have c3 := fun {w' : World} {c' : Nat} {U' : Tb} {Y : List As} (q : St w' (TabS t k c' U' :: Y)) => (TabS.cell q).2.2.2.1
 have c4 := fun {w' : World} {c' : Nat} {U' : Tb} {Y : List As} (q : St w' (TabS t k c' U' :: Y)) => (TabS.cell q).2.2.2.2.1
 refine ⟨_, c3 q.sw, fun hbig => ?_, fun _ => ⟨_, c3 q.sw, ?_⟩⟩
 · have hbig : ((U.many : Nat) : Int) ≥ 1500 := hbig
   omega
 have hins : (insE L x).length = L.length + 1 := insE_len L x
 refine many_put (n := L.length + 1) (by show w64 ((U.many : Int) + 1) = _; rw [w64_id (by omega) (by omega)]; omega) (by omega) q.sw fun w8 q => ?_
 refine ⟨fun w' => ∃ kn' wr' rows' p' ps', ps'.length = bktN (L.length + 1) ∧ Cov es (U.root :: ps') ∧ MemB es gen ps' (Go.Proofs.YtgacpkgaogiocaaGreatDoor.bk L ps'.length) kn' wr' ∧ St w' (TabS t k (c + 6) { U with many := L.length + 1, ps := ps', kn := kn', wr := wr', rows := rows', p := p' } :: Cs g0 [.int .i64 x.k, .string (tx x.s), .int .i64 x.a] T.y_api_Entry :: DeskS k g cd D :: X), ?_, ?_⟩
 · refine St.dr q fun wa3 q => ?_
   have hs := bktN_succ L.length
   refine ⟨_, c3 q, _, c4 q, buckets_any (n := L.length + 1) (by omega) ⟨c4 q, fun hgt => ?_, fun hle => ?_⟩⟩
   · have hgt : (bktN (L.length + 1) : Int) > (U.p.pl.len : Nat) := hgt
     have hpl := (TabS.cell q).2.2.2.2.2.1
     have hpl : U.p.pl.len = U.ps.length := hpl
     refine grow_st q.up2.sw hT.hv hT.good (by omega) M7 (fun h0 => ?_) (by show U.ps.length ≤ 900; omega) (by omega) fun w11 kn' wr' rows' p' M11 q => ⟨fun h => absurd rfl h, fun _ => ⟨kn', wr', rows', p', U.ps ++ [0], ?_, ?_, ?_, TabS.mono (q.up2.sw) (by omega)⟩⟩
     · have h0 : U.ps.length = 0 := h0
       refine List.eq_nil_of_length_eq_zero (Decidable.byContradiction fun hne => ?_)
       have := bktN_pos hne
       omega
     · rw [List.length_append, List.length_singleton]; omega
     · have := hT.cov
       unfold Cov at this ⊢
       rw [← List.cons_append, nz_zero]; exact this
     · rw [List.length_append, List.length_singleton]; exact M11
   · have hle : ¬ (bktN (L.length + 1) : Int) > (U.p.pl.len : Nat) := hle
     have hpl := (TabS.cell q).2.2.2.2.2.1
     have hpl : U.p.pl.len = U.ps.length := hpl
     exact ⟨_, _, _, _, U.ps, by omega, hT.cov, M7, TabS.mono q (by omega)⟩
 rintro w12 ⟨kn, wr, rows, p', ps', hpl, hcov, M12, q⟩
 refine St.dr q fun wa4 q => ?_
 have hnb : bktN (L.length + 1) ≠ 0 := bktN_pos (by omega)
 have hbs := bktN_succ L.length
 have hsl : slotN (hashE x) ps'.length < ps'.length := slotN_lt (by omega)
 have hp : p'.pl.len = ps'.length := (TabS.cell q).2.2.2.2.2.1
 refine ⟨_, q.sw.cell0, _, q.sw.cell 1, _, c4 q, Hash_any q hxh fun w14 q => ⟨c4 q, ?_⟩⟩
 have hp2 : ({ U with many := L.length + 1, ps := ps', kn := kn, wr := wr, rows := rows, p := p' } : Tb).p.pl.len = ps'.length := hp
 rw [hp2]
 refine Slot_any (by omega) ⟨?_, ?_⟩
 · rw [← hp2]; exact c4 q
 refine bucket_st q.up2.sw hT.hv M12 hsl (hok _ _) (hbl2 _ _) (by omega) fun w16 kn16 rows16 l4 M16 hin _ q => ⟨fun h => absurd rfl h, fun _ => ?_⟩
 refine ⟨_, q.up2.cell0, _, q.up2.cell 1, _, q.up2.cell 2, Search_ey q (fun w' hw => (TabS.has hw hin).1) (bk_srt hT.good.1 _ _) (by have := hbl2 ps'.length (slotN (hashE x) ps'.length); omega) fun b2 w17 q => ?_⟩
 have q := q.up2
 refine St.dr q fun wa5 q => ?_
 -- entry, table, desk
 refine ⟨_, q.cell0, _, q.cell 1, _, q.cell 2, fun w19 hB19 => ?_⟩
 have q := q.fz.iv0 hB19
 have hbn := hbl2 ps'.length (slotN (hashE x) ps'.length)
 have hcl := cntE_le (Go.Proofs.YtgacpkgaogiocaaGreatDoor.bk L ps'.length (slotN (hashE x) ps'.length)) x
 refine Clone_ey q (fun w' hw => (TabS.has hw.drop.drop hin).1) (TabS.has q.drop.drop hin).2 (by omega) fun l5 w20 q => ?_
 obtain ⟨k20, q⟩ := q.sw.kp
 refine ⟨k20, q.up2.cell0, q.up2.cell 1, q.up2.cell 2, fun w21 g1 hB21 hg1 hn1 ho1 w22 hB22 => ?_⟩
 have q := ((q.iv hB21 hg1 hn1 ho1).iv0 hB22).dn2
 refine Insert_st (x := x) q (by omega) hcl fun l6 w23 q => ?_
 obtain ⟨k23, q⟩ := q.sw.kp
 refine ⟨k23, q.up2.cell0, q.up2.cell 1, q.up2.cell 2, fun w24 hB24 => ?_⟩
 have q := (q.iv0 hB24).sw.up3
 refine set_st q (by omega) (by omega) fun w25 q => ?_
 obtain ⟨k25, q⟩ := q.sw.kp
 refine ⟨k25, q.up2.cell0, q.up2.cell 1, q.up2.cell 2, fun w26 hB26 => ?_⟩
 have q := (q.iv0 hB26).drop.d2
 have hadd : addS (L, 0) x = (insE L x, 0) := by
   unfold addS
   rw [if_neg (by simp), if_neg (fun h => h hxo), if_neg hxn, if_neg (by show ¬ 1500 ≤ L.length; omega)]
 refine hR w26 { U with many := L.length + 1, ps := ps', kn := _, wr := _, rows := _, p := p' } hadd ⟨hT.hv, hT.good.ins hxo hxn, hcov, hT.len, hT.gens, hT.ugen, by show L.length + 1 = _; rw [hins], by omega, by show ps'.length = _; rw [hins]; exact hpl, ?_⟩ rfl (TabS.mono q (by omega))
 refine (MemB.set M16 (n := slotN (hashE x) ps'.length) (sl := l6) (l := _)).to fun i hi => ?_
 rw [bk_ins hT.good.1 hxn]
 by_cases c1 : i = slotN (hashE x) ps'.length
 · rw [if_pos c1, if_pos c1.symm, c1]
   unfold insE
   simp
 · rw [if_neg c1, if_neg (fun h => c1 h.symm)]
end
end Go.Proofs.YtgacpkgaogiocaaGreatDoor

/- a table of buckets: an entry is dropped. -/
set_option linter.unusedVariables false
namespace Go.Proofs.YtgacpkgaogiocaaGreatDoor
open Go Go.Vc Go.RowKit Go.Lib Go.Maps
section
variable {w : World} {X : List As} {t k g c cd : Nat} {U : Tb} {D : DkV} {es : List Ent} {gen : Int} {L : List Ey} {M : Nat}
end
end Go.Proofs.YtgacpkgaogiocaaGreatDoor

/- a table of buckets: a chain is put in the place of another one. -/
set_option linter.unusedVariables false
namespace Go.Proofs.YtgacpkgaogiocaaGreatDoor
open Go Go.Vc Go.RowKit Go.Lib Go.Maps
section
variable {w : World} {X : List As} {t k g c cd : Nat} {U : Tb} {D : DkV} {es : List Ent} {ps : List Int}
theorem Put_E2 (h : St w (DeskS k g c D :: X)) (hH : Have D es) {gen tag : Int} {b : Bs} (hg : 1 ≤ gen ∧ gen ≤ 3) (ht : 0 ≤ tag ∧ tag ≤ 200) (hb : b.length ≤ 9440) (hc : c ≤ 900000) (hf : needN b.length ≤ freeN D.bs) {R : Int → Int → World → Prop}
   (hR : ∀ w' D' e', e'.x.gen = gen → e'.x.tag = tag → e'.x.data = b → Sm D D' → Have D' (es ++ [e']) → St w' (DeskS k g (c + 40) D' :: X) → R e'.x.at_ 0 w') : F.chain_Put (some (blk k)) gen tag (tx b) w R := by
 refine Put_chain h hg ht hb hc (fun w' hlt _ => absurd hlt (by omega)) fun w' hle h' => ?_
 exact hR w' _ ⟨⟨placeP D (needN b.length) 0, gen, tag, 1, b⟩, linkP D gen tag b (needN b.length), placeP D (needN b.length)⟩ rfl rfl rfl ⟨putS_back _, by rw [putS_bs, takeN_len]⟩ (hH.put hg ht hb hle) h'
/-- what a chain's put leaves -/
structure PutR (D : DkV) (es : List Ent) (ps : List Int) (i : Nat) (gen tag : Int) (b : Bs) (D' : DkV) (es' : List Ent) (q : Int) : Prop where
 hv : Have D' es'
 sm : Sm D D'
 cov : Cov es' (ps.set i q)
 nil : b = [] → q = 0
 put : b ≠ [] → q ≠ 0 ∧ Ch es' gen q tag b
 sub : ∀ e ∈ es', e ∈ es ∨ (e.x.gen = gen ∧ e.x.data = b)
 old : ∀ j p tag' d gen', j ≠ i → ps[j]? = some p → p ≠ 0 → Ch es gen' p tag' d → Ch es' gen' p tag' d
set_option maxHeartbeats 2000000 in
theorem putT_st (h : St w (TabS t k c U :: DeskS k g cd D :: X)) (hH : Have D es) (hg : 1 ≤ U.gen ∧ U.gen ≤ 3) (hcov : Cov es ps) {i : Nat} {old : Int} (hi : ps[i]? = some old) {tag : Int} (ht : 0 ≤ tag ∧ tag ≤ 200) {b : Bs} {m : Nat} (hm : m ≤ 9440) (hlen : ∀ e ∈ es, e.x.data.length ≤ m) (hbm : b.length ≤ m)
   (hroom : (ps.length + 1) * needN m + 2 ≤ D.bs.length) (hcd : cd ≤ 900000) {R : Int → Int → World → Prop}
   (hR : ∀ w' D' es' q, PutR D es ps i U.gen tag b D' es' q → St w' (TabS t k c U :: DeskS k g (cd + 40) D' :: X) → R q 0 w') : F.bucket_table_put (some (blk t)) old tag (tx b) w R := by
 apply E.bucket_table_put
 unfold V.bucket_table_put
 try simp -zeta only [ldC, soC, brC, bkA, slC, cnd_all, blk_add2, Nat.reduceAdd]
 have hil : i < ps.length := (List.getElem?_eq_some_iff.1 hi).1
 have hse : sEq (tx b) sNil = decide (b = []) := by rw [tx_nil, tx_eq]
 -- what is left to do where nothing stands any more
 have key : ∀ (w1 : World) (D1 : DkV) (es1 : List Ent), Have D1 es1 → Sm D D1 → Cov es1 (ps.set i 0) → (∀ e ∈ es1, e ∈ es) → (∀ j p tag' d gen', j ≠ i → ps[j]? = some p → p ≠ 0 → Ch es gen' p tag' d → Ch es1 gen' p tag' d) → St w1 (TabS t k c U :: DeskS k g cd D1 :: X) →
     (b = [] → R 0 0 w1) ∧ (b ≠ [] → ∀ w2, St w2 (TabS t k c U :: DeskS k g cd D1 :: X) → F.chain_Put (some (blk k)) U.gen tag (tx b) w2 R) := fun w1 D1 es1 hH1 hS1 hC1 hsub1 hold1 q => by
   refine ⟨fun hb0 => hR w1 D1 es1 0 ⟨hH1, hS1, hC1, fun _ => rfl, fun hb => absurd hb0 hb, fun e he => .inl (hsub1 e he), hold1⟩ (DeskS.mono q.sw (by omega)).sw, fun hb w2 q => ?_⟩
   have hfree := Have.room hH1 hC1 (M := m) (fun e he => hlen e (hsub1 e he)) hbm (by rw [List.length_set, hS1.2]; exact hroom)
   refine Put_E2 q.sw hH1 hg ht (by omega) hcd hfree fun w3 D2 e' g1 g2 g3 hS2 hH2 q => ?_
   have hat : e'.x.at_ ≠ 0 := by
     have := hH2.at_ (e := e') (by simp)
     omega
   have hC2 := hC1.put (e' := e') (i := i) (by rw [List.getElem?_set_self hil]) hat
   rw [List.set_set] at hC2
   exact hR w3 D2 (es1 ++ [e']) e'.x.at_ ⟨hH2, hS1.trans hS2, hC2, fun h => absurd h hb, fun _ => ⟨hat, e', by simp, rfl, g1, g2, g3⟩, fun e he => by
     rcases List.mem_append.1 he with h | h
     · exact .inl (hsub1 e h)
     · rw [List.mem_singleton] at h
       subst h
       exact .inr ⟨g1, g3⟩, fun j p tag' d gen' hj hp h0 hc => (hold1 j p tag' d gen' hj hp h0 hc).put⟩ q.sw
 obtain ⟨a0, a1, a2, a3, a4, a5, a6⟩ := TabS.cell h
 simp only [hse, decide_eq_true_eq, decide_eq_false_iff_not]
 refine ⟨fun hne => ⟨_, a0, ?_⟩, fun hz => ?_⟩
 · obtain ⟨a, e, b1, rfl, hat⟩ := hcov.get (List.mem_of_getElem? hi) hne
   rw [← hat]
   rw [← hat] at hi hne
   refine Drop_E h.sw hH fun w1 hH1 q => ⟨fun h => absurd rfl h, fun _ => ?_⟩
   have q := q.sw
   have hc1 := hcov.drop hi hne
   obtain ⟨k1, k2⟩ := key w1 (dropD D e.ps) (a ++ b1) hH1 (Sm.drop D _) hc1 (fun f hf => by
     rcases List.mem_append.1 hf with h | h
     · exact List.mem_append_left _ h
     · exact List.mem_append_right _ (List.mem_cons_of_mem _ h)) (fun j p tag' d gen' hj hp h0 hc => hc.drop hH hc1 (List.mem_of_getElem? (i := j) (by rw [List.getElem?_set_ne (Ne.symm hj)]; exact hp)) h0) q
   refine ⟨k1, fun hb => ?_⟩
   refine St.dr q fun wa1 q => ?_
   obtain ⟨a0, a1, a2, a3, a4, a5, a6⟩ := TabS.cell q
   exact ⟨_, a0, _, a1, k2 hb _ q⟩
 · have hz : old = 0 := by first | exact hz | simpa using hz
   have e1 : ps.set i 0 = ps := by
     rw [hz] at hi
     obtain ⟨h1, h2⟩ := List.getElem?_eq_some_iff.1 hi
     conv => lhs; rw [← h2]
     exact List.set_getElem_self h1
   obtain ⟨k1, k2⟩ := key w D es hH (Sm.refl D) (by rw [e1]; exact hcov) (fun _ h => h) (fun j p tag' d gen' hj hp h0 hc => hc) h
   refine ⟨k1, fun hb => ?_⟩
   have q := h
   refine St.dr q fun wa2 q => ?_
   obtain ⟨a0, a1, a2, a3, a4, a5, a6⟩ := TabS.cell q
   exact ⟨_, a0, _, a1, k2 hb _ q⟩
end
end Go.Proofs.YtgacpkgaogiocaaGreatDoor
