/- a table of buckets: forms, Check, Sectors. -/
import Derived.Test.YtgacpkgaogiocaaGreatDoorEt
set_option linter.unusedVariables false
namespace Go.Proofs.YtgacpkgaogiocaaGreatDoor
open Go Go.Vc Go.RowKit Go.Lib Go.Maps
section
variable {w : World} {X : List As} {t k g c cd : Nat} {U : Tb} {D : DkV} {es : List Ent} {gen tg root : Int} {L : List Ey} {ps : List Int} {M : Nat}
theorem forms_st (h : St w (TabS t k c U :: DeskS k g cd D :: X)) (hH : Have D es) (hC : Cov es (U.root :: U.ps)) (hgn : ∀ e ∈ es, e.x.gen = gen) {R : Int → World → Prop} (hR : ∀ w', St w' (DeskS k g cd D :: X) → R 0 w') : F.bucket_table_forms (some (blk t)) gen w R := by
 apply E.bucket_table_forms
 unfold V.bucket_table_forms
 try simp -zeta only [ldC, soC, brC, bkA, slC, cnd_all, blk_add2, Nat.reduceAdd]
 have q := h
 refine St.dr q fun wa1 q => ?_
 obtain ⟨a0, a1, a2, a3, a4, a5, a6⟩ := TabS.cell q
 have hlim := (TabS.parts q).1.2.2.1
 refine ⟨_, a2, _, a4, ?_⟩
 refine St.al q fun wa2 q => ?_
 obtain ⟨a0, a1, a2, a3, a4, a5, a6⟩ := TabS.cell q.drop
 refine ⟨a4, ?_⟩
 have hnil : NilOk U.p.pl := Row.nilOk (TabS.parts q.drop).2.sw
 have q := St.rowLit q (En := EI) (xs := [U.root]) (n := 1) rfl rfl (by decide)
 refine St.appN elt_int q a6 hnil (by simp only [List.length_singleton]; omega) (by simp only [List.length_singleton]; omega) fun l1 w2 q hl1 => ?_
 have hl1 : l1.len = U.ps.length + 1 := by rw [hl1, List.length_singleton]; omega
 have hall : [U.root] ++ U.ps = U.root :: U.ps := rfl
 rw [hall] at q
 refine ⟨fun n w' => ∃ m : Nat, n = m ∧ m ≤ U.ps.length + 1 ∧ St w' (Row EI T.y_int l1 (U.root :: U.ps) :: TabS t k c U :: DeskS k g cd D :: X), fun n _ => ((U.ps.length + 1 : Nat) - n : Int).toNat, ⟨0, rfl, Nat.zero_le _, q⟩, ?_⟩
 rintro _ w3 ⟨m, rfl, hm, q⟩
 refine ⟨fun hlt => ?_, fun hge => hR w3 q.drop.drop⟩
 have hlt : m < (U.root :: U.ps).length := by rw [List.length_cons]; omega
 have hms : ((U.ps.length + 1 : Nat) - ((m + 1 : Nat) : Int) : Int).toNat < ((U.ps.length + 1 : Nat) - (m : Int) : Int).toNat := by rw [List.length_cons] at hlt; omega
 obtain ⟨ad, ha, hb, c0⟩ := Has.int (St.has q (by decide)) (m := m) hlt
 refine ⟨ad, ha, by omega, by omega, _, by simpa using c0, ?_⟩
 rw [w64_succ (by rw [List.length_cons] at hlt; omega)]
 refine ⟨fun hz => ⟨⟨m + 1, rfl, hlt, q⟩, hms⟩, fun hnz => ⟨_, (TabS.cell q.drop).1, ?_⟩⟩
 have hnz : ¬ (U.root :: U.ps)[m] = 0 := by first | exact hnz | simpa using hnz
 obtain ⟨a, e, b, he, hat⟩ := hC.get (List.getElem_mem hlt) hnz
 rw [← hat]
 have hmem : e ∈ es := by rw [he]; simp
 refine Get_E q.up2 hH hmem fun w4 q => ?_
 refine St.al q fun wa3 q => ?_
 refine St.fill4 q fun wa7 q => ?_
 refine ⟨fun h => absurd rfl h, fun _ => ⟨_, q.cell0, fun hne => absurd (hgn e hmem) hne, fun _ => ⟨⟨m + 1, rfl, hlt, q.drop.up2.up2.sw.up2.sw.up2⟩, hms⟩⟩⟩
end
end Go.Proofs.YtgacpkgaogiocaaGreatDoor

/- a table of buckets: Check. -/
set_option linter.unusedVariables false
namespace Go.Proofs.YtgacpkgaogiocaaGreatDoor
open Go Go.Vc Go.RowKit Go.Lib Go.Maps
section
variable {w : World} {X : List As} {t k g c cd : Nat} {U : Tb} {D : DkV} {es : List Ent} {gen root : Int} {L : List Ey} {ps : List Int} {M : Nat}
theorem lens_sum (L : List Ey) (nb : Nat) : ∀ m, (((List.range m).map fun n => (bk L nb n).length).sum) ≤ m * L.length
 | 0 => by simp
 | m + 1 => by
   rw [List.range_succ, List.map_append, List.sum_append]
   have h1 := lens_sum L nb m
   have h2 := bk_len L nb m
   have : (m + 1) * L.length = m * L.length + L.length := Nat.succ_mul _ _
   simp only [List.map_cons, List.map_nil, List.sum_cons, List.sum_nil]
   omega
set_option maxHeartbeats 4000000 in
theorem Check_b (h : St w (DeskS k g cd D :: X)) (hH : Have D es) (hT : TabD es gen root L ps M) (hM : M ≤ 269) {R : Int → World → Prop}
   (hR : ∀ w', St w' (DeskS k g cd D :: X) → R 0 w') : F.bucket_Check (some (blk k)) gen root w R := by
 apply E.bucket_Check
 unfold V.bucket_Check
 try simp -zeta only [ldC, soC, brC, bkA, slC, cnd_all, blk_add2, Nat.reduceAdd]
 have hle := hT.many
 have hbl := bktN_le L.length
 have hpn := hT.plen
 have hok : ∀ nb i, ∀ x ∈ bk L nb i, okE x := fun nb i x hx => hT.ok x (bk_sub x hx)
 have hbl2 : ∀ nb i, (bk L nb i).length ≤ 269 := fun nb i => Nat.le_trans (bk_len L _ _) (by omega)
 refine load_st h hH hT hM fun t p w1 q => ⟨fun h => absurd rfl h, fun _ => ?_⟩
 simp -zeta only [Option.some.injEq, exists_eq_left']
 obtain ⟨a0, a1, a2, a3, a4, a5, a6⟩ := TabS.cell q
 have a5 : p.pl.len = ps.length := a5
 have c4 := fun {w' : World} {c' : Nat} {kn : Kn} {rows : Rw} {Y : List As} (q : St w' (TabS t k c' (rdU gen root L.length ps p kn rows) :: Y)) => (TabS.cell q).2.2.2.2.1
 refine ⟨_, a4, ?_⟩
 show ∃ J m, _
 have hls := lens_sum L ps.length
 have hmm : ∀ m, m ≤ ps.length → m * L.length ≤ 100000 := fun m hm => by
   have : m * L.length ≤ 269 * 269 := Nat.mul_le_mul (by omega) (by omega)
   omega
 refine ⟨fun many n w' => ∃ (m : Nat) (kn : Kn) (rows : Rw), n = m ∧ many = ((((List.range m).map fun n => (bk L ps.length n).length).sum : Nat) : Int) ∧ m ≤ ps.length ∧ MemB es gen ps (bk L ps.length) kn (fun _ => none) ∧ St w' (TabS t k m (rdU gen root L.length ps p kn rows) :: DeskS k g cd D :: X), fun _ n _ => ((ps.length : Int) - n).toNat, ⟨0, _, _, rfl, rfl, Nat.zero_le _, hT.none, q⟩, ?_⟩
 rintro _ _ w2 ⟨m, kn, rows, rfl, rfl, hm, M2, q⟩
 refine ⟨fun hlt => ?_, fun hge => ?_⟩
 · have hlt : (m : Int) < ((p.pl.len : Nat) : Int) := hlt
   have hlt : m < ps.length := by omega
   have hms : ((ps.length : Int) - ((m + 1 : Nat) : Int)).toNat < ((ps.length : Int) - (m : Int)).toNat := by omega
   refine bucket_st q hH M2 hlt (hok _ _) (hbl2 _ _) (by omega) fun w3 kn3 rows3 l1 M3 hin _ q => ⟨fun h => absurd rfl h, fun _ => ?_⟩
   have hsr := bk_srt hT.srt ps.length m
   have hlo := hok ps.length m
   have hll := hbl2 ps.length m
   have hmem : ∀ x ∈ bk L ps.length m, slotN (hashE x) ps.length = m := fun x hx => (bk_mem.1 hx).2
   have hsum : (((List.range (m + 1)).map fun n => (bk L ps.length n).length).sum) = ((List.range m).map fun n => (bk L ps.length n).length).sum + (bk L ps.length m).length := by
     rw [List.range_succ, List.map_append, List.sum_append]; simp
   have hs1 := hls m
   have hs2 := hmm m hm
   generalize bk L ps.length m = l at *
   have q : St w3 (TabS t k (m + 1) (rdU gen root L.length ps p kn3 rows3) :: DeskS k g cd D :: X) := q
   have hin : InR (rdU gen root L.length ps p kn3 rows3).rows l1 l := hin
   have hl1 := (TabS.has q hin).1.1
   refine ⟨fun n w' => ∃ j : Nat, n = j ∧ j ≤ l.length ∧ St w' (TabS t k (m + 1) (rdU gen root L.length ps p kn3 rows3) :: DeskS k g cd D :: X), fun n _ => ((l.length : Int) - n).toNat, ⟨0, rfl, Nat.zero_le _, q⟩, ?_⟩
   rintro _ w4 ⟨j, rfl, hj, q⟩
   refine ⟨fun hjl => ?_, fun hjg => ?_⟩
   · have hjl : j < l.length := by omega
     have hjs : ((l.length : Int) - ((j + 1 : Nat) : Int)).toNat < ((l.length : Int) - (j : Int)).toNat := by omega
     obtain ⟨ad, ha, hb, c0, c1, c2⟩ := Has.ey (TabS.has q hin).1 hjl
     refine ⟨ad, ha, by omega, by omega, _, c0, _, c1, _, c2, ?_⟩
     refine St.al q fun wa1 q => ?_
     refine St.fill3 q fun wa4 q => ?_
     refine St.dr q fun wa5 q => ?_
     refine ⟨_, q.cell0, _, q.cell 1, _, c4 q.drop, Hash_any q (hlo l[j] (List.getElem_mem _)).hash fun w9 q => ⟨c4 q.drop, ?_⟩⟩
     rw [w64_succ (by omega)]
     have hsl := hmem l[j] (List.getElem_mem _)
     have hpl : (rdU gen root L.length ps p kn3 rows3).p.pl.len = ps.length := a5
     rw [hpl]
     refine Slot_any (by omega) ⟨?_, ?_⟩
     · rw [← hpl]; exact c4 q.drop
     rw [hsl]
     refine ⟨fun hne => absurd rfl hne, fun _ => ⟨fun hpos => ?_, fun hno => ⟨?_, ⟨j + 1, rfl, hjl, q.drop⟩, hjs⟩⟩⟩
     · have hpos : 0 < j := by omega
       have e1 : w64 ((j : Int) - 1) = ((j - 1 : Nat) : Int) := by rw [w64_id (by omega) (by omega)]; omega
       rw [e1]
       obtain ⟨ad, ha, hb, c0, c1, c2⟩ := Has.ey (TabS.has q.drop hin).1 (m := j - 1) (by omega)
       refine ⟨ad, ha, by omega, by omega, _, c0, _, c1, _, c2, _, q.cell0, _, q.cell 1, _, q.cell 2, compare_st q fun w11 _ q => ⟨?_, fun hge => ?_, fun _ => ⟨⟨j + 1, rfl, hjl, q.drop⟩, hjs⟩⟩⟩
       · rw [← hpl]; exact c4 q.drop
       · have h2 := (cfE_lt _ _).2 (srt_lt hsr (i := j - 1) (j := j) (by omega) hjl (by omega))
         omega
     · rw [← hpl]; exact c4 q.drop
   · have hmn : w64 (((((List.range m).map fun n => (bk L ps.length n).length).sum : Nat) : Int) + ((l1.len : Nat) : Int)) = ((((List.range (m + 1)).map fun n => (bk L ps.length n).length).sum : Nat) : Int) := by
       rw [w64_id (by omega) (by omega), hsum]; omega
     rw [hmn, w64_succ (by omega)]
     exact ⟨⟨m + 1, kn3, rows3, rfl, rfl, hlt, M3, q⟩, hms⟩
 · have hge : ¬ (m : Int) < ((p.pl.len : Nat) : Int) := hge
   have hme : m = ps.length := by omega
   subst hme
   obtain ⟨a0, a1, a2, a3, a4, a5, a6⟩ := TabS.cell q
   have hsum : ((List.range ps.length).map fun n => (bk L ps.length n).length).sum = L.length := by
     by_cases h0 : ps.length = 0
     · have hL : L = [] := List.eq_nil_of_length_eq_zero (Decidable.byContradiction fun hne => bktN_pos hne (by omega))
       rw [h0, hL]; rfl
     · exact bk_lens hT.srt h0
   rw [hsum]
   exact ⟨_, a3, fun hne => absurd rfl hne, fun _ => forms_st q hH hT.cov hT.gens hR⟩
end
end Go.Proofs.YtgacpkgaogiocaaGreatDoor

/- masonrylaw17.alive; masonryref17.Slot; BucketSlots. -/
set_option linter.unusedVariables false
namespace Go.Proofs.YtgacpkgaogiocaaGreatDoor
open Go Go.Vc Go.RowKit Go.Lib Go.Maps
def abcB : Bs := [97, 98, 99]
section
variable {w : World} {X : List As}
theorem print_ok (s : Bs) {a : Int} (h : 1 ≤ a ∧ a < 2000) : okE ⟨1, sumK 1 s, a⟩ := ⟨.inl rfl, sumK_len (.inl rfl) s, h⟩
theorem add_two {p : Bs} (h7 : okE ⟨1, p, 7⟩) (h3 : okE ⟨1, p, 3⟩) : allF addS [] [⟨1, p, 7⟩, ⟨1, p, 3⟩] = ([⟨1, p, 3⟩, ⟨1, p, 7⟩], 0) := by
 have e1 : addS ([], 0) ⟨1, p, 7⟩ = ([⟨1, p, 7⟩], 0) := by
   unfold addS
   rw [if_neg (by simp), if_neg (fun h => h h7), if_neg (by simp), if_neg (by simp)]
   rfl
 have e2 : addS ([⟨1, p, 7⟩], 0) ⟨1, p, 3⟩ = ([⟨1, p, 3⟩, ⟨1, p, 7⟩], 0) := by
   unfold addS
   rw [if_neg (by simp), if_neg (fun h => h h3), if_neg (by simp), if_neg (by simp)]
   have hn : ¬ ltE ⟨1, p, 7⟩ ⟨1, p, 3⟩ := by
     unfold ltE
     rintro (h | ⟨_, h | ⟨_, h⟩⟩)
     · have h : (1 : Int) < 1 := h
       omega
     · exact bs_irrefl _ h
     · have h : (7 : Int) < 3 := h
       omega
   have hc : cntE [(⟨1, p, 7⟩ : Ey)] ⟨1, p, 3⟩ = 0 := by unfold cntE; simp [hn]
   unfold insE
   rw [hc]; rfl
 unfold allF
 rw [List.foldl_cons, e1, List.foldl_cons, e2]; rfl
set_option maxHeartbeats 2000000 in
theorem alive17_st (h : St w X) {R : Bool → World → Prop} (hR : ∀ w', St w' X → R true w') : F.masonrylaw17_alive w R := by
 apply E.masonrylaw17_alive
 unfold V.masonrylaw17_alive
 try simp -zeta only [ldC, soC, brC, bkA, slC, cnd_all, blk_add2, Nat.reduceAdd]
 refine Fresh_st h (n := 150) (by decide) (by decide) fun k g w1 q => ?_
 simp -zeta only [Option.isNone_some, Bool.false_eq_true, false_implies, true_and, forall_const, true_implies]
 refine RefPrint_st q (kind := 1) (.inl rfl) (s := abcB) (by decide) fun w2 q => ?_
 generalize hp : sumK 1 abcB = p
 refine St.al q fun wa1 q => ?_
 refine St.fill2 q fun wa3 q => ?_
 refine ⟨_, q.cell0, _, q.cell 1, _, q.cell0, _, q.cell 1, ?_⟩
 refine St.al q fun wa4 q => ?_
 have h7 : okE ⟨1, p, 7⟩ := by rw [← hp]; exact print_ok abcB (by decide)
 have h3 : okE ⟨1, p, 3⟩ := by rw [← hp]; exact print_ok abcB (by decide)
 have hadd := add_two h7 h3
 have hl : (fmt0 150).bs.length = 39 := by rw [fmt0_bs, bs0_len]
 have hps : p.length = 20 := h7.2.1
 refine Add_st q.up2 (Have.fmt (by decide) (by decide)) (TabD.empty (M := 2) 1) (by decide) (by decide) (by rw [hl]; decide) (xs := [⟨1, p, 7⟩, ⟨1, p, 3⟩]) (fun w' hw => hw.lit (En := EE) (xs := [⟨1, p, 7⟩, ⟨1, p, 3⟩]) rfl rfl 2) (by simp) (fun x hx => by
   simp only [List.mem_cons, List.not_mem_nil, or_false] at hx
   rcases hx with rfl | rfl <;> (show p.length ≤ _; omega)) (by decide) (fun w' e he hne _ => absurd (by rw [← he, hadd]) hne) fun w6 D' es' root' ps' _ hH hS hT q => ?_
 rw [hadd] at hT
 refine ⟨_, q.up2.cell0, _, q.up2.cell 1, Find_st q hH hT (by decide) (by omega) fun l w7 q => ?_⟩
 have hf : findE ([(⟨1, p, 3⟩ : Ey), ⟨1, p, 7⟩], (0 : Int)).1 ((1 : Nat) : Int) p = [3, 7] := by simp [findE]
 rw [hf] at q
 have hh := St.has q (by decide)
 obtain ⟨a0, ha0, hb0, c0⟩ := Has.int hh (m := 0) (by decide)
 obtain ⟨a1, ha1, hb1, c1⟩ := Has.int hh (m := 1) (by decide)
 have hl2 : l.len = 2 := hh.1
 refine ⟨fun _ => ⟨fun _ => ⟨fun _ => ⟨a0, ha0, by decide, by omega, _, c0, fun _ => ⟨a1, ha1, by decide, by omega, _, c1, fun _ => Check_b q.sw hH hT (by decide) fun w8 q => ?_, fun h => absurd rfl h⟩, fun h => absurd rfl h⟩, fun h => absurd (by omega) h⟩, fun h => absurd rfl h⟩, fun h => absurd rfl h⟩
 exact hR _ q.drop.drop.drop.drop
end
end Go.Proofs.YtgacpkgaogiocaaGreatDoor
