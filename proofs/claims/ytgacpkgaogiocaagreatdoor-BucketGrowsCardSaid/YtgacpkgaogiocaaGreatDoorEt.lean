/- a table of buckets: entries are added, dropped: all of them, or none. -/
import Derived.Test.YtgacpkgaogiocaaGreatDoorEr
set_option linter.unusedVariables false
namespace Go.Proofs.YtgacpkgaogiocaaGreatDoor
open Go Go.Vc Go.RowKit Go.Lib Go.Maps
theorem Sm.syncs {A B : DkV} (h : Sm A B) : A.syncs = B.syncs := by
 have h1 := h.1
 cases A; cases B
 simp only [backD, DkV.mk.injEq] at h1
 exact h1.2.2.2.1.symm
theorem TabD.mem {D : DkV} {es : List Ent} {gen root : Int} {L : List Ey} {ps : List Int} {M : Nat} (h : TabD es gen root L ps M) (hH : Have D es) (p : TbP) : MemT D es gen (tb0 gen root L.length ps p) L M :=
 ⟨hH, ⟨h.srt, h.ok⟩, h.cov, h.len, h.gens, rfl, rfl, h.many, h.plen, h.none⟩
/-- a call that adds, or drops, an entry -/
def DoSt (k g : Nat) (gen : Int) (M f : Nat) (stp : List Ey × Int → Ey → List Ey × Int) : Prop :=
 ∀ (w : World) (X : List As) (t c cd : Nat) (U : Tb) (D : DkV) (es : List Ent) (L : List Ey) (x : Ey) (R : Int → World → Prop), St w (TabS t k c U :: DeskS k g cd D :: X) → MemT D es gen U L M → L.length + 1 ≤ M → x.s.length ≤ 1000000000 → c ≤ 700000 →
   (∀ e w', stp (L, 0) x = (L, e) → e ≠ 0 → St w' (DeskS k g cd D :: X) → R e w') →
   (∀ w' D' es' U', (stp (L, 0) x).2 = 0 → Sm D D' → MemT D' es' gen U' (stp (L, 0) x).1 M → St w' (TabS t k (c + 10) U' :: DeskS k g cd D' :: X) → R 0 w') →
   RetT Pg [.one (.int .i64)] f #[.pointer (some (blk t)), .agg #[.int .i64 x.k, .string (tx x.s), .int .i64 x.a]] w R
section
variable {w : World} {X : List As} {k g cd : Nat} {D : DkV} {es : List Ent} {gen root : Int} {L : List Ey} {ps : List Int} {M : Nat}
theorem do_add (hM : M ≤ 269) : DoSt k g gen M 36 addS := fun w X t c cd U D es L x R h hT hl hx hc hB hR =>
 add_st h hT ⟨hl, hM⟩ hc hB fun w' U' he hT' _ q => hR w' D es U' (by rw [he]) (Sm.refl D) (by rw [he]; exact hT') q
theorem do_drop (hM : M ≤ 269) : DoSt k g gen M 44 dropS := fun w X t c cd U D es L x R h hT hl hx hc hB hR =>
 drop_st h hT hM hx hc hB fun w' D' es' U' he hS hT' _ q => hR w' D' es' U' (by rw [he]) hS (by rw [he]; exact hT') q
set_option maxHeartbeats 4000000 in
theorem change_st {f : Nat} {stp : List Ey × Int → Ey → List Ey × Int} (hdo : DoSt k g gen M f stp) (hcall : Callable Pg f) (hse : ∀ st x, st.2 ≠ 0 → stp st x = st) (hsl : ∀ st x, (stp st x).1.length ≤ st.1.length + 1)
   (h : St w (DeskS k g cd D :: X)) (hH : Have D es) (hT : TabD es gen root L ps M) (hg : 1 ≤ gen ∧ gen ≤ 3) (hM : 1 ≤ M ∧ M ≤ 269) (hroom : (bktN M + 2) * needN (35 * M) + 2 ≤ D.bs.length)
   {sl : Sl} {xs : List Ey} (hx : ∀ w', St w' X → Has EE w' sl xs) (hl : L.length + xs.length ≤ M) (hxs : ∀ x ∈ xs, x.s.length ≤ 1000000000) (hcd : cd ≤ 700000) {R : Int → Int → World → Prop}
   (hE : ∀ w' e, (allF stp L xs).2 = e → e ≠ 0 → St w' (DeskS k g (cd + 2800) D :: X) → R 0 e w')
   (hR : ∀ w' D' es' root' ps', (allF stp L xs).2 = 0 → Have D' es' → Sm D D' → TabD es' gen root' (allF stp L xs).1 ps' M → St w' (DeskS k g (cd + 2800) D' :: X) → R root' 0 w') : F.bucket_change (some (blk k)) gen root sl (.func (.func f) #[] #[]) w R := by
 apply E.bucket_change
 unfold V.bucket_change
 try simp -zeta only [ldC, soC, brC, bkA, slC, cnd_all, blk_add2, Nat.reduceAdd]
 have hlx := (hx w h.drop).1
 refine ⟨fun b w' => b = false ∧ w = w', ⟨fun h => absurd h (by omega), fun _ => ⟨decide_eq_false (by omega), rfl⟩⟩, ?_⟩
 rintro b _ ⟨rfl, rfl⟩
 refine ⟨fun h => (by cases h), fun _ => ⟨fun hz => ?_, fun hnz => ?_⟩⟩
 · have hz : xs = [] := List.eq_nil_of_length_eq_zero (by have hz : ((sl.len : Nat) : Int) = 0 := (by first | exact hz | simpa using hz); omega)
   subst hz
   exact hR w D es root ps rfl hH (Sm.refl D) hT (DeskS.mono h (by omega))
 have hdk := DeskS.ok h
 refine Mark_st h fun r b w1 q => ?_
 refine St.al q fun wa1 q => ?_
 generalize w1.heap.size = mk at *
 refine St.fill4 q fun wa5 q => ?_
 refine load_st q.up3 hH hT hM.2 fun t p w7 q => ?_
 generalize hY : Cs mk [.pointer (some (blk k)), .pointer (some (blk r)), .map (some b), .int .i64 D.syncs] T.y_desk_Mark :: RoomS r D.bs :: MapS b D.ws :: X = Y
 have hxY : ∀ w', St w' Y → Has EE w' sl xs := fun w' hw => by
   rw [← hY] at hw
   exact hx w' hw.drop.drop.drop
 have q : St w7 (TabS t k 0 (tb0 gen root L.length ps p) :: DeskS k g cd D :: Y) := by rw [← hY]; exact q
 have hfl : ∀ m, (allF stp L (xs.take m)).1.length ≤ L.length + xs.length := fun m => by
   have := allF_len hsl L (xs.take m)
   rw [List.length_take] at this; omega
 -- all that was done so far, or an error
 have hInv : ∃ Inv : Int → Nat → World → Prop, Inv = fun e m w' => (e = 0 ∧ (allF stp L (xs.take m)).2 = 0 ∧ ∃ D' es' U', Sm D D' ∧ MemT D' es' gen U' (allF stp L (xs.take m)).1 M ∧ St w' (TabS t k (10 * m) U' :: DeskS k g cd D' :: Y)) ∨ (e ≠ 0 ∧ (allF stp L xs).2 = e ∧ ∃ D', Sm D D' ∧ St w' (DeskS k g cd D' :: Y)) := ⟨_, rfl⟩
 obtain ⟨Inv, hInv⟩ := hInv
 refine ⟨fun e w' => Inv e xs.length w', ⟨fun e i w' => ∃ m : Nat, i = m ∧ m ≤ xs.length ∧ Inv e m w', fun e i _ => if e = 0 then ((xs.length : Int) - i).toNat else 0, ⟨0, rfl, Nat.zero_le _, by rw [hInv]; exact .inl ⟨rfl, rfl, D, es, _, Sm.refl D, hT.mem hH p, q⟩⟩, ?_⟩, ?_⟩
 · rintro e _ w8 ⟨m, rfl, hm, hI⟩
   refine ⟨fun he => ⟨fun hlt => ?_, fun hge => ?_⟩, fun hne => ?_⟩
   · have he : e = 0 := by first | exact he | simpa using he
     subst he
     have hlt : m < xs.length := by omega
     rw [hInv] at hI
     rcases hI with ⟨_, hz, D1, es1, U1, hS1, hT1, q⟩ | ⟨hne, _⟩
     rotate_left
     · exact absurd rfl hne
     obtain ⟨ad, ha, hb, c0, c1, c2⟩ := Has.ey (hxY _ q.drop.drop) hlt
     refine ⟨ad, ha, by omega, by omega, _, c0, _, c1, _, c2, f, #[], #[], rfl, hcall, ?_⟩
     have hst : (allF stp L (xs.take m)) = ((allF stp L (xs.take m)).1, 0) := by rw [← hz]
     have hnx := allF_take (f := stp) (L := L) hlt
     rw [hst] at hnx
     have hml := hfl m
     rw [w64_succ (by omega)]
     have hms : ∀ e' : Int, (if e' = 0 then ((xs.length : Int) - ((m + 1 : Nat) : Int)).toNat else 0) < (if (0 : Int) = 0 then ((xs.length : Int) - (m : Int)).toNat else 0) := fun e' => by
       rw [if_pos rfl]
       split <;> omega
     have hl1 : (allF stp L (xs.take m)).1.length ≤ L.length + m := by
       have := allF_len hsl L (xs.take m)
       rw [List.length_take] at this; omega
     refine hdo w8 Y t (10 * m) cd U1 D1 es1 _ xs[m] _ q hT1 (by omega) (hxs _ (List.getElem_mem _)) (by omega) (fun e w' he hne q => ⟨⟨m + 1, rfl, hlt, ?_⟩, hms e⟩) fun w' D' es' U' he hS' hT' q => ⟨⟨m + 1, rfl, hlt, ?_⟩, hms 0⟩
     · rw [hInv]
       rw [he] at hnx
       refine .inr ⟨hne, ?_, D1, hS1, q⟩
       rw [allF_err hse (m := m + 1) (by rw [hnx]; exact hne), hnx]
     · rw [hInv]
       refine .inl ⟨rfl, by rw [hnx]; exact he, D', es', U', hS1.trans hS', by rw [hnx]; exact hT', ?_⟩
       have e10 : 10 * (m + 1) = 10 * m + 10 := by omega
       rw [e10]; exact q
   · have hmm : m = xs.length := by omega
     subst hmm; exact hI
   · have hne : ¬ e = 0 := by first | exact hne | simpa using hne
     rw [hInv] at hI ⊢
     rcases hI with ⟨he, _⟩ | hI
     · exact absurd he hne
     · exact .inr hI
 rintro e w10 hI
 rw [hInv] at hI
 simp only [List.take_length] at hI
 refine ⟨fun e' at_ w' => (e' = 0 ∧ (allF stp L xs).2 = 0 ∧ ∃ D' es' ps', Have D' es' ∧ Sm D D' ∧ TabD es' gen at_ (allF stp L xs).1 ps' M ∧ St w' (DeskS k g (cd + 2800) D' :: Y)) ∨ (e' ≠ 0 ∧ (allF stp L xs).2 = e' ∧ ∃ D', Sm D D' ∧ St w' (DeskS k g cd D' :: Y)), ⟨fun he => ?_, fun hne => ?_⟩, ?_⟩
 · have he : e = 0 := by first | exact he | simpa using he
   rcases hI with ⟨_, hz, D1, es1, U1, hS1, hT1, q⟩ | ⟨hne, _⟩
   · have hpn := hT1.plen
     have hb1 := bktN_mono hT1.le
     have hbM := bktN_le M
     have hb67 : bktN M ≤ 68 := by
       have := bktN_mono hM.2
       have : bktN 269 = 68 := by decide
       omega
     refine save_st q hT1 hg hM (by rw [hS1.2]; exact hroom) (by omega) fun w11 D' es' root' ps' hH' hS' hT' q => .inl ⟨rfl, hz, D', es', ps', hH', hS1.trans hS', hT', DeskS.mono q (by omega)⟩
   · exact absurd he hne
 · have hne : ¬ e = 0 := by first | exact hne | simpa using hne
   rcases hI with ⟨he, _⟩ | hI
   · exact absurd he hne
   · exact .inr hI
 rintro e' at_ w12 hK
 refine ⟨fun hne => ?_, fun he => ?_⟩
 · have hne : ¬ e' = 0 := by first | exact hne | simpa using hne
   rcases hK with ⟨he, _⟩ | ⟨_, hee, D1, hS1, q⟩
   · exact absurd he hne
   · rw [← hY] at q
     refine ⟨_, q.sw.cell0, _, q.sw.cell 1, _, q.sw.cell 2, _, q.sw.cell 3, ?_⟩
     refine Back_st q.d2 hdk hS1.2.symm hS1.syncs fun w13 q => ?_
     rw [hS1.1, Nat.max_self] at q
     exact hE w13 e' hee hne (DeskS.mono q.d2.d2 (by omega))
 · have he : e' = 0 := by first | exact he | simpa using he
   rcases hK with ⟨_, hz, D', es', ps', hH', hS', hT', q⟩ | ⟨hne, _⟩
   · rw [← hY] at q
     exact hR w12 D' es' at_ ps' hz hH' hS' hT' q.d2.d2.d2
   · exact absurd he hne
theorem call36 : Callable Pg 36 := okChk_spec (by kernel_rfl)
theorem call44 : Callable Pg 44 := okChk_spec (by kernel_rfl)
theorem Add_st (h : St w (DeskS k g cd D :: X)) (hH : Have D es) (hT : TabD es gen root L ps M) (hg : 1 ≤ gen ∧ gen ≤ 3) (hM : 1 ≤ M ∧ M ≤ 269) (hroom : (bktN M + 2) * needN (35 * M) + 2 ≤ D.bs.length)
   {sl : Sl} {xs : List Ey} (hx : ∀ w', St w' X → Has EE w' sl xs) (hl : L.length + xs.length ≤ M) (hxs : ∀ x ∈ xs, x.s.length ≤ 1000000000) (hcd : cd ≤ 700000) {R : Int → Int → World → Prop}
   (hE : ∀ w' e, (allF addS L xs).2 = e → e ≠ 0 → St w' (DeskS k g (cd + 2800) D :: X) → R 0 e w')
   (hR : ∀ w' D' es' root' ps', (allF addS L xs).2 = 0 → Have D' es' → Sm D D' → TabD es' gen root' (allF addS L xs).1 ps' M → St w' (DeskS k g (cd + 2800) D' :: X) → R root' 0 w') : F.bucket_Add (some (blk k)) gen root sl w R := by
 apply E.bucket_Add
 unfold V.bucket_Add
 try simp -zeta only [ldC, soC, brC, bkA, slC, cnd_all, blk_add2, Nat.reduceAdd]
 exact change_st (do_add hM.2) call36 addS_err addS_len h hH hT hg hM hroom hx hl hxs hcd hE hR
theorem Drop_st17 (h : St w (DeskS k g cd D :: X)) (hH : Have D es) (hT : TabD es gen root L ps M) (hg : 1 ≤ gen ∧ gen ≤ 3) (hM : 1 ≤ M ∧ M ≤ 269) (hroom : (bktN M + 2) * needN (35 * M) + 2 ≤ D.bs.length)
   {sl : Sl} {xs : List Ey} (hx : ∀ w', St w' X → Has EE w' sl xs) (hl : L.length + xs.length ≤ M) (hxs : ∀ x ∈ xs, x.s.length ≤ 1000000000) (hcd : cd ≤ 700000) {R : Int → Int → World → Prop}
   (hE : ∀ w' e, (allF dropS L xs).2 = e → e ≠ 0 → St w' (DeskS k g (cd + 2800) D :: X) → R 0 e w')
   (hR : ∀ w' D' es' root' ps', (allF dropS L xs).2 = 0 → Have D' es' → Sm D D' → TabD es' gen root' (allF dropS L xs).1 ps' M → St w' (DeskS k g (cd + 2800) D' :: X) → R root' 0 w') : F.bucket_Drop (some (blk k)) gen root sl w R := by
 apply E.bucket_Drop
 unfold V.bucket_Drop
 try simp -zeta only [ldC, soC, brC, bkA, slC, cnd_all, blk_add2, Nat.reduceAdd]
 exact change_st (do_drop hM.2) call44 dropS_err dropS_len h hH hT hg hM hroom hx hl hxs hcd hE hR
end
end Go.Proofs.YtgacpkgaogiocaaGreatDoor

/- a table of buckets: Find, All. -/
set_option linter.unusedVariables false
namespace Go.Proofs.YtgacpkgaogiocaaGreatDoor
open Go Go.Vc Go.RowKit Go.Lib Go.Maps
section
variable {w : World} {X : List As} {k g cd : Nat} {D : DkV} {es : List Ent} {gen tg root : Int} {L : List Ey} {ps : List Int} {M : Nat}
theorem Sort_I {sl : Sl} {zs : List Int} (h : St w (Row EI T.y_int sl zs :: X)) (hb : zs.length ≤ 1000000) {R : World → Prop}
   (hR : ∀ w', St w' (Row EI T.y_int sl (zs.mergeSort fun x y => decide (x ≤ y)) :: X) → R w') : F.slices_Sort_sl_int_int sl w R := by
 obtain ⟨S, ⟨hO, e⟩, _, hX⟩ := h.out
 subst e
 rw [EI_all] at hO
 exact Sort_ints hO (by omega) fun w' ho hf => hR w' (hX (A' := Row EI T.y_int sl _) ⟨by rw [EI_all]; exact ho, rfl⟩ hf fun j hj => .inl hj)
theorem sort_up {l : List Int} (h : l.Pairwise (· < ·)) : (l.mergeSort fun x y => decide (x ≤ y)) = l := mergeSort_up l (up_pw.2 h)
abbrev rdU (gen root : Int) (n : Nat) (ps : List Int) (p : TbP) (kn : Kn) (rows : Rw) : Tb := ⟨gen, root, n, ps, kn, fun _ => none, rows, p⟩
set_option maxHeartbeats 4000000 in
theorem Find_st (h : St w (DeskS k g cd D :: X)) (hH : Have D es) (hT : TabD es tg root L ps M) (hM : M ≤ 269) {pk : Int} {s : Bs} (hs : s.length ≤ 1000000000) {R : Sl → Int → World → Prop}
   (hR : ∀ sl w', St w' (Row EI T.y_int sl (findE L pk s) :: DeskS k g cd D :: X) → R sl 0 w') : F.bucket_Find (some (blk k)) root pk (tx s) w R := by
 apply E.bucket_Find
 unfold V.bucket_Find
 try simp -zeta only [ldC, soC, brC, bkA, slC, cnd_all, blk_add2, Nat.reduceAdd]
 have hle := hT.many
 have hbl := bktN_le L.length
 have hpn := hT.plen
 have hok : ∀ nb i, ∀ x ∈ bk L nb i, okE x := fun nb i x hx => hT.ok x (bk_sub x hx)
 have hbl2 : ∀ nb i, (bk L nb i).length ≤ 269 := fun nb i => Nat.le_trans (bk_len L _ _) (by omega)
 have c4 := fun {w' : World} {t c' : Nat} {U' : Tb} {Y : List As} (q : St w' (TabS t k c' U' :: Y)) => (TabS.cell q).2.2.2.2.1
 have q := h
 refine St.al q fun wa1 q => ?_
 generalize w.heap.size = g0 at *
 refine load_st q.sw hH hT hM fun t p w1 q => ?_
 simp -zeta only [Option.some.injEq, exists_eq_left']
 obtain ⟨a0, a1, a2, a3, a4, a5, a6⟩ := TabS.cell q
 refine ⟨fun b w' => b = decide (L.length = 0) ∧ w1 = w', ⟨fun h => absurd trivial h, fun _ => ⟨_, a3, ?_, rfl⟩⟩, ?_⟩
 · show (((L.length : Nat) : Int) == 0) = _
   rw [Bool.eq_iff_iff, beq_iff_eq, decide_eq_true_iff]; omega
 rintro b _ ⟨rfl, rfl⟩
 refine ⟨fun hz => ?_, fun hnz => ?_⟩
 · have hz : L = [] := List.eq_nil_of_length_eq_zero (of_decide_eq_true hz)
   refine hR _ w1 ?_
   rw [hz]
   exact St.row0 q.drop.d2 EI T.y_int
 have hL0 : ¬ L.length = 0 := of_decide_eq_false hnz
 have hnb := bktN_pos hL0
 refine St.dr q fun wa2 q => ?_
 obtain ⟨a0, a1, a2, a3, a4, a5, a6⟩ := TabS.cell q
 have hpp : p.pl.len = ps.length := a5
 have hsl : slotN (hashE ⟨pk, s, 0⟩) ps.length < ps.length := slotN_lt (by omega)
 refine ⟨_, q.up2.cell0, _, q.up2.cell 1, _, a4, Hash_any (x := ⟨pk, s, 0⟩) q hs fun w4 q => ⟨c4 q, ?_⟩⟩
 rw [a5]
 refine Slot_any (by show ps.length ≤ 1000000; omega) ⟨?_, ?_⟩
 · rw [← a5]; exact c4 q
 refine bucket_st q hH hT.none hsl (hok _ _) (hbl2 _ _) (by decide) fun w6 kn6 rows6 l1 M6 hin _ q => ⟨?_, fun h => absurd rfl h, fun _ => ?_⟩
 · rw [← a5]
   have := c4 q
   exact this
 have hfb : findE (bk L ps.length (slotN (hashE ⟨pk, s, 0⟩) ps.length)) pk s = findE L pk s := findE_bk (fun _ _ _ _ => trivial) _ _ fun x h1 h2 => by
   have : hashE x = hashE ⟨pk, s, 0⟩ := by unfold hashE; rw [h2]
   rw [this]
 have hlen := hbl2 ps.length (slotN (hashE ⟨pk, s, 0⟩) ps.length)
 show ∃ J m, _
 generalize bk L ps.length (slotN (hashE ⟨pk, s, 0⟩) ps.length) = l at *
 have hin : InR (rdU 0 root L.length ps p kn6 rows6).rows l1 l := hin
 have q : St w6 (TabS t k 1 (rdU 0 root L.length ps p kn6 rows6) :: DeskS k g cd D :: Cs g0 [.int .i64 pk, .string (tx s)] T.y_api_Print :: X) := q
 have hl1 := (TabS.has q hin).1.1
 refine ⟨fun out n w' => ∃ m : Nat, n = m ∧ m ≤ l.length ∧ St w' (Row EI T.y_int out (findE (l.take m) pk s) :: _), fun _ n _ => ((l.length : Int) - n).toNat, ⟨0, rfl, Nat.zero_le _, St.row0 q EI T.y_int⟩, ?_⟩
 rintro out _ w7 ⟨m, rfl, hm, q⟩
 refine ⟨fun hlt => ?_, fun hge => ?_⟩
 · have hlt : m < l.length := by omega
   have hms : ((l.length : Int) - ((m + 1 : Nat) : Int)).toNat < ((l.length : Int) - (m : Int)).toNat := by omega
   obtain ⟨ad, ha, hb, c0, c1, c2⟩ := Has.ey (TabS.has q.drop hin).1 hlt
   refine ⟨ad, ha, by omega, by omega, _, c0, _, c1, _, c2, ?_⟩
   refine St.al q fun wa3 q => ?_
   refine St.fill3 q fun wa6 q => ?_
   have ft := findE_take (k := pk) (s := s) hlt
   have hfl : (findE (l.take m) pk s).length ≤ m := by
     unfold findE
     rw [List.length_map]
     have := List.length_filter_le (fun x => decide (x.k = pk ∧ x.s = s)) (l.take m)
     rw [List.length_take] at this; omega
   rw [w64_succ (by omega)]
   refine ⟨_, q.cell0, _, q.cell 1, _, q.up4.cell0, _, q.up4.cell 1, ?_⟩
   rw [tx_eq]
   refine ⟨fun heq => ⟨_, q.cell 2, ?_⟩, fun hne => ⟨⟨m + 1, rfl, hlt, ?_⟩, hms⟩⟩
   · have heq : l[m].k = pk ∧ l[m].s = s := by simpa using heq
     rw [if_pos heq] at ft
     refine St.al q fun wa7 q => ?_
     refine St.app elt_int q.up2 (sl := ⟨some (blk _), 1, 1⟩) (ys := [l[m].a]) (q.lit (En := EI) (xs := [l[m].a]) rfl rfl 1) rfl (by simp; omega) (by simp; omega) fun l2 w13 q _ => ⟨⟨m + 1, rfl, hlt, ?_⟩, hms⟩
     rw [ft]
     exact q.d2.d2
   · have hne : ¬ (l[m].k = pk ∧ l[m].s = s) := by simpa using hne
     rw [if_neg hne] at ft
     rw [ft]
     exact q.drop
 · have hmm : m = l.length := by omega
   subst hmm
   rw [List.take_length, hfb] at q
   have hup := findE_up hT.srt pk s
   have hfl : (findE L pk s).length ≤ L.length := by
     unfold findE
     rw [List.length_map]
     exact List.length_filter_le _ _
   refine Sort_I q (by omega) fun w14 q => ?_
   rw [sort_up hup] at q
   exact hR out w14 q.d2.d3
set_option maxHeartbeats 4000000 in
theorem All_b (h : St w (DeskS k g cd D :: X)) (hH : Have D es) (hT : TabD es tg root L ps M) (hM : M ≤ 269) {R : Sl → Int → World → Prop}
   (hR : ∀ sl w', St w' (Row EE T.y_api_Entry sl L :: DeskS k g cd D :: X) → R sl 0 w') : F.bucket_All (some (blk k)) root w R := by
 apply E.bucket_All
 unfold V.bucket_All
 try simp -zeta only [ldC, soC, brC, bkA, slC, cnd_all, blk_add2, Nat.reduceAdd]
 have hle := hT.many
 have hbl := bktN_le L.length
 have hpn := hT.plen
 have hok : ∀ nb i, ∀ x ∈ bk L nb i, okE x := fun nb i x hx => hT.ok x (bk_sub x hx)
 have hbl2 : ∀ nb i, (bk L nb i).length ≤ 269 := fun nb i => Nat.le_trans (bk_len L _ _) (by omega)
 refine load_st h hH hT hM fun t p w1 q => ⟨fun h => absurd rfl h, fun _ => ?_⟩
 simp -zeta only [Option.some.injEq, exists_eq_left']
 obtain ⟨a0, a1, a2, a3, a4, a5, a6⟩ := TabS.cell q
 refine ⟨_, a4, ?_⟩
 rw [a5]
 show ∃ J m, _
 have hfm : ∀ m, ((List.range m).flatMap (bk L ps.length)).length ≤ m * 269 := fun m => by
   induction m with
   | zero => simp
   | succ m ih =>
     rw [List.range_succ, List.flatMap_append, List.length_append]
     have := hbl2 ps.length m
     simp only [List.flatMap_cons, List.flatMap_nil, List.append_nil]
     omega
 refine ⟨fun out n w' => ∃ (m : Nat) (kn : Kn) (rows : Rw), n = m ∧ m ≤ ps.length ∧ MemB es tg ps (bk L ps.length) kn (fun _ => none) ∧ St w' (Row EE T.y_api_Entry out ((List.range m).flatMap (bk L ps.length)) :: TabS t k m (rdU 0 root L.length ps p kn rows) :: DeskS k g cd D :: X), fun _ n _ => ((ps.length : Int) - n).toNat, ⟨0, _, _, rfl, Nat.zero_le _, hT.none, St.row0 q EE T.y_api_Entry⟩, ?_⟩
 rintro out _ w2 ⟨m, kn, rows, rfl, hm, M2, q⟩
 refine ⟨fun hlt => ?_, fun hge => ?_⟩
 · have hlt : m < ps.length := by first | omega | (have hlt : (m : Int) < ((ps.length : Nat) : Int) := hlt; omega)
   have hms : ((ps.length : Int) - ((m + 1 : Nat) : Int)).toNat < ((ps.length : Int) - (m : Int)).toNat := by omega
   refine bucket_st q.up2.up2 hH M2 hlt (hok _ _) (hbl2 _ _) (by omega) fun w3 kn3 rows3 l1 M3 hin _ q => ⟨fun h => absurd rfl h, fun _ => ?_⟩
   have hf := hfm m
   have hb := hbl2 ps.length m
   have q := q.up2
   refine appN_ey q (TabS.has q.drop hin).1 (TabS.has q.drop hin).2 (by omega) fun l2 w4 q => ?_
   rw [w64_succ (by omega)]
   refine ⟨⟨m + 1, kn3, rows3, rfl, hlt, M3, ?_⟩, hms⟩
   rw [List.range_succ, List.flatMap_append]
   simpa using q
 · have hmm : m = ps.length := by first | omega | (have hge : ¬ (m : Int) < ((ps.length : Nat) : Int) := hge; omega)
   subst hmm
   have hf := hfm ps.length
   refine Sort_ey q (by omega) fun w4 q => ?_
   have es : ((List.range ps.length).flatMap (bk L ps.length)).mergeSort leB = L := by
     by_cases h0 : ps.length = 0
     · have hL : L = [] := List.eq_nil_of_length_eq_zero (Decidable.byContradiction fun hne => bktN_pos hne (by omega))
       rw [h0, hL]; simp
     · exact msort_eq (bk_full hT.srt h0) hT.srt
   rw [es] at q
   exact hR out w4 q.d2
end
end Go.Proofs.YtgacpkgaogiocaaGreatDoor
