/- entries in cells; how they are compared; what may be; slots. -/
import Derived.Test.YtggachhkcmfijaaGreatDoorEa
import Derived.Test.YtggachhkcmfijaaGreatDoorBq
import Derived.Lib.Overlaps
set_option linter.unusedVariables false
namespace Go.Proofs.YtggachhkcmfijaaGreatDoor
open Go Go.Vc Go.RowKit Go.Lib
/-! ### Worlds that draw no less -/
section
variable {w : World} {L : List As} {cs : List Value} {t : TypeId}
theorem St.alD (h : St w L) {P : World → Prop} (hP : ∀ w', w'.drawn = w.drawn → St w' (Cs w.heap.size cs t :: L) → P w') : alC w (.cells ⟨cs⟩ t) P := hP _ rfl (h.new cs t)
theorem St.drD (h : St w L) {P : World → Prop} (hP : ∀ w', w.drawn ≤ w'.drawn → St w' L → P w') : drC w P := hP _ (Nat.le_succ _) h.drew
end
/-! ### Entries in cells -/
def EE : Enc Ey := ⟨fun x => [.int .i64 x.k, .string (tx x.s), .int .i64 x.a], 3, fun _ => rfl, fun _ u hu => by simp at hu; rcases hu with rfl | rfl | rfl <;> rfl⟩
theorem info_ey : ∃ i, Pg.info? T.y_api_Entry = some i ∧ i.zero = some (.agg #[.int .i64 0, .string sNil, .int .i64 0]) ∧ i.size = 3 ∧ i.bytes = 32 := by
 have h : (Pg.info? T.y_api_Entry).map (fun i => (i.zero, i.size, i.bytes)) = some (some (.agg #[.int .i64 0, .string sNil, .int .i64 0]), 3, 32) := by kernel_rfl
 obtain ⟨i, hi, h2⟩ := Option.map_eq_some_iff.1 h
 simp only [Prod.mk.injEq] at h2
 exact ⟨i, hi, h2⟩
theorem elt_ey : Elt Pg T.y_sl_api_Entry T.y_api_Entry 3 32 := by
 obtain ⟨i, hi, hz, h1, h2⟩ := info_ey
 exact ⟨by kernel_rfl, ⟨i, _, hi, hz, h1, h2, rfl⟩, by decide⟩
theorem Has.ey {w : World} {l : Sl} {xs : List Ey} (h : Has EE w l xs) {m : Nat} (hm : m < xs.length) : ∃ ad, l.a = some ad ∧ m < l.len ∧ w.cell? (ad.add (m * 3)) = some (.int .i64 xs[m].k) ∧ w.cell? ((ad.add (m * 3)).add 1) = some (.string (tx xs[m].s)) ∧ w.cell? ((ad.add (m * 3)).add 2) = some (.int .i64 xs[m].a) := by
 obtain ⟨ad, ha, hl, hc⟩ := h.at hm
 have h0 := hc 0 _ rfl
 rw [Vc.addr_add0] at h0
 exact ⟨ad, ha, hl, h0, hc 1 _ rfl, hc 2 _ rfl⟩
/-! ### Comparing -/
section
variable {w : World} {X : List As}
theorem nan_int {x : Int} {R : Bool → World → Prop} (hR : R false w) : F.cmp_isNaN_int x w R := by
 apply E.cmp_isNaN_int
 unfold V.cmp_isNaN_int
 try simp -zeta only [ldC, soC, brC, bkA, slC, cnd_all, blk_add2, Nat.reduceAdd]
 simpa using hR
theorem nan_str {x : ByteArray} {R : Bool → World → Prop} (hR : R false w) : F.cmp_isNaN_string x w R := by
 apply E.cmp_isNaN_string
 unfold V.cmp_isNaN_string
 try simp -zeta only [ldC, soC, brC, bkA, slC, cnd_all, blk_add2, Nat.reduceAdd]
 simpa [sEq] using hR
def ci (x y : Int) : Int := if x < y then -1 else if x = y then 0 else 1
def cs' (x y : Bs) : Int := if x < y then -1 else if x = y then 0 else 1
theorem cmp_int {x y : Int} {R : Int → World → Prop} (hR : R (ci x y) w) : F.cmp_Compare_int x y w R := by
 apply E.cmp_Compare_int
 unfold V.cmp_Compare_int
 try simp -zeta only [ldC, soC, brC, bkA, slC, cnd_all, blk_add2, Nat.reduceAdd]
 refine nan_int (nan_int ⟨fun h => (by cases h), fun _ => ⟨fun h => (by cases h), fun _ => ⟨fun h => ?_, fun h => ⟨fun h2 => ?_, fun h2 => ?_⟩⟩⟩⟩)
 · unfold ci at hR; rw [if_pos h] at hR; exact hR
 · unfold ci at hR; rw [if_neg h, if_neg (by omega)] at hR; exact hR
 · unfold ci at hR; rw [if_neg h, if_pos (by omega)] at hR; exact hR
theorem cmp_str {x y : Bs} {R : Int → World → Prop} (hR : R (cs' x y) w) : F.cmp_Compare_string (tx x) (tx y) w R := by
 apply E.cmp_Compare_string
 unfold V.cmp_Compare_string
 try simp -zeta only [ldC, soC, brC, bkA, slC, cnd_all, blk_add2, Nat.reduceAdd]
 simp only [tx_lt, bless]
 refine nan_str (nan_str ⟨fun h => (by cases h), fun _ => ⟨fun h => (by cases h), fun _ => ⟨fun h => ?_, fun h => ⟨fun h2 => ?_, fun h2 => ?_⟩⟩⟩⟩)
 · have h := of_decide_eq_true h
   unfold cs' at hR; rw [if_pos h] at hR; exact hR
 · have h := of_decide_eq_false h
   rw [decide_eq_false h] at h2
   have : ¬ x = y := by simpa using h2
   unfold cs' at hR; rw [if_neg h, if_neg this] at hR; exact hR
 · have h := of_decide_eq_false h
   rw [decide_eq_false h] at h2
   have : x = y := by simpa using h2
   unfold cs' at hR; rw [if_neg h, if_pos this] at hR; exact hR
theorem or_st (h : St w X) {sl : Sl} {a b : Int} (hx : Has EI w sl [a, b]) {R : Int → World → Prop} (hR : R (if a ≠ 0 then a else b) w) : F.cmp_Or_int sl w R := by
 apply E.cmp_Or_int
 unfold V.cmp_Or_int
 try simp -zeta only [ldC, soC, brC, bkA, slC, cnd_all, blk_add2, Nat.reduceAdd]
 have hl := hx.1
 simp only [List.length_cons, List.length_nil] at hl
 refine ⟨fun n w' => ∃ m : Nat, n = m ∧ m ≤ 2 ∧ w' = w ∧ (m = 1 → a = 0) ∧ (m = 2 → a = 0 ∧ b = 0), fun n _ => (2 - n).toNat, ⟨0, rfl, by omega, rfl, by omega, by omega⟩, ?_⟩
 rintro _ _ ⟨m, rfl, hm, rfl, h1, h2⟩
 refine ⟨fun hlt => ?_, fun hge => ?_⟩
 · have hlt : m < 2 := by omega
   obtain ⟨ad, ha, hb, c0⟩ := Has.int hx (m := m) (by simpa using hlt)
   refine ⟨ad, ha, by omega, by omega, _, by simpa using c0, ?_⟩
   obtain rfl | rfl : m = 0 ∨ m = 1 := by omega
   · refine ⟨fun ht => ?_, fun hf => ⟨⟨1, by decide, by omega, rfl, fun _ => by simpa using hf, by omega⟩, (by show ((2 : Int) - w64 (((0 : Nat) : Int) + 1)).toNat < ((2 : Int) - ((0 : Nat) : Int)).toNat; decide)⟩⟩
     have ht : a ≠ 0 := by simpa using ht
     rw [if_pos ht] at hR; exact hR
   · have h0 := h1 rfl
     rw [if_neg (by simpa using h0)] at hR
     refine ⟨fun ht => hR, fun hf => ⟨⟨2, by decide, by omega, rfl, by omega, fun _ => ⟨h0, by simpa using hf⟩⟩, (by show ((2 : Int) - w64 (((1 : Nat) : Int) + 1)).toNat < ((2 : Int) - ((1 : Nat) : Int)).toNat; decide)⟩⟩
 · have hmm : m = 2 := by omega
   obtain ⟨e1, e2⟩ := h2 hmm
   rw [if_neg (by simpa using e1), e2] at hR
   exact hR
theorem mcompare_st (h : St w X) {a b : Int} {s u : Bs} {R : Int → World → Prop} (hR : ∀ w', w.drawn ≤ w'.drawn → St w' X → R (if ci a b ≠ 0 then ci a b else cs' s u) w') : F.mark_Compare a (tx s) b (tx u) w R := by
 apply E.mark_Compare
 unfold V.mark_Compare
 try simp -zeta only [ldC, soC, brC, bkA, slC, cnd_all, blk_add2, Nat.reduceAdd]
 refine St.alD h fun w1 d1 h1 => St.alD h1 fun w2 d2 h2 => St.drD h2 fun w3 d3 h3 => ?_
 refine ⟨_, h3.sw.cell0, _, h3.cell0, _, h3.sw.cell 1, _, h3.cell 1, cmp_int ⟨h3.cell 1, h3.sw.cell 1, cmp_str ?_⟩⟩
 refine St.alD h3 fun w4 d4 h4 => or_st h4 (h4.lit (En := EI) (xs := [_, _]) rfl rfl 2) (hR w4 (by omega) h4.drop.drop.drop)
theorem cfE_eqc (x y : Ey) : (if (if ci x.k y.k ≠ 0 then ci x.k y.k else cs' x.s y.s) ≠ 0 then (if ci x.k y.k ≠ 0 then ci x.k y.k else cs' x.s y.s) else ci x.a y.a) = cfE x y := by
 have he : x = y ↔ x.k = y.k ∧ x.s = y.s ∧ x.a = y.a := by cases x; cases y; simp
 unfold cfE ci cs' ltE
 rcases Int.lt_trichotomy x.k y.k with h | h | h
 · simp [h]
 · rcases bs_total x.s y.s with h2 | h2 | h2
   · simp [h, h2]
   · have h3 : ¬ y.s < y.s := bs_irrefl _
     rcases Int.lt_trichotomy x.a y.a with h4 | h4 | h4
     · simp [h, h2, h3, h4]
     · simp [h, h2, h3, h4, he]
     · have : ¬ x.a < y.a := by omega
       have h5 : ¬ x.a = y.a := by omega
       simp [h, h2, h3, h5, he, this]
   · have h3 : ¬ x.s < y.s := fun k => bs_irrefl _ (bs_trans k h2)
     have h4 : ¬ x.s = y.s := fun e => bs_irrefl y.s (by rw [e] at h2; exact h2)
     simp [h, h3, h4, he]
 · have h1 : ¬ x.k < y.k := by omega
   have h2 : ¬ x.k = y.k := by omega
   simp [h1, h2, he]
theorem compare_st (h : St w X) {x y : Ey} {R : Int → World → Prop} (hR : ∀ w', w.drawn ≤ w'.drawn → St w' X → R (cfE x y) w') : F.tree_compare x.k (tx x.s) x.a y.k (tx y.s) y.a w R := by
 apply E.tree_compare
 unfold V.tree_compare
 try simp -zeta only [ldC, soC, brC, bkA, slC, cnd_all, blk_add2, Nat.reduceAdd]
 refine St.alD h fun w1 d1 h1 => St.alD h1 fun w2 d2 h2 => St.drD h2 fun w3 d3 h3 => ?_
 refine ⟨_, h3.sw.cell0, _, h3.sw.cell 1, _, h3.cell0, _, h3.cell 1, _, h3.sw.cell 2, _, h3.cell 2, mcompare_st h3 fun w4 d4 h4 => ⟨h4.cell 2, h4.sw.cell 2, cmp_int ?_⟩⟩
 refine St.alD h4 fun w5 d5 h5 => or_st h5 (h5.lit (En := EI) (xs := [_, _]) rfl rfl 2) ?_
 rw [cfE_eqc]
 exact hR w5 (by omega) h5.drop.drop.drop
/-! ### What may be -/
theorem Size_any {k : Int} {R : Int → World → Prop} (hR : R (szN k.toNat : Int) w) (hk : k < 0 → szN k.toNat = 0) : F.mark_Size k w R := by
 by_cases h : 0 ≤ k
 · obtain ⟨n, rfl⟩ : ∃ n : Nat, k = n := ⟨k.toNat, by omega⟩
   exact Size_mark (by simpa using hR)
 · have h0 := hk (by omega)
   rw [h0] at hR
   apply E.mark_Size
   unfold V.mark_Size
   try simp -zeta only [ldC, soC, brC, bkA, slC, cnd_all, blk_add2, Nat.reduceAdd]
   refine ⟨fun e => absurd e (by omega), fun _ => ⟨fun e => absurd e (by omega), fun _ => hR⟩⟩
theorem szN_neg {k : Int} (h : k < 0) : szN k.toNat = 0 := by
 have : k.toNat = 0 := by omega
 rw [this]; rfl
theorem Valid_any (h : St w X) {k : Int} {s : Bs} {R : Bool → World → Prop} (hR : ∀ w', St w' X → R (decide (0 < szN k.toNat ∧ s.length = szN k.toNat)) w') : F.mark_Valid k (tx s) w R := by
 apply E.mark_Valid
 unfold V.mark_Valid
 try simp -zeta only [ldC, soC, brC, bkA, slC, cnd_all, blk_add2, Nat.reduceAdd]
 refine St.al h fun wa1 h => ?_
 refine St.dr h fun wa2 h => ?_
 refine ⟨_, h.cell0, Size_any ⟨fun hp => ⟨_, h.cell 1, _, h.cell0, Size_any ⟨h.cell 1, ?_⟩ szN_neg⟩, fun hn => ?_⟩ szN_neg⟩
 · have := hR _ h.drop
   have e : (((tx s).size : Int) == (szN k.toNat : Int)) = decide (0 < szN k.toNat ∧ s.length = szN k.toNat) := by
     rw [tx_size, Bool.eq_iff_iff, beq_iff_eq, decide_eq_true_eq]
     constructor
     · intro h; exact ⟨by omega, by omega⟩
     · intro h; omega
   rw [e]; exact this
 · have := hR _ h.drop
   rw [decide_eq_false (by omega)] at this
   exact this
theorem okE_iff (x : Ey) : okE x ↔ (0 < szN x.k.toNat ∧ x.s.length = szN x.k.toNat) ∧ 1 ≤ x.a ∧ x.a < 2000 := by
 unfold okE
 rw [szN_pos]
 constructor
 · rintro ⟨h, h2, h3⟩; exact ⟨⟨by omega, h2⟩, h3⟩
 · rintro ⟨⟨h, h2⟩, h3⟩; exact ⟨by omega, h2, h3⟩
theorem valid_st (h : St w X) {x : Ey} {R : Bool → World → Prop} (hR : ∀ w', St w' X → R (decide (okE x)) w') : F.tree_valid x.k (tx x.s) x.a w R := by
 apply E.tree_valid
 unfold V.tree_valid
 try simp -zeta only [ldC, soC, brC, bkA, slC, cnd_all, blk_add2, Nat.reduceAdd]
 refine St.al h fun wa1 h => ?_
 refine ⟨_, h.cell0, _, h.cell 1, Valid_any h fun w1 h1 => ?_⟩
 have hr := hR w1 h1.drop
 refine ⟨fun ht => ⟨_, h1.cell 2, fun ha => ⟨_, h1.cell 2, ?_⟩, fun ha => ?_⟩, fun hf => ?_⟩
 · have e : decide (x.a < 2000) = decide (okE x) := by rw [decide_eq_decide, okE_iff]; exact ⟨fun h => ⟨of_decide_eq_true ht, ha, h⟩, fun h => h.2.2⟩
   rw [e]; exact hr
 · rw [decide_eq_false (fun h => ha ((okE_iff x).1 h).2.1)] at hr; exact hr
 · rw [decide_eq_false (fun h => (of_decide_eq_false hf) ((okE_iff x).1 h).1)] at hr; exact hr
/-! ### Slots -/
end
end Go.Proofs.YtggachhkcmfijaaGreatDoor

/- slices of entries: Index, Contains, Clone, BinarySearchFunc, Insert, Delete. -/
set_option linter.unusedVariables false
namespace Go.Proofs.YtggachhkcmfijaaGreatDoor
open Go Go.Vc Go.RowKit Go.Lib
theorem EE_len (xs : List Ey) : (EE.all xs).length = xs.length * 3 := EE.all_len xs
theorem EE_take (xs : List Ey) (i : Nat) : (EE.all xs).take (i * 3) = EE.all (xs.take i) := by
 rcases Nat.le_total i xs.length with h | h
 · have e : EE.all xs = EE.all (xs.take i) ++ EE.all (xs.drop i) := by rw [← EE.all_app, List.take_append_drop]
   have hl : (EE.all (xs.take i)).length = i * 3 := by rw [EE_len, List.length_take, Nat.min_eq_left h]
   rw [e, ← hl, List.take_left]
 · rw [List.take_of_length_le (by rw [EE_len]; omega), List.take_of_length_le h]
theorem EE_drop (xs : List Ey) (i : Nat) : (EE.all xs).drop (i * 3) = EE.all (xs.drop i) := by
 rcases Nat.le_total i xs.length with h | h
 · have e : EE.all xs = EE.all (xs.take i) ++ EE.all (xs.drop i) := by rw [← EE.all_app, List.take_append_drop]
   have hl : (EE.all (xs.take i)).length = i * 3 := by rw [EE_len, List.length_take, Nat.min_eq_left h]
   rw [e, ← hl, List.drop_left]
 · rw [List.drop_of_length_le (by rw [EE_len]; omega), List.drop_of_length_le h]; rfl
theorem Own.at {w : World} {t : TypeId} {n : Nat} {sl : Sl} {xs : List Value} (h : Own w t n sl xs) {a : Addr} (ha : sl.a = some a) {j : Nat} {u : Value} (hu : xs[j]? = some u) : w.cell? (a.add j) = some u := by
 obtain ⟨a', ha', hc⟩ := Own.cell h hu
 rw [ha] at ha'
 injection ha' with e
 rw [e]; exact hc
/-- one entry is put into a slice of one's own -/
theorem Insert_own {w : World} {s : Sl} {xs : List Ey} (hO : Own w T.y_api_Entry 3 s (EE.all xs)) (hb : xs.length ≤ 1000000000) {h : Nat} {x : Ey}
   (hh : w.heap[h]? = some (.cells ⟨EE.all [x]⟩ T.y_api_Entry (0, 0))) (hsep : ¬ s.bk h) {i : Nat} (hi : i ≤ xs.length) {R : Sl → World → Prop}
   (hR : ∀ l w', Own w' T.y_api_Entry 3 l (EE.all (xs.take i ++ [x] ++ xs.drop i)) → Fr s.bk w w' → Moved w s l → R l w') : F.slices_Insert_sl_api_Entry_api_Entry s i ⟨some (blk h), 1, 1⟩ w R := by
 have und := elt_ey.und
 obtain ⟨inf, z, hinf, hz, hs1, hby, hzc⟩ := elt_ey.info
 apply E.slices_Insert_sl_api_Entry_api_Entry
 unfold V.slices_Insert_sl_api_Entry_api_Entry
 try simp -zeta only [ldC, soC, brC, bkA, slC, stC, alC, drC]
 have hlen : s.len = xs.length := by have := hO.len; rw [EE_len] at this; omega
 have hx2 : (EE.all [x]).length = 3 := by rw [EE_len]; rfl
 have hsrc : ∀ j u, (EE.all [x])[j]? = some u → w.cell? ((blk h).add j) = some u := fun j u hu => by rw [blk_cell hh]; exact hu
 refine ⟨by omega, by rw [hlen]; omega, fun h0 => by simp at h0, fun _ => ⟨fun heq => ?_, fun hne => ?_⟩⟩
 · have heq : i = xs.length := by simp at heq; omega
   subst heq
   refine runT_append und hinf hz hs1 hby hzc (by decide) hO (m := 1) (news := EE.all [x]) hx2 hsrc (EE.all_one _) (by simp only [maxLen]; omega) (by omega) fun l2 w2 ho hl hf hm => ?_
   refine hR l2 w2 ?_ hf hm
   rw [List.take_length, List.drop_length, List.append_nil, EE.all_app]; exact ho
 have hlt : i < xs.length := by simp at hne; omega
 have e1 : w64 ((xs.length : Int) + ((1 : Nat) : Int)) = ((xs.length + 1 : Nat) : Int) := by rw [w64_id (by omega) (by omega)]; omega
 have e2 : w64 ((i : Int) + ((1 : Nat) : Int)) = ((i + 1 : Nat) : Int) := by rw [w64_id (by omega) (by omega)]; omega
 have e3 : w64 (((xs.length + 1 : Nat) : Int) - (i : Int)) = ((xs.length + 1 - i : Nat) : Int) := by rw [w64_id (by omega) (by omega)]; omega
 have hn0 : s.len ≠ 0 := by omega
 obtain ⟨g, cur, ha, hg, hcl, htk, hlc, hcm⟩ := Own.row hO hn0
 simp only [e1, e2, e3, slA0, hlen, Int.toNat_natCast]
 refine ⟨fun hbig => ?_, fun hroom => ?_⟩
 · have hbig : s.cap < xs.length + 1 := by have := of_decide_eq_true hbig; omega
   refine ⟨by omega, by omega, ?_⟩
   have hpre := Own.pre hO (i := i) (by omega) hn0
   rw [EE_take] at hpre
   refine runT_append_zeros (l := ⟨s.a, i, s.cap⟩) und und_int hinf hz hs1 hby hzc (by decide) (by decide) hpre (m := xs.length + 1 - i) (by omega) (by show (i + (xs.length + 1 - i)) * 32 ≤ _; omega) (by show s.cap < i + (xs.length + 1 - i); omega) fun cap' w1 hO1 hF1 hsz1 => ?_
   have hln : i + (xs.length + 1 - i) = xs.length + 1 := by omega
   simp only [hln] at hO1 ⊢
   obtain ⟨g1, cur1, ha1, hg1, hcl1, htk1, hlc1, hcm1⟩ := Own.row hO1 (by show xs.length + 1 ≠ 0; omega)
   simp only [Option.some.injEq, Addr.mk.injEq] at ha1
   have hgg : g1 = w.heap.size := by have := congrArg Addr.block (show blk w.heap.size = blk g1 by simpa using ha1); exact this.symm
   subst hgg
   simp only at hcl1 htk1 hlc1 hcm1
   have hgw := heap_lt hg
   have hA1 : cur1.take (i * 3) = EE.all (xs.take i) := by
     have h3 : (cur1.take ((xs.length + 1) * 3)).take (i * 3) = EE.all (xs.take i) := by
       rw [htk1, List.take_append_of_le_length (by rw [EE_len, List.length_take]; omega)]
       exact List.take_of_length_le (by rw [EE_len, List.length_take]; omega)
     rwa [List.take_take, Nat.min_eq_left (by omega)] at h3
   have hsrc1 : ∀ j u, (EE.all [x])[j]? = some u → w1.cell? ((blk h).add j) = some u := fun j u hu => by rw [blk_cell (hF1.heap hh id)]; exact hu
   rw [slA_ne (by omega)]
   refine ⟨by omega, by omega, ?_⟩
   refine runT_copy und hinf hs1 hg1 (cs := EE.all [x]) (by rw [hx2, show Nat.min 1 (xs.length + 1 - i) = 1 from Nat.min_eq_left (by omega)]) hsrc1 (by rw [hx2, hcl1]; omega) (EE.all_one _) fun w2 hg2 hF2 hs2 => ?_
   have hg3 : w2.drew.heap[w.heap.size]? = _ := hg2
   have hF3 : Fr (· = w.heap.size) w1 w2.drew := hF2.trans (Fr.drew _ w2) (fun _ _ h => h)
   generalize w2.drew = w3 at hg3 hF3 ⊢
   have hO3 : Own w3 T.y_api_Entry 3 s (EE.all xs) := (hO.keep hF1 (fun _ _ => id)).keep hF3 (fun k hk hh' => by have := hO.lt hk; have h5 : k = w.heap.size := hh'; omega)
   have hsrc3 : ∀ j u, (EE.all (xs.drop i))[j]? = some u → w3.cell? ((⟨g, i * 3, none⟩ : Addr).add j) = some u := fun j u hu => by
     rw [← add_blk, add_add]
     refine Own.at hO3 ha (j := i * 3 + j) ?_
     rw [← hu, ← EE_drop, List.getElem?_drop]
   have hdl : (EE.all (xs.drop i)).length = (xs.length - i) * 3 := by rw [EE_len, List.length_drop]
   refine ⟨by omega, by omega, by omega, by omega, ?_⟩
   rw [ha, slA_ne (by omega), slA_ne (by omega)]
   refine runT_copy und hinf hs1 hg3 (cs := EE.all (xs.drop i)) (by rw [hdl, show Nat.min (xs.length - i) (xs.length + 1 - (i + 1)) = xs.length - i from Nat.min_eq_left (by omega)]) hsrc3 (by simp only [List.length_append, List.length_take, List.length_drop, hx2, hdl, hcl1]; omega) (EE.all_one _) fun w4 hg4 hF4 hs4 => ?_
   obtain ⟨q1, q2⟩ := ins_up (cur := cur1) (A := EE.all (xs.take i)) (X := EE.all [x]) (D := EE.all (xs.drop i)) (i := i * 3) (x := 3) (d := (xs.length - i) * 3) hA1 (by rw [EE_len, List.length_take]; omega) hx2 hdl (by rw [hcl1]; omega)
   have ei : (i + 1) * 3 = i * 3 + 3 := by omega
   rw [ei] at hg4
   refine hR _ w4 ?_ ?_ (.inr ⟨_, rfl, Nat.le_refl _⟩)
   · have h6 := Own.of (n := xs.length + 1) (cap := cap') hg4 (by rw [q2, hcl1]) hlc1 hcm1
     rw [show (xs.length + 1) * 3 = i * 3 + 3 + (xs.length - i) * 3 by omega, q1] at h6
     rw [EE.all_app, EE.all_app]
     exact h6
   · refine ((hF1.mono (S' := s.bk) (fun _ _ h => h.elim)).trans (S := s.bk) (hF3.trans (S := (· = w.heap.size)) hF4 (fun _ _ h => h)) (fun k hk h' => ?_))
     have h5 : k = w.heap.size := h'
     omega
 · have hroom : xs.length + 1 ≤ s.cap := by have := of_decide_eq_false hroom; omega
   have hbk : s.bk g := ⟨blk g, ha, rfl⟩
   have hgh : h ≠ g := fun hh' => hsep (hh' ▸ hbk)
   have hdl : (EE.all (xs.drop i)).length = (xs.length - i) * 3 := by rw [EE_len, List.length_drop]
   have hA1 : cur.take (i * 3) = EE.all (xs.take i) := by
     have h3 : (cur.take (s.len * 3)).take (i * 3) = EE.all (xs.take i) := by rw [htk, EE_take]
     rwa [List.take_take, Nat.min_eq_left (by omega)] at h3
   have hov : (callFunc 200 #[.slice (some (blk h)) 1 1, .slice (slA s.a s.cap (i + 1) 3) (xs.length + 1 - (i + 1)) (s.cap - (i + 1))]).run Pg w = .ok (.value (.bool false)) w := by
     rw [run_callFunc_extern (fn := Tryz.f200) Tryz.func200 (by kernel_rfl) (by kernel_rfl) (by kernel_rfl) (e := Extern.SlicesOverlaps.overlaps #[T.y_sl_api_Entry, T.y_sl_api_Entry] #[T.y_bool]) (by kernel_rfl)]
     rw [ha, slA_ne (by omega)]
     rw [run_overlaps_apart w T.y_sl_api_Entry T.y_bool T.y_api_Entry und 3 (fun w => by simp [sizeOf, typeInfo, hinf, hs1]) (blk h) ⟨g, (i + 1) * 3, none⟩ 1 1 _ _ hgh T.y_api_Entry T.y_api_Entry 3 (s.cap * 3) ?_ ?_ (by omega) ?_ ?_]
     · rfl
     · simp [World.shape?, hh, hx2]
     · simp [World.shape?, hg, hcl]
     · exact frozen_of_row w h 0 _ _ hh
     · exact frozen_of_row w h 3 _ _ hh
   refine ⟨by omega, by omega, by omega, by omega, false, w, hov, fun _ => ?_, fun h' => by cases h'⟩
   have hF1 : Fr no w w.drew := Fr.drew no w
   generalize w.drew = w1 at hF1 ⊢
   have hg1 := hF1.heap hg id
   have hO1 := hO.keep hF1 (fun _ _ => id)
   have hh1 := hF1.heap hh id
   refine ⟨by omega, by omega, by omega, by omega, ?_⟩
   rw [ha, slA_ne (by omega), slA_ne (by omega)]
   have hsrc1 : ∀ j u, (EE.all (xs.drop i))[j]? = some u → w1.cell? ((⟨g, i * 3, none⟩ : Addr).add j) = some u := fun j u hu => by
     rw [← add_blk, add_add]
     refine Own.at hO1 ha (j := i * 3 + j) ?_
     rw [← hu, ← EE_drop, List.getElem?_drop]
   refine runT_copy und hinf hs1 hg1 (cs := EE.all (xs.drop i)) (by rw [hdl, show Nat.min (xs.length + 1 - i) (xs.length + 1 - (i + 1)) = xs.length - i from (Nat.min_eq_right (by omega)).trans (by omega)]) hsrc1 (by rw [hdl, hcl]; omega) (EE.all_one _) fun w2 hg2 hF2 hs2 => ?_
   have hh2 := hF2.heap hh1 (fun h' => hgh h')
   have hsrc2 : ∀ j u, (EE.all [x])[j]? = some u → w2.cell? ((blk h).add j) = some u := fun j u hu => by rw [blk_cell hh2]; exact hu
   refine ⟨by omega, by omega, ?_⟩
   refine runT_copy und hinf hs1 hg2 (cs := EE.all [x]) (by rw [hx2, show Nat.min 1 (xs.length + 1 - i) = 1 from Nat.min_eq_left (by omega)]) hsrc2 (by simp only [List.length_append, List.length_take, List.length_drop, hx2, hdl, hcl]; omega) (EE.all_one _) fun w3 hg3 hF3 hs3 => ?_
   have ei : (i + 1) * 3 = i * 3 + 3 := by omega
   rw [ei] at hg3
   obtain ⟨q1, q2⟩ := ins_at (cur := cur) (A := EE.all (xs.take i)) (X := EE.all [x]) (D := EE.all (xs.drop i)) (i := i * 3) (x := 3) (d := (xs.length - i) * 3) hA1 (by rw [EE_len, List.length_take]; omega) hx2 hdl (by rw [hcl]; omega)
   refine hR _ w3 ?_ ?_ (.inl ha.symm)
   · have h6 := Own.of (n := xs.length + 1) (cap := s.cap) hg3 (by rw [q2, hcl]) hroom hcm
     rw [show (xs.length + 1) * 3 = i * 3 + 3 + (xs.length - i) * 3 by omega, q1] at h6
     rw [EE.all_app, EE.all_app]
     exact h6
   · exact (hF1.mono (S' := s.bk) (fun _ _ h => h.elim)).trans (S := s.bk) (hF2.trans (S := (· = g)) hF3 (fun _ _ h => h)) (fun k _ h' => by have h5 : k = g := h'; rw [h5]; exact hbk)
section
variable {w : World} {X : List As}
theorem St.rows {s l : Sl} {xs ys : List Ey} {w' : World} (h : St w (Row EE T.y_api_Entry s xs :: X)) (ho : Own w' T.y_api_Entry 3 l (EE.all ys)) (hf : Fr s.bk w w') (hm : Moved w s l) : St w' (Row EE T.y_api_Entry l ys :: X) := by
 obtain ⟨S, ⟨hO, e⟩, _, hX⟩ := h.out
 subst e
 refine hX (A' := Row EE T.y_api_Entry l ys) ⟨ho, rfl⟩ hf fun k hk => ?_
 obtain ⟨a, ha, hb⟩ := hk
 rcases hm with e | ⟨g, e, hg⟩
 · exact .inl ⟨a, by rw [← e]; exact ha, hb⟩
 · rw [e] at ha
   injection ha with ha
   subst ha; subst hb
   exact .inr hg
theorem Insert_st {g : Nat} {x : Ey} {s : Sl} {xs : List Ey} (h : St w (Cs g (EE.all [x]) T.y_api_Entry :: Row EE T.y_api_Entry s xs :: X)) (hb : xs.length ≤ 1000000000) {i : Nat} (hi : i ≤ xs.length) {R : Sl → World → Prop}
   (hR : ∀ l w', St w' (Row EE T.y_api_Entry l (xs.take i ++ [x] ++ xs.drop i) :: X) → R l w') : F.slices_Insert_sl_api_Entry_api_Entry s i ⟨some (blk g), 1, 1⟩ w R := by
 obtain ⟨a, b, ⟨_, e1⟩, ⟨_, e2⟩, hd⟩ := St.two h
 refine Insert_own (St.own h.sw) hb (St.bl h) (fun hk => ?_) hi fun l w' ho hf hm => hR l w' ((St.rows h.sw ho hf hm).d2)
 subst e1; subst e2
 exact hd g rfl hk
end
end Go.Proofs.YtggachhkcmfijaaGreatDoor
