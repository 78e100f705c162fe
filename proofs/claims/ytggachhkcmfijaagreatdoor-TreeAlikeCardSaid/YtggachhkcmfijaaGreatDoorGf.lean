/- The document's SHA-1: the walk. -/
import Derived.Test.YtggachhkcmfijaaGreatDoorCy
set_option linter.unusedVariables false
namespace Go.Proofs.YtggachhkcmfijaaGreatDoor
open Go Go.Vc Go.RowKit Go.Lib
def E32 : Enc Int := ⟨fun x => [.int .u32 x], 1, fun _ => rfl, fun _ u hu => by simp at hu; subst hu; rfl⟩
theorem elt_u32 : Elt Pg T.y_sl_uint32 T.y_uint32 1 4 := ⟨by kernel_rfl, by
 have h : (Pg.info? T.y_uint32).map (fun i => (i.zero, i.size, i.bytes)) = some (some (.int .u32 0), 1, 4) := by kernel_rfl
 obtain ⟨i, hi, h2⟩ := Option.map_eq_some_iff.1 h
 simp only [Prod.mk.injEq] at h2
 exact ⟨i, _, hi, h2.1, h2.2.1, h2.2.2, rfl⟩, by decide⟩
/-- the first words -/
def wl (f : Nat → Int) (t : Nat) : List Int := (List.range t).map f
theorem wl_len (f : Nat → Int) (t : Nat) : (wl f t).length = t := by simp [wl]
theorem wl_succ (f : Nat → Int) (t : Nat) : wl f (t + 1) = wl f t ++ [f t] := by simp [wl, List.range_succ]
theorem wl_get (f : Nat → Int) {t j : Nat} (h : j < t) : (wl f t)[j]? = some (f j) := by simp [wl, h]
section
variable {w : World} {X : List As}
theorem Has.u32 {l : Sl} {xs : List Int} (h : Has E32 w l xs) {a : Addr} (ha : l.a = some a) {j : Nat} {x : Int} (hj : xs[j]? = some x) : w.cell? (a.add (j * 1)) = some (.int .u32 x) := by
 obtain ⟨a', ha', hc⟩ := h.2 j x hj
 rw [ha] at ha'
 injection ha' with ha'
 subst ha'
 exact hc 0 _ rfl
theorem turn_st (h : St w X) {x n : Int} (h1 : w64 (32 - n) = 32 - n) (h2 : 0 ≤ n ∧ n ≤ 32) {R : Int → World → Prop} (hR : ∀ w', St w' X → R (rot x n) w') : F.masonryref1_turn x n w R := by
 apply E.masonryref1_turn
 unfold V.masonryref1_turn
 try simp -zeta only [ldC, soC, brC, bkA, slC, stC, alC, drC]
 intro w1
 have h1' : St w1 X := h.drew
 clear_value w1
 rw [h1]
 exact ⟨h2.1, by omega, hR w1 h1'⟩
theorem part_take (p : Bs) (o : Nat) : ∀ j, j ≤ 4 → partN ((p.drop o).take 4) 0 j = partN p o j
 | 0, _ => rfl
 | j + 1, h => by
   show partN _ 0 j * 256 + _ = partN _ _ j * 256 + _
   rw [part_take p o j (by omega)]
   have : ((p.drop o).take 4).getD (0 + j) 0 = p.getD (o + j) 0 := by
     simp only [List.getD_eq_getElem?_getD, List.getElem?_take, List.getElem?_drop]
     rw [if_pos (by omega), Nat.zero_add]
   rw [this]
theorem word_st (h : St w X) {q : Bs} (hq : 4 ≤ q.length) {R : Int → World → Prop} (hR : ∀ w', St w' X → R ((partN q 0 4 : Nat) : Int) w') : F.masonryref1_word (tx q) w R := by
 apply E.masonryref1_word
 unfold V.masonryref1_word
 try simp -zeta only [ldC, soC, brC, bkA, slC, stC, alC, drC]
 intro w1
 have h1 : St w1 X := h.drew
 clear_value w1
 have hs := tx_size q
 refine ⟨by decide, by omega, by decide, by decide, by omega, by decide, by decide, by omega, by decide, by decide, by omega, ?_⟩
 have e0 : sAt (tx q) (0 : Int) = ((q.getD 0 0).toNat : Int) := tx_at q 0
 have e1 : sAt (tx q) (1 : Int) = ((q.getD 1 0).toNat : Int) := tx_at q 1
 have e2 : sAt (tx q) (2 : Int) = ((q.getD 2 0).toNat : Int) := tx_at q 2
 have e3 : sAt (tx q) (3 : Int) = ((q.getD 3 0).toNat : Int) := tx_at q 3
 rw [e0, e1, e2, e3, or_four (q.getD 0 0).toNat_lt (q.getD 1 0).toNat_lt (q.getD 2 0).toNat_lt (q.getD 3 0).toNat_lt]
 have e : partN q 0 4 = (((q.getD 0 0).toNat * 256 + (q.getD 1 0).toNat) * 256 + (q.getD 2 0).toNat) * 256 + (q.getD 3 0).toNat := by simp [partN]
 rw [e] at hR
 exact hR w1 h1
theorem High_st (h : St w X) {v : Int} {n : Nat} (hn : n ≤ 1000) {R : ByteArray → World → Prop} (hR : ∀ w', St w' X → R (tx (highB v n)) w') : F.masonryref1_High v (n : Int) w R := by
 apply E.masonryref1_High
 unfold V.masonryref1_High
 try simp -zeta only [ldC, soC, brC, bkA, slC, stC, alC, drC]
 try simp (config := { zeta := false }) only [cnd_all, Nat.reduceAdd]
 refine ⟨fun b i w' => ∃ m : Nat, i = (n : Int) - 1 - m ∧ m ≤ n ∧ St w' (Row EB T.y_uint8 b ((highB v n).take m) :: X), fun _ i _ => (i + 1).toNat, ⟨0, by rw [w64_id (by omega) (by omega)]; omega, Nat.zero_le _, h.row0 EB T.y_uint8⟩, ?_⟩
 rintro b i w1 ⟨m, rfl, hm, h1⟩
 refine ⟨fun hlt => ?_, fun hge => ?_⟩
 · have hlt : m < n := by omega
   have e1 : w64 ((8 : Int) * ((n : Int) - 1 - m)) = ((8 * (n - 1 - m) : Nat) : Int) := by rw [w64_id (by omega) (by omega)]; omega
   have e2 : w64 ((n : Int) - 1 - m - 1) = (n : Int) - 1 - ((m + 1 : Nat) : Int) := by rw [w64_id (by omega) (by omega)]; omega
   rw [e1]
   refine ⟨by omega, ?_⟩
   intro wa1
   replace h1 : St wa1 (Cs _ _ _ :: _) := h1.new _ _
   clear_value wa1
   have hl := highB_len v n
   have hml : m < (highB v n).length := by omega
   have hb : (highB v n)[m] = byteO (shr .u64 v ((8 * (n - 1 - m) : Nat) : Int)) := by simp [highB]
   refine St.app elt_byte h1.sw (sl := ⟨some (blk _), 1, 1⟩) (ys := [(highB v n)[m]]) (h1.lit (En := EB) (xs := [(highB v n)[m]]) rfl (by rw [EB_all]; show _ = [Value.int .u8 (((highB v n)[m]).toNat : Int)]; rw [hb, byteO_val]) 1) rfl (by simp only [List.length_take, List.length_singleton]; omega) (by simp only [List.length_take, List.length_singleton]; omega) fun l' w2 h2 _ => ?_
   rw [e2]
   refine ⟨⟨m + 1, rfl, hlt, ?_⟩, (by first | omega | (dsimp only; omega))⟩
   rw [List.take_succ_eq_append_getElem hml]
   exact h2.d2
 · have hmm : m = n := by omega
   subst hmm
   have : (highB v m).take m = highB v m := List.take_of_length_le (by rw [highB_len]; exact Nat.le_refl _)
   rw [this] at h1
   exact St.strB rfl h1 (hR _ h1.drop)
theorem PadR_st (h : St w X) {n : Nat} (hn : n ≤ 1099511627776) {R : ByteArray → World → Prop} (hR : ∀ w', St w' X → R (tx (padB n)) w') : F.masonryref1_Pad (n : Int) w R := by
 apply E.masonryref1_Pad
 unfold V.masonryref1_Pad
 try simp -zeta only [ldC, soC, brC, bkA, slC, stC, alC, drC]
 try simp (config := { zeta := false }) only [cnd_all, Nat.reduceAdd]
 refine ⟨fun hh => by omega, fun _ => ⟨fun hh => by omega, fun _ => ⟨by decide, by decide, ?_⟩⟩⟩
 rw [pad_n n hn]
 refine Zeros_st h (by omega) fun w1 h1 => ⟨by rw [tx_size, List.length_replicate]; have : str_x_.size = 1 := rfl; omega, ?_⟩
 have e8 : wr .u64 (w64 ((8 : Int) * (n : Int))) = ((8 * n : Nat) : Int) := by
   rw [w64_id (x := 8 * (n : Int)) (by omega) (by omega), wr64_id (by omega) (by omega)]; omega
 rw [e8]
 have ex : str_x_ ++ tx (List.replicate ((119 - n % 64) % 64) 0) = tx ([128] ++ List.replicate ((119 - n % 64) % 64) 0) := tx_app [128] _
 rw [ex]
 refine High_st (n := 8) h1 (by decide) fun w2 h2 => ⟨by simp only [tx_size, List.length_append, List.length_replicate, highB_len]; simp; omega, ?_⟩
 rw [tx_app]
 exact hR w2 h2
set_option maxHeartbeats 4000000 in
theorem RefOne_st (h : St w X) {s : Bs} (hs : s.length ≤ 1000000000) {R : ByteArray → World → Prop} (hR : ∀ w', St w' X → R (tx (sha1 s)) w') : F.masonryref1_ShaOne (tx s) w R := by
 apply E.masonryref1_ShaOne
 unfold V.masonryref1_ShaOne
 try simp -zeta only [ldC, soC, brC, bkA, slC, stC, alC, drC]
 try simp (config := { zeta := false }) only [cnd_all, Nat.reduceAdd]
 intro wa1
 replace h : St wa1 (Cs _ _ _ :: _) := h.new _ _
 clear_value wa1
 generalize w.heap.size = g0 at *
 refine PadR_st h (by omega) fun w2 h2 => ?_
 have hpl := padB_len s.length
 have h64 := pad_64 s
 try simp -zeta only [tx_app]
 have hpl2 : (s ++ padB s.length).length = s.length + (padB s.length).length := List.length_append
 have hR' : ∀ w', St w' X → R (tx (out5 (run1 (s ++ padB s.length) (blocks s)))) w' := hR
 have hbl : 64 * blocks s = (s ++ padB s.length).length := by unfold blocks; omega
 refine ⟨by have := tx_size s; have := tx_size (padB s.length); omega, ?_⟩
 generalize s ++ padB s.length = p at *
 generalize blocks s = nb at *
 have hts := tx_size p
 refine ⟨fun hl i w' => ∃ (m g : Nat), hl = ⟨some (blk g), 5, 5⟩ ∧ i = ((64 * m : Nat) : Int) ∧ m ≤ nb ∧ St w' (Cs g (c5 (run1 p m)) T.y_uint32 :: X), fun _ i _ => (p.length - i).toNat, ⟨0, g0, rfl, rfl, Nat.zero_le _, h2⟩, ?_⟩
 rintro hl i w3 ⟨m, g, rfl, rfl, hm, h3⟩
 refine ⟨fun hlt => ?_, fun hge => ?_⟩
 · have hlt : m < nb := by omega
   have e1 : w64 (((64 * m : Nat) : Int) + 64) = ((64 * (m + 1) : Nat) : Int) := by rw [w64_id (by omega) (by omega)]; omega
   generalize hW : W1 p (64 * m) = W at *
   refine ⟨fun wl_ t w' => ∃ k : Nat, t = k ∧ k ≤ 80 ∧ St w' (Row E32 T.y_uint32 wl_ (wl W k) :: Cs g (c5 (run1 p m)) T.y_uint32 :: X), fun _ t _ => (80 - t).toNat, ⟨0, rfl, Nat.zero_le _, h3.row0 E32 T.y_uint32⟩, ?_⟩
   rintro wl_ t w4 ⟨k, rfl, hk, h4⟩
   have hwl := wl_len W k
   have hll := (h4.has (by decide)).1
   refine ⟨fun hlt2 => ?_, fun hge2 => ?_⟩
   · have hlt2 : k < 80 := by omega
     have f1 : w64 ((k : Int) + 1) = ((k + 1 : Nat) : Int) := by rw [w64_id (by omega) (by omega)]; omega
     refine ⟨fun h16 => ?_, fun h16 => ?_⟩
     · have h16 : k < 16 := by omega
       have f2 : w64 (((64 * m : Nat) : Int) + (w64 ((4 : Int) * (k : Int)))) = ((64 * m + 4 * k : Nat) : Int) := by rw [w64_id (x := 4 * (k : Int)) (by omega) (by omega), w64_id (by omega) (by omega)]; omega
       have f3 : w64 (((64 * m + 4 * k : Nat) : Int) + 4) = ((64 * m + 4 * k + 4 : Nat) : Int) := by rw [w64_id (by omega) (by omega)]; omega
       rw [f2, f3]
       refine ⟨by omega, by omega, by omega, ?_⟩
       have ee : (tx p).extract ((64 * m + 4 * k : Nat) : Int).toNat ((64 * m + 4 * k + 4 : Nat) : Int).toNat = tx ((p.drop (64 * m + 4 * k)).take 4) := by
         rw [tx_ext]
         have a1 : ((64 * m + 4 * k : Nat) : Int).toNat = 64 * m + 4 * k := Int.toNat_natCast _
         have a2 : ((64 * m + 4 * k + 4 : Nat) : Int).toNat - (64 * m + 4 * k) = 4 := by rw [Int.toNat_natCast]; omega
         rw [a1, a2]
       rw [ee]
       refine word_st h4 (by rw [List.length_take, List.length_drop]; omega) fun w5 h5 => ?_
       have ew : ((partN ((p.drop (64 * m + 4 * k)).take 4) 0 4 : Nat) : Int) = W k := by rw [part_take _ _ 4 (by decide), ← hW, W1_lo h16]
       rw [ew]
       intro wa2
       replace h5 : St wa2 (Cs _ _ _ :: _) := h5.new _ _
       clear_value wa2
       refine St.app elt_u32 h5.sw (sl := ⟨some (blk _), 1, 1⟩) (ys := [W k]) (h5.lit (En := E32) (xs := [W k]) rfl rfl 1) rfl (by rw [hwl, List.length_singleton]; omega) (by rw [hwl, List.length_singleton]; omega) fun l' w6 h6 _ => ?_
       rw [f1]
       refine ⟨⟨k + 1, rfl, hlt2, ?_⟩, (by first | omega | (dsimp only; omega))⟩
       rw [wl_succ]
       exact h6.d2
     · have h16 : 16 ≤ k := by omega
       have e3 : w64 ((k : Int) - 3) = ((k - 3 : Nat) : Int) := by rw [w64_id (by omega) (by omega)]; omega
       have e8 : w64 ((k : Int) - 8) = ((k - 8 : Nat) : Int) := by rw [w64_id (by omega) (by omega)]; omega
       have e14 : w64 ((k : Int) - 14) = ((k - 14 : Nat) : Int) := by rw [w64_id (by omega) (by omega)]; omega
       have e16 : w64 ((k : Int) - 16) = ((k - 16 : Nat) : Int) := by rw [w64_id (by omega) (by omega)]; omega
       intro wa3
       replace h4 : St wa3 _ := h4.drew
       clear_value wa3
       simp -zeta only [e3, e8, e14, e16, Int.toNat_natCast]
       obtain ⟨ad, ha, _, _⟩ := (h4.has (by decide)).at (j := 0) (by omega)
       have fact : ∀ {w' : World} {xs : List Int}, Has E32 w' wl_ xs → (∀ j, j < k → xs[j]? = some (W j)) → w'.cell? (ad.add ((k - 16) * 1)) = some (.int .u32 (W (k - 16))) ∧ w'.cell? (ad.add ((k - 14) * 1)) = some (.int .u32 (W (k - 14))) ∧ w'.cell? (ad.add ((k - 8) * 1)) = some (.int .u32 (W (k - 8))) ∧ w'.cell? (ad.add ((k - 3) * 1)) = some (.int .u32 (W (k - 3))) := fun hh hx =>
         ⟨Has.u32 hh ha (hx _ (by omega)), Has.u32 hh ha (hx _ (by omega)), Has.u32 hh ha (hx _ (by omega)), Has.u32 hh ha (hx _ (by omega))⟩
       have hw0 : ∀ j, j < k → (wl W k)[j]? = some (W j) := fun j hj => wl_get W hj
       obtain ⟨q16, q14, q8, q3⟩ := fact (h4.has (by decide)) hw0
       refine ⟨ad, ha, by omega, by omega, _, q3, ad, ha, by omega, by omega, _, q8, ad, ha, by omega, by omega, _, q14, ad, ha, by omega, by omega, _, q16, turn_st h4 (by decide) (by decide) fun w5 h5 => ?_⟩
       obtain ⟨q16, q14, q8, q3⟩ := fact (h5.has (by decide)) hw0
       refine ⟨q16, q14, q8, q3, ?_⟩
       have ew : rot (xor32 (xor32 (xor32 (W (k - 3)) (W (k - 8))) (W (k - 14))) (W (k - 16))) 1 = W k := by rw [← hW]; exact (W1_hi h16).symm
       simp -zeta only [ew]
       intro wa4
       replace h5 : St wa4 (Cs _ _ _ :: _) := h5.new _ _
       clear_value wa4
       obtain ⟨q16, q14, q8, q3⟩ := fact (h5.drop.has (by decide)) hw0
       refine ⟨q16, q14, q8, q3, ?_⟩
       refine St.app2 elt_u32 h5.sw (sl := ⟨some (blk _), 1, 1⟩) (ys := [W k]) (h5.lit (En := E32) (xs := [W k]) rfl rfl 1) rfl (by rw [hwl, List.length_singleton]; omega) (by rw [hwl, List.length_singleton]; omega) (fun l' w6 h6 _ hla => ?_) fun l' w6 h6 _ => ?_
       · have hq : ∀ j, j < k → w6.cell? (ad.add (j * 1)) = some (.int .u32 (W j)) := fun j hj => Has.u32 (h6.has (by decide)) (by rw [hla]; exact ha) (by rw [List.getElem?_append_left (by rw [hwl]; exact hj)]; exact hw0 j hj)
         refine ⟨hq _ (by omega), hq _ (by omega), hq _ (by omega), hq _ (by omega), ?_⟩
         rw [f1]
         refine ⟨⟨k + 1, rfl, hlt2, ?_⟩, (by first | omega | (dsimp only; omega))⟩
         rw [wl_succ]
         exact h6.d2
       · obtain ⟨q16, q14, q8, q3⟩ := fact (h6.drop.has (by decide)) hw0
         refine ⟨q16, q14, q8, q3, ?_⟩
         rw [f1]
         refine ⟨⟨k + 1, rfl, hlt2, ?_⟩, (by first | omega | (dsimp only; omega))⟩
         rw [wl_succ]
         exact h6.d2.d2
   have hkk : k = 80 := by omega
   subst hkk
   intro wa5
   replace h4 : St wa5 _ := h4.drew
   clear_value wa5
   have hst := h4.drop
   refine ⟨blk g, rfl, by decide, (show (0 : Int) < ((5 : Nat) : Int) by decide), _, hst.cell 0, blk g, rfl, by decide, (show (1 : Int) < ((5 : Nat) : Int) by decide), _, hst.cell 1, blk g, rfl, by decide, (show (2 : Int) < ((5 : Nat) : Int) by decide), _, hst.cell 2, blk g, rfl, by decide, (show (3 : Int) < ((5 : Nat) : Int) by decide), _, hst.cell 3, blk g, rfl, by decide, (show (4 : Int) < ((5 : Nat) : Int) by decide), _, hst.cell 4, ?_⟩
   generalize hz : run1 p m = z at *
   refine ⟨fun a b c d e n w' => ∃ t : Nat, n = t ∧ t ≤ 80 ∧ (⟨a, b, c, d, e⟩ : S5) = steps1 W z t ∧ St w' (Row E32 T.y_uint32 wl_ (wl W 80) :: Cs g (c5 z) T.y_uint32 :: X), fun _ _ _ _ _ n _ => (80 - n).toNat, ⟨0, rfl, Nat.zero_le _, rfl, h4⟩, ?_⟩
   rintro a b c d e n w5 ⟨t, rfl, ht, hst5, h5⟩
   refine ⟨fun hlt2 => ?_, fun hge2 => ?_⟩
   · have hlt2 : t < 80 := by omega
     have f1 : w64 ((t : Int) + 1) = ((t + 1 : Nat) : Int) := by rw [w64_id (by omega) (by omega)]; omega
     refine ⟨fun a1 b1 c1 d1 e1 w' => (⟨a1, b1, c1, d1, e1⟩ : S5) = step1 W t ⟨a, b, c, d, e⟩ ∧ St w' (Row E32 T.y_uint32 wl_ (wl W 80) :: Cs g (c5 z) T.y_uint32 :: X), ⟨fun f k w' => w' = w5 ∧ f = Go.Proofs.YtggachhkcmfijaaGreatDoor.f1 t b c d ∧ k = kw1 t, ?_, ?_⟩, ?_⟩
     · refine ⟨fun h20 => ⟨rfl, ?_⟩, fun h20 => ⟨fun v w' => w' = w5 ∧ v = decide (40 ≤ t ∧ t < 60), ⟨fun h40 => ⟨rfl, ?_⟩, fun h40 => ⟨rfl, ?_⟩⟩, ?_⟩⟩
       · unfold Go.Proofs.YtggachhkcmfijaaGreatDoor.f1 kw1
         have a : t < 20 := by omega
         rw [if_pos a, if_pos a]; exact ⟨rfl, rfl⟩
       · rw [Bool.eq_iff_iff]; simp; omega
       · symm; simp; omega
       · rintro v w' ⟨rfl, rfl⟩
         unfold Go.Proofs.YtggachhkcmfijaaGreatDoor.f1 kw1
         have a : ¬ t < 20 := by omega
         rw [if_neg a, if_neg a]
         refine ⟨fun hv => ⟨rfl, ?_⟩, fun hv => ⟨fun h60 => ⟨rfl, ?_⟩, fun h60 => ⟨rfl, ?_⟩⟩⟩
         · simp only [decide_eq_true_eq] at hv
           have b1 : ¬ t < 40 := by omega
           have b2 : t < 60 := hv.2
           rw [if_neg b1, if_neg b1, if_pos b2, if_pos b2]; exact ⟨rfl, rfl⟩
         · have b1 : ¬ t < 40 := by omega
           have b2 : ¬ t < 60 := by omega
           rw [if_neg b1, if_neg b1, if_neg b2, if_neg b2]; exact ⟨rfl, rfl⟩
         · simp only [decide_eq_false_iff_not, not_and] at hv
           have b1 : t < 40 := by
             by_cases hh : t < 40
             · exact hh
             · have := hv (by omega); omega
           rw [if_pos b1, if_pos b1]; exact ⟨rfl, rfl⟩
     · rintro f k w' ⟨rfl, rfl, rfl⟩
       intro wa6
       replace h5 : St wa6 _ := h5.drew
       clear_value wa6
       obtain ⟨ad, ha, hal, _⟩ := (h5.has (by decide)).at (j := 0) (by rw [wl_len]; decide)
       have hll5 := (h5.has (by decide)).1
       rw [wl_len] at hll5
       simp -zeta only [Int.toNat_natCast]
       have q := Has.u32 (h5.has (by decide)) ha (wl_get W hlt2)
       refine ⟨ad, ha, by omega, by omega, _, q, turn_st h5 (by decide) (by decide) fun w6 h6 => ⟨Has.u32 (h6.has (by decide)) ha (wl_get W hlt2), turn_st h6 (by decide) (by decide) fun w7 h7 => ⟨rfl, h7⟩⟩⟩
     · rintro a1 b1 c1 d1 e1 w' ⟨he, h6⟩
       rw [f1]
       refine ⟨⟨t + 1, rfl, hlt2, ?_, h6⟩, (by first | omega | (dsimp only; omega))⟩
       show _ = step1 W t (steps1 W z t)
       rw [he, hst5]
   have htt : t = 80 := by omega
   subst htt
   intro wa7
   replace h5 : St wa7 _ := h5.drew
   clear_value wa7
   have hs5 := h5.drop
   refine ⟨blk g, rfl, by decide, (show (0 : Int) < ((5 : Nat) : Int) by decide), _, hs5.cell 0, blk g, rfl, by decide, (show (1 : Int) < ((5 : Nat) : Int) by decide), _, hs5.cell 1, blk g, rfl, by decide, (show (2 : Int) < ((5 : Nat) : Int) by decide), _, hs5.cell 2, blk g, rfl, by decide, (show (3 : Int) < ((5 : Nat) : Int) by decide), _, hs5.cell 3, blk g, rfl, by decide, (show (4 : Int) < ((5 : Nat) : Int) by decide), _, hs5.cell 4, ?_⟩
   intro wa8
   replace h5 : St wa8 (Cs _ _ _ :: _) := h5.new _ _
   clear_value wa8
   have hs6 := h5.up2
   refine ⟨hs6.cell 4, hs6.cell 3, hs6.cell 2, hs6.cell 1, hs6.cell 0, ?_⟩
   rw [e1]
   refine ⟨⟨m + 1, _, rfl, rfl, hlt, ?_⟩, (by first | omega | (dsimp only; omega))⟩
   have ha : a = (steps1 W z 80).a := by rw [← hst5]
   have hb' : b = (steps1 W z 80).b := by rw [← hst5]
   have hc : c = (steps1 W z 80).c := by rw [← hst5]
   have hd : d = (steps1 W z 80).d := by rw [← hst5]
   have he : e = (steps1 W z 80).e := by rw [← hst5]
   subst ha hb' hc hd he
   have hrun : run1 p (m + 1) = mix1 W z := by show mix1 (W1 p (64 * m)) (run1 p m) = _; rw [hW, hz]
   rw [hrun]
   exact h5.d2.d2
 have hmm : m = nb := by omega
 subst hmm
 generalize run1 p m = z at *
 refine ⟨fun out i w' => ∃ k : Nat, i = k ∧ k ≤ 5 ∧ out = tx (((l5 z).take k).flatMap four) ∧ St w' (Cs g (c5 z) T.y_uint32 :: X), fun _ i _ => (5 - i).toNat, ⟨0, rfl, Nat.zero_le _, rfl, h3⟩, ?_⟩
 rintro out i w5 ⟨k, rfl, hk, rfl, h5⟩
 refine ⟨fun hlt => ?_, fun hge => ?_⟩
 · have hlt : k < 5 := by omega
   have e1 : w64 ((k : Int) + 1) = ((k + 1 : Nat) : Int) := by rw [w64_id (by omega) (by omega)]; omega
   have hll : (l5 z).length = 5 := rfl
   have hkl : k < (l5 z).length := by rw [hll]; exact hlt
   have hfl := flat_len ((l5 z).take k)
   rw [List.length_take] at hfl
   refine ⟨blk g, rfl, by omega, by omega, (l5 z)[k], ?_, High_st (n := 4) h5 (by decide) fun w6 h6 => ⟨by rw [tx_size, tx_size]; have := four_len (l5 z)[k]; unfold four at this; omega, ?_⟩⟩
   · simp only [Int.toNat_natCast, Nat.mul_one]
     rw [h5.cell k]
     have : k = 0 ∨ k = 1 ∨ k = 2 ∨ k = 3 ∨ k = 4 := by omega
     rcases this with rfl | rfl | rfl | rfl | rfl <;> rfl
   · rw [e1, tx_app]
     refine ⟨⟨k + 1, rfl, hlt, ?_, h6⟩, (by first | omega | (dsimp only; omega))⟩
     rw [flat_succ _ hkl]; rfl
 have hkk : k = 5 := by omega
 subst hkk
 have : (l5 z).take 5 = l5 z := rfl
 rw [this, out5_all]
 exact hR' w5 h5.drop
end
end Go.Proofs.YtggachhkcmfijaaGreatDoor
