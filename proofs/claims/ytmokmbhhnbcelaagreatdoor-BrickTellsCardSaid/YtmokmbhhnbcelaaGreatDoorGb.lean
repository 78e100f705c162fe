/- SHA-1: the program's walk. -/
import Derived.Test.YtmokmbhhnbcelaaGreatDoorSheli
set_option linter.unusedVariables false
namespace Go.Proofs.YtmokmbhhnbcelaaGreatDoor
open Go Go.Vc Go.RowKit Go.Lib
section
variable {w : World} {X : List As}
theorem Rot_spec {x k k' : Int} (h1 : bits .and .u64 (wr .u64 k) 31 = k') (h2 : wr .u64 (32 - k') = 32 - k') (h3 : 0 ≤ k' ∧ k' ≤ 32) {R : Int → World → Prop} (hR : R (rot x k') w) : F.bits_RotateLeft32 x k w R := by
 apply E.bits_RotateLeft32
 unfold V.bits_RotateLeft32
 rw [h1, h2]
 exact ⟨h3.1, by omega, hR⟩
theorem Rot1 {x : Int} {R : Int → World → Prop} (hR : R (rot x 1) w) : F.bits_RotateLeft32 x 1 w R := Rot_spec (by decide) (by decide) (by decide) hR
theorem Rot5 {x : Int} {R : Int → World → Prop} (hR : R (rot x 5) w) : F.bits_RotateLeft32 x 5 w R := Rot_spec (by decide) (by decide) (by decide) hR
theorem Rot30 {x : Int} {R : Int → World → Prop} (hR : R (rot x 30) w) : F.bits_RotateLeft32 x 30 w R := Rot_spec (by decide) (by decide) (by decide) hR
def highTo (v : Int) (n m : Nat) : Bs := (List.range n).map fun i => if i < m then byteO (shr .u64 v ((8 * (n - 1 - i) : Nat) : Int)) else 0
theorem highTo_len (v : Int) (n m : Nat) : (highTo v n m).length = n := by simp [highTo]
theorem highTo_zero (v : Int) (n : Nat) : highTo v n 0 = List.replicate n 0 := by simp [highTo, List.map_const']
theorem highTo_all (v : Int) (n : Nat) : highTo v n n = highB v n := by
 unfold highTo highB
 exact List.map_congr_left fun i hi => by rw [if_pos (List.mem_range.1 hi)]
theorem highTo_succ (v : Int) (n m : Nat) : (highTo v n m).set m (byteO (shr .u64 v ((8 * (n - 1 - m) : Nat) : Int))) = highTo v n (m + 1) := by
 apply List.ext_getElem
 · simp [highTo]
 · intro i h1 h2
   rw [List.getElem_set]
   simp only [highTo, List.getElem_map, List.getElem_range]
   by_cases h : m = i
   · subst h; rw [if_pos rfl, if_pos (by omega)]
   · rw [if_neg h]
     by_cases h3 : i < m
     · rw [if_pos h3, if_pos (by omega)]
     · rw [if_neg h3, if_neg (by omega)]
theorem high_st (h : St w X) {v : Int} {n : Nat} (hn : n ≤ 1000) {R : ByteArray → World → Prop} (hR : ∀ w', St w' X → R (tx (highB v n)) w') : F.shaone_high v (n : Int) w R := by
 apply E.shaone_high
 unfold V.shaone_high
 try simp (config := { zeta := false }) only [cnd_all, Nat.reduceAdd]
 refine St.makeB h (by omega) fun l w1 hl h1 => ?_
 refine ⟨fun i w' => ∃ m : Nat, i = m ∧ m ≤ n ∧ St w' (Row EB T.y_uint8 l (highTo v n m) :: X), fun i _ => (n - i).toNat, ⟨0, rfl, Nat.zero_le _, by rw [highTo_zero]; exact h1⟩, ?_⟩
 rintro i w2 ⟨m, rfl, hm, h2⟩
 refine ⟨fun hlt => ?_, fun hge => ?_⟩
 · have hlt : m < n := by omega
   have e1 : w64 ((m : Int) + 1) = ((m + 1 : Nat) : Int) := by rw [w64_id (by omega) (by omega)]; omega
   have e2 : w64 ((8 : Int) * (w64 ((w64 ((n : Int) - 1)) - (m : Int)))) = ((8 * (n - 1 - m) : Nat) : Int) := by
     rw [w64_id (x := (n : Int) - 1) (by omega) (by omega), w64_id (x := (n : Int) - 1 - m) (by omega) (by omega), w64_id (by omega) (by omega)]; omega
   have hme : ((n : Int) - ((m + 1 : Nat) : Int)).toNat < ((n : Int) - (m : Int)).toNat := by omega
   rw [e2]
   obtain ⟨a, ha, _⟩ := (h2.has (by decide)).at (j := m) (by rw [highTo_len]; exact hlt)
   obtain ⟨q1, q2⟩ := St.setB h2 (k := m) (by rw [highTo_len]; exact hlt) (byteO (shr .u64 v ((8 * (n - 1 - m) : Nat) : Int))) ha
   refine ⟨by omega, a, ha, by omega, by omega, q1, ?_⟩
   rw [e1]
   intro w3
   have h3 : St w3 (Row EB T.y_uint8 l (highTo v n (m + 1)) :: X) := by
     rw [byteO_val, highTo_succ] at q2
     exact q2
   clear_value w3
   exact ⟨⟨m + 1, rfl, hlt, h3⟩, hme⟩
 · have hmm : m = n := by omega
   subst hmm
   rw [highTo_all] at h2
   exact St.strB rfl h2 (hR _ h2.drop)
theorem pad_n (n : Nat) (hn : n ≤ 1099511627776) : (w64 ((119 : Int) - ((n : Int).tmod 64))).tmod 64 = (((119 - n % 64) % 64 : Nat) : Int) := by
 have e : (n : Int).tmod 64 = ((n % 64 : Nat) : Int) := (Int.ofNat_tmod n 64).symm
 rw [e, w64_id (by omega) (by omega)]
 have e2 : (119 : Int) - ((n % 64 : Nat) : Int) = ((119 - n % 64 : Nat) : Int) := by omega
 rw [e2]
 rw [Int.tmod_eq_emod_of_nonneg (by omega)]; omega
theorem Pad_st (h : St w X) {n : Nat} (hn : n ≤ 1099511627776) {R : ByteArray → World → Prop} (hR : ∀ w', St w' X → R (tx (padB n)) w') : F.shaone_Pad (n : Int) w R := by
 apply E.shaone_Pad
 unfold V.shaone_Pad
 try simp (config := { zeta := false }) only [cnd_all, Nat.reduceAdd]
 refine ⟨fun hh => by omega, fun _ => ⟨fun hh => by omega, fun _ => ⟨by decide, by decide, ?_⟩⟩⟩
 rw [pad_n n hn]
 refine strings_Repeat_spec (by omega) fun w1 hB1 => ⟨by rw [tx_size, List.length_replicate]; have : str_x__.size = 1 := rfl; omega, ?_⟩
 have e8 : wr .u64 ((8 : Int) * (wr .u64 (n : Int))) = ((8 * n : Nat) : Int) := by
   rw [wr64_id (x := (n : Int)) (by omega) (by omega), wr64_id (by omega) (by omega)]; omega
 rw [e8]
 have ex : str_x__ ++ tx (List.replicate ((119 - n % 64) % 64) 0) = tx ([128] ++ List.replicate ((119 - n % 64) % 64) 0) := tx_app [128] _
 rw [ex]
 refine high_st (n := 8) (h.below hB1) (by decide) fun w2 h2 => ⟨by simp only [tx_size, List.length_append, List.length_replicate, highB_len]; simp; omega, ?_⟩
 rw [tx_app]
 exact hR w2 h2
theorem round_spec {t : Nat} (ht : t < 80) {b c d : Int} {R : Int → Int → World → Prop} (hR : R (f1 t b c d) (kw1 t) w) : F.shaone_round (t : Int) b c d w R := by
 apply E.shaone_round
 unfold V.shaone_round
 try simp (config := { zeta := false }) only [cnd_all, Nat.reduceAdd]
 have e : w64 ((t : Int).tdiv 20) = ((t / 20 : Nat) : Int) := by
   rw [show (t : Int).tdiv 20 = ((t / 20 : Nat) : Int) from (Int.ofNat_tdiv t 20).symm, w64_id (by omega) (by omega)]
 rw [e]
 unfold f1 kw1 at hR
 refine ⟨by decide, fun h0 => ?_, fun h0 => ⟨fun h1 => ?_, fun h1 => ⟨fun h2 => ?_, fun h2 => ?_⟩⟩⟩
 · have a : t < 20 := by omega
   rw [if_pos a, if_pos a] at hR; exact hR
 · have a : ¬ t < 20 := by omega
   have b1 : t < 40 := by omega
   rw [if_neg a, if_neg a, if_pos b1, if_pos b1] at hR; exact hR
 · have a : ¬ t < 20 := by omega
   have b1 : ¬ t < 40 := by omega
   have b2 : t < 60 := by omega
   rw [if_neg a, if_neg a, if_neg b1, if_neg b1, if_pos b2, if_pos b2] at hR; exact hR
 · have a : ¬ t < 20 := by omega
   have b1 : ¬ t < 40 := by omega
   have b2 : ¬ t < 60 := by omega
   rw [if_neg a, if_neg a, if_neg b1, if_neg b1, if_neg b2, if_neg b2] at hR; exact hR
/-- a column's cells -/
theorem St.colGet {g n : Nat} {f : Nat → Int} {t : TypeId} (h : St w (Cs g (col n f) t :: X)) {j : Nat} (hj : j < n) : w.cell? ((blk g).add j) = some (.int .u32 (f j)) := by rw [h.cell, col_get f hj]
theorem St.colSet {g n : Nat} {f f' : Nat → Int} {t : TypeId} (h : St w (Cs g (col n f) t :: X)) {j : Nat} (hj : j < n) {v : Int} (he : ∀ i, i < n → (if i = j then v else f i) = f' i) :
   Wr w ((blk g).add j) ∧ St (w.setCell ((blk g).add j) (.int .u32 v)) (Cs g (col n f') t :: X) := by
 refine ⟨h.wr (by rw [col_len]; exact hj), ?_⟩
 have h2 := h.set j (.int .u32 v)
 rw [col_set, col_ext he] at h2
 exact h2
def W1at (b : Bs) (t i : Nat) : Nat → Int := fun j => if j < t then W1 b 0 j else if j = t then ((partN b (4 * t) i : Nat) : Int) else 0
theorem W1at_next {b : Bs} {t i : Nat} : ∀ j, j < 80 → (if j = t then ((partN b (4 * t) (i + 1) : Nat) : Int) else W1at b t i j) = W1at b t (i + 1) j := fun j _ => by
 unfold W1at
 by_cases h : j = t
 · subst h; rw [if_pos rfl, if_neg (by omega), if_pos rfl]
 · rw [if_neg h, if_neg h, if_neg h]
theorem W1at_zero (b : Bs) (t : Nat) : W1at b t 0 = filled (W1 b 0) t := by
 funext j
 unfold W1at filled
 by_cases h : j < t
 · rw [if_pos h, if_pos h]
 · rw [if_neg h, if_neg h]
   by_cases h2 : j = t
   · rw [if_pos h2]; rfl
   · rw [if_neg h2]
theorem W1at_four (b : Bs) {t : Nat} (ht : t < 16) : W1at b t 4 = filled (W1 b 0) (t + 1) := by
 funext j
 unfold W1at filled
 by_cases h : j < t
 · rw [if_pos h, if_pos (by omega)]
 · rw [if_neg h]
   by_cases h2 : j = t
   · subst h2; rw [if_pos rfl, if_pos (by omega), W1_lo ht, Nat.zero_add]
   · rw [if_neg h2, if_neg (by omega)]
abbrev c5 (s : S5) : List Value := [.int .u32 s.a, .int .u32 s.b, .int .u32 s.c, .int .u32 s.d, .int .u32 s.e]
set_option maxHeartbeats 4000000 in
theorem mix1_st (h : St w X) {s : S5} {b : Bs} (hb : b.length = 64) {R : Int → Int → Int → Int → Int → World → Prop}
   (hR : ∀ w', St w' X → R (mix1 (W1 b 0) s).a (mix1 (W1 b 0) s).b (mix1 (W1 b 0) s).c (mix1 (W1 b 0) s).d (mix1 (W1 b 0) s).e w') : F.shaone_mix s.a s.b s.c s.d s.e (tx b) w R := by
 apply E.shaone_mix
 unfold V.shaone_mix
 try simp (config := { zeta := false }) only [cnd_all, Nat.reduceAdd]
 intro wa1
 replace h : St wa1 (Cs _ _ _ :: _) := h.new _ _
 clear_value wa1
 generalize w.heap.size = gh at *
 intro wa2
 replace h : St wa2 (Cs _ _ _ :: _) := h.new _ _
 clear_value wa2
 generalize wa1.heap.size = go at *
 intro wa3
 replace h : St wa3 (Cs _ _ _ :: _) := h.new _ _
 clear_value wa3
 generalize wa2.heap.size = gw at *
 -- words, out, state
 have h1 : St wa3 (Cs gw (col 80 (filled (W1 b 0) 0)) T.y_80_uint32 :: _) := h
 refine ⟨fun n w' => ∃ t : Nat, n = t ∧ t ≤ 16 ∧ St w' (Cs gw (col 80 (filled (W1 b 0) t)) T.y_80_uint32 :: Cs go [.int .u32 0, .int .u32 0, .int .u32 0, .int .u32 0, .int .u32 0] T.y_5_uint32 :: Cs gh (c5 s) T.y_5_uint32 :: X), fun n _ => (16 - n).toNat, ⟨0, rfl, Nat.zero_le _, h1⟩, ?_⟩
 rintro n w1 ⟨t, rfl, ht, h2⟩
 refine ⟨fun hlt => ?_, fun hge => ?_⟩
 · have hlt : t < 16 := by omega
   have e1 : w64 ((t : Int) + 1) = ((t + 1 : Nat) : Int) := by rw [w64_id (by omega) (by omega)]; omega
   refine ⟨fun n w' => ∃ i : Nat, n = i ∧ i ≤ 4 ∧ St w' (Cs gw (col 80 (W1at b t i)) T.y_80_uint32 :: Cs go [.int .u32 0, .int .u32 0, .int .u32 0, .int .u32 0, .int .u32 0] T.y_5_uint32 :: Cs gh (c5 s) T.y_5_uint32 :: X), fun n _ => (4 - n).toNat, ⟨0, rfl, Nat.zero_le _, by rw [W1at_zero]; exact h2⟩, ?_⟩
   rintro n w2 ⟨i, rfl, hi, h3⟩
   refine ⟨fun hlt2 => ?_, fun hge2 => ?_⟩
   · have hlt2 : i < 4 := by omega
     have e2 : w64 ((i : Int) + 1) = ((i + 1 : Nat) : Int) := by rw [w64_id (by omega) (by omega)]; omega
     have e3 : w64 ((w64 ((4 : Int) * (t : Int))) + (i : Int)) = ((4 * t + i : Nat) : Int) := by rw [w64_id (x := 4 * (t : Int)) (by omega) (by omega), w64_id (by omega) (by omega)]; omega
     have hme : ((4 : Int) - ((i + 1 : Nat) : Int)).toNat < ((4 : Int) - (i : Int)).toNat := by omega
     intro wa4
     replace h3 : St wa4 _ := h3.drew
     clear_value wa4
     rw [e3]
     dsimp -zeta only [Int.toNat_natCast]
     simp -zeta only [Nat.mul_one]
     have ec : W1at b t i t = ((partN b (4 * t) i : Nat) : Int) := by unfold W1at; rw [if_neg (by omega), if_pos rfl]
     have hp : partN b (4 * t) i < 16777216 := Nat.lt_of_lt_of_le (partN_lt b (4 * t) i) (Nat.le_trans (Nat.pow_le_pow_right (by decide) (show i ≤ 3 by omega)) (by decide))
     have ev : bits .or .u32 (shl .u32 (W1at b t i t) 8) (wr .u32 (sAt (tx b) ((4 * t + i : Nat) : Int))) = ((partN b (4 * t) (i + 1) : Nat) : Int) := by
       rw [ec, tx_at]
       exact or_next hp (b.getD (4 * t + i) 0).toNat_lt
     obtain ⟨q1, q2⟩ := St.colSet h3 (f' := W1at b t (i + 1)) (j := t) (by omega) W1at_next
     refine ⟨by omega, by omega, _, St.colGet h3 (by omega), by decide, by omega, by omega, by omega, by omega, q1, ?_⟩
     simp -zeta only [ev]
     intro w3
     have h4 : St w3 (Cs gw (col 80 (W1at b t (i + 1))) T.y_80_uint32 :: _) := q2
     clear_value w3
     rw [e2]
     exact ⟨⟨i + 1, rfl, hlt2, h4⟩, hme⟩
   · have hii : i = 4 := by omega
     subst hii
     rw [W1at_four b hlt] at h3
     rw [e1]
     exact ⟨⟨t + 1, rfl, hlt, h3⟩, (by first | omega | (dsimp only; omega))⟩
 have htt : t = 16 := by omega
 subst htt
 refine ⟨fun n w' => ∃ t : Nat, n = t ∧ 16 ≤ t ∧ t ≤ 80 ∧ St w' (Cs gw (col 80 (filled (W1 b 0) t)) T.y_80_uint32 :: Cs go [.int .u32 0, .int .u32 0, .int .u32 0, .int .u32 0, .int .u32 0] T.y_5_uint32 :: Cs gh (c5 s) T.y_5_uint32 :: X), fun n _ => (80 - n).toNat, ⟨16, rfl, Nat.le_refl _, by decide, h2⟩, ?_⟩
 rintro n w2 ⟨t, rfl, ht1, ht2, h3⟩
 refine ⟨fun hlt => ?_, fun hge => ?_⟩
 · have hlt : t < 80 := by omega
   have e1 : w64 ((t : Int) + 1) = ((t + 1 : Nat) : Int) := by rw [w64_id (by omega) (by omega)]; omega
   have e3 : w64 ((t : Int) - 3) = ((t - 3 : Nat) : Int) := by rw [w64_id (by omega) (by omega)]; omega
   have e8 : w64 ((t : Int) - 8) = ((t - 8 : Nat) : Int) := by rw [w64_id (by omega) (by omega)]; omega
   have e14 : w64 ((t : Int) - 14) = ((t - 14 : Nat) : Int) := by rw [w64_id (by omega) (by omega)]; omega
   have e16 : w64 ((t : Int) - 16) = ((t - 16 : Nat) : Int) := by rw [w64_id (by omega) (by omega)]; omega
   intro wa5
   replace h3 : St wa5 _ := h3.drew
   clear_value wa5
   rw [e3, e8, e14, e16]
   simp -zeta only [Int.toNat_natCast, Nat.mul_one]
   have f3 : filled (W1 b 0) t (t - 3) = W1 b 0 (t - 3) := by unfold filled; rw [if_pos (by omega)]
   have f8 : filled (W1 b 0) t (t - 8) = W1 b 0 (t - 8) := by unfold filled; rw [if_pos (by omega)]
   have f14 : filled (W1 b 0) t (t - 14) = W1 b 0 (t - 14) := by unfold filled; rw [if_pos (by omega)]
   have f16 : filled (W1 b 0) t (t - 16) = W1 b 0 (t - 16) := by unfold filled; rw [if_pos (by omega)]
   have g3 := St.colGet h3 (j := t - 3) (by omega)
   have g8 := St.colGet h3 (j := t - 8) (by omega)
   have g14 := St.colGet h3 (j := t - 14) (by omega)
   have g16 := St.colGet h3 (j := t - 16) (by omega)
   rw [f3] at g3; rw [f8] at g8; rw [f14] at g14; rw [f16] at g16
   refine ⟨by omega, by omega, _, g3, by omega, by omega, _, g8, by omega, by omega, _, g14, by omega, by omega, _, g16, Rot1 ?_⟩
   obtain ⟨q1, q2⟩ := St.colSet h3 (f' := filled (W1 b 0) (t + 1)) (j := t) (by omega) (v := W1 b 0 t) fun i _ => by
     unfold filled
     by_cases h : i = t
     · subst h; rw [if_pos rfl, if_pos (by omega)]
     · rw [if_neg h]
       by_cases h2 : i < t
       · rw [if_pos h2, if_pos (by omega)]
       · rw [if_neg h2, if_neg (by omega)]
   refine ⟨g16, g14, g8, g3, by omega, by omega, q1, ?_⟩
   rw [W1_hi (p := b) (o := 0) (t := t) ht1] at q2
   intro w3
   have h4 : St w3 (Cs gw (col 80 (filled (W1 b 0) (t + 1))) T.y_80_uint32 :: _) := q2
   clear_value w3
   rw [e1]
   exact ⟨⟨t + 1, rfl, by omega, hlt, h4⟩, (by first | omega | (dsimp only; omega))⟩
 have htt : t = 80 := by omega
 subst htt
 intro wa6
 replace h3 : St wa6 _ := h3.drew
 clear_value wa6
 have hs := h3.up2
 refine ⟨by decide, by decide, _, hs.cell 0, by decide, by decide, _, hs.cell 1, by decide, by decide, _, hs.cell 2, by decide, by decide, _, hs.cell 3, by decide, by decide, _, hs.cell 4, ?_⟩
 refine ⟨fun a b' c d e n w' => ∃ t : Nat, n = t ∧ t ≤ 80 ∧ (⟨a, b', c, d, e⟩ : S5) = steps1 (W1 b 0) s t ∧ St w' (Cs gw (col 80 (filled (W1 b 0) 80)) T.y_80_uint32 :: Cs go [.int .u32 0, .int .u32 0, .int .u32 0, .int .u32 0, .int .u32 0] T.y_5_uint32 :: Cs gh (c5 s) T.y_5_uint32 :: X), fun _ _ _ _ _ n _ => (80 - n).toNat, ⟨0, rfl, Nat.zero_le _, rfl, h3⟩, ?_⟩
 rintro a b' c d e n w4 ⟨t, rfl, ht, hst, h4⟩
 refine ⟨fun hlt => ?_, fun hge => ?_⟩
 · have hlt : t < 80 := by omega
   have e1 : w64 ((t : Int) + 1) = ((t + 1 : Nat) : Int) := by rw [w64_id (by omega) (by omega)]; omega
   refine round_spec hlt ?_
   intro wa7
   replace h4 : St wa7 _ := h4.drew
   clear_value wa7
   simp -zeta only [Int.toNat_natCast, Nat.mul_one]
   have g := St.colGet h4 (j := t) (by omega)
   have f : filled (W1 b 0) 80 t = W1 b 0 t := by unfold filled; rw [if_pos (by omega)]
   rw [f] at g
   refine ⟨by omega, by omega, _, g, Rot5 ⟨g, Rot30 ?_⟩⟩
   rw [e1]
   refine ⟨⟨t + 1, rfl, hlt, ?_, h4⟩, (by first | omega | (dsimp only; omega))⟩
   show _ = step1 _ t (steps1 _ s t)
   rw [← hst]
   rfl
 have htt : t = 80 := by omega
 subst htt
 have hs4 := h4.up2
 refine ⟨by decide, by decide, _, hs4.cell 0, by decide, by decide, _, hs4.cell 1, by decide, by decide, _, hs4.cell 2, by decide, by decide, _, hs4.cell 3, by decide, by decide, _, hs4.cell 4, ?_⟩
 replace h4 := h4.sw
 refine ⟨h4.wr0 (by simp), ?_⟩
 intro wa8
 replace h4 : St wa8 _ := h4.set0 _
 clear_value wa8
 refine ⟨h4.wr (by simp), ?_⟩
 intro wa9
 replace h4 : St wa9 _ := h4.set 1 _
 clear_value wa9
 refine ⟨h4.wr (by simp), ?_⟩
 intro wa10
 replace h4 : St wa10 _ := h4.set 2 _
 clear_value wa10
 refine ⟨h4.wr (by simp), ?_⟩
 intro wa11
 replace h4 : St wa11 _ := h4.set 3 _
 clear_value wa11
 refine ⟨h4.wr (by simp), ?_⟩
 intro wa12
 replace h4 : St wa12 _ := h4.set 4 _
 clear_value wa12
 simp only [List.set_cons_zero, List.set_cons_succ] at h4
 refine ⟨_, h4.cell0, _, h4.cell 1, _, h4.cell 2, _, h4.cell 3, _, h4.cell 4, ?_⟩
 have ha : a = (steps1 (W1 b 0) s 80).a := by rw [← hst]
 have hb' : b' = (steps1 (W1 b 0) s 80).b := by rw [← hst]
 have hc : c = (steps1 (W1 b 0) s 80).c := by rw [← hst]
 have hd : d = (steps1 (W1 b 0) s 80).d := by rw [← hst]
 have he : e = (steps1 (W1 b 0) s 80).e := by rw [← hst]
 subst ha hb' hc hd he
 exact hR _ h4.drop.drop.drop
end
end Go.Proofs.YtmokmbhhnbcelaaGreatDoor
