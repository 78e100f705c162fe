/- SHA-256: the program's walk. -/
import Derived.Test.YtmokmbhhnbcelaaGreatDoorGc
import Derived.Test.YtmokmbhhnbcelaaGreatDoorV8
import Derived.Test.YtmokmbhhnbcelaaGreatDoorV9
import Derived.Test.YtmokmbhhnbcelaaGreatDoorV10
set_option linter.unusedVariables false
namespace Go.Proofs.YtmokmbhhnbcelaaGreatDoor
open Go Go.Vc Go.RowKit Go.Lib
section
variable {w : World} {X : List As}
theorem right_spec {x n k' : Int} (h1 : bits .and .u64 (wr .u64 (w64 (0 - n))) 31 = k') (h2 : wr .u64 (32 - k') = 32 - k') (h3 : 0 ≤ k' ∧ k' ≤ 32) {R : Int → World → Prop} (hR : R (rot x k') w) : F.shatwo_right x n w R := by
 apply E.shatwo_right
 unfold V.shatwo_right
 exact Rot_spec h1 h2 h3 hR
theorem St.fillS {g n : Nat} {f : Nat → Int} {t : TypeId} {j : Nat} (h : St w (Cs g (col n (filled f j)) t :: X)) (hj : j < n) : Wr w ((blk g).add j) ∧ St (w.setCell ((blk g).add j) (.int .u32 (f j))) (Cs g (col n (filled f (j + 1))) t :: X) := by
 refine ⟨h.wr (by rw [col_len]; exact hj), ?_⟩
 have h2 := h.set j (.int .u32 (f j))
 rw [col_next] at h2
 exact h2
theorem filled_all (f : Nat → Int) (n : Nat) : col n (filled f n) = col n f := col_ext fun i hi => by unfold filled; rw [if_pos hi]
theorem filled_zero (f : Nat → Int) (n : Nat) : col n (filled f 0) = List.replicate n (.int .u32 0) := by
 apply List.ext_getElem
 · simp [col]
 · intro i h1 h2
   simp [col, filled]
set_option maxHeartbeats 4000000 in
set_option maxRecDepth 100000 in
theorem keys_st (h : St w X) {R : Int → Int → Int → Int → Int → Int → Int → Int → Int → Int → Int → Int → Int → Int → Int → Int → Int → Int → Int → Int → Int → Int → Int → Int → Int → Int → Int → Int → Int → Int → Int → Int → Int → Int → Int → Int → Int → Int → Int → Int → Int → Int → Int → Int → Int → Int → Int → Int → Int → Int → Int → Int → Int → Int → Int → Int → Int → Int → Int → Int → Int → Int → Int → Int → World → Prop} (hR : ∀ w', St w' X → R (kw2 0) (kw2 1) (kw2 2) (kw2 3) (kw2 4) (kw2 5) (kw2 6) (kw2 7) (kw2 8) (kw2 9) (kw2 10) (kw2 11) (kw2 12) (kw2 13) (kw2 14) (kw2 15) (kw2 16) (kw2 17) (kw2 18) (kw2 19) (kw2 20) (kw2 21) (kw2 22) (kw2 23) (kw2 24) (kw2 25) (kw2 26) (kw2 27) (kw2 28) (kw2 29) (kw2 30) (kw2 31) (kw2 32) (kw2 33) (kw2 34) (kw2 35) (kw2 36) (kw2 37) (kw2 38) (kw2 39) (kw2 40) (kw2 41) (kw2 42) (kw2 43) (kw2 44) (kw2 45) (kw2 46) (kw2 47) (kw2 48) (kw2 49) (kw2 50) (kw2 51) (kw2 52) (kw2 53) (kw2 54) (kw2 55) (kw2 56) (kw2 57) (kw2 58) (kw2 59) (kw2 60) (kw2 61) (kw2 62) (kw2 63) w') : F.shatwo_keys w R := by
 apply E.shatwo_keys
 unfold V.shatwo_keys
 intro wa1
 replace h : St wa1 (Cs _ _ _ :: _) := h.new _ _
 clear_value wa1
 generalize w.heap.size = gk at *
 replace h : St wa1 (Cs gk (col 64 (filled kw2 0)) T.y_64_uint32 :: X) := by rw [filled_zero]; exact h
 obtain ⟨q_, r_⟩ := St.fillS (j := 0) h (by decide)
 refine ⟨q_, ?_⟩
 intro wa2
 replace h : St wa2 _ := r_
 clear q_ r_; clear_value wa2
 obtain ⟨q_, r_⟩ := St.fillS (j := 1) h (by decide)
 refine ⟨q_, ?_⟩
 intro wa3
 replace h : St wa3 _ := r_
 clear q_ r_; clear_value wa3
 obtain ⟨q_, r_⟩ := St.fillS (j := 2) h (by decide)
 refine ⟨q_, ?_⟩
 intro wa4
 replace h : St wa4 _ := r_
 clear q_ r_; clear_value wa4
 obtain ⟨q_, r_⟩ := St.fillS (j := 3) h (by decide)
 refine ⟨q_, ?_⟩
 intro wa5
 replace h : St wa5 _ := r_
 clear q_ r_; clear_value wa5
 obtain ⟨q_, r_⟩ := St.fillS (j := 4) h (by decide)
 refine ⟨q_, ?_⟩
 intro wa6
 replace h : St wa6 _ := r_
 clear q_ r_; clear_value wa6
 obtain ⟨q_, r_⟩ := St.fillS (j := 5) h (by decide)
 refine ⟨q_, ?_⟩
 intro wa7
 replace h : St wa7 _ := r_
 clear q_ r_; clear_value wa7
 obtain ⟨q_, r_⟩ := St.fillS (j := 6) h (by decide)
 refine ⟨q_, ?_⟩
 intro wa8
 replace h : St wa8 _ := r_
 clear q_ r_; clear_value wa8
 obtain ⟨q_, r_⟩ := St.fillS (j := 7) h (by decide)
 refine ⟨q_, ?_⟩
 intro wa9
 replace h : St wa9 _ := r_
 clear q_ r_; clear_value wa9
 obtain ⟨q_, r_⟩ := St.fillS (j := 8) h (by decide)
 refine ⟨q_, ?_⟩
 intro wa10
 replace h : St wa10 _ := r_
 clear q_ r_; clear_value wa10
 obtain ⟨q_, r_⟩ := St.fillS (j := 9) h (by decide)
 refine ⟨q_, ?_⟩
 intro wa11
 replace h : St wa11 _ := r_
 clear q_ r_; clear_value wa11
 obtain ⟨q_, r_⟩ := St.fillS (j := 10) h (by decide)
 refine ⟨q_, ?_⟩
 intro wa12
 replace h : St wa12 _ := r_
 clear q_ r_; clear_value wa12
 obtain ⟨q_, r_⟩ := St.fillS (j := 11) h (by decide)
 refine ⟨q_, ?_⟩
 intro wa13
 replace h : St wa13 _ := r_
 clear q_ r_; clear_value wa13
 obtain ⟨q_, r_⟩ := St.fillS (j := 12) h (by decide)
 refine ⟨q_, ?_⟩
 intro wa14
 replace h : St wa14 _ := r_
 clear q_ r_; clear_value wa14
 obtain ⟨q_, r_⟩ := St.fillS (j := 13) h (by decide)
 refine ⟨q_, ?_⟩
 intro wa15
 replace h : St wa15 _ := r_
 clear q_ r_; clear_value wa15
 obtain ⟨q_, r_⟩ := St.fillS (j := 14) h (by decide)
 refine ⟨q_, ?_⟩
 intro wa16
 replace h : St wa16 _ := r_
 clear q_ r_; clear_value wa16
 obtain ⟨q_, r_⟩ := St.fillS (j := 15) h (by decide)
 refine ⟨q_, ?_⟩
 intro wa17
 replace h : St wa17 _ := r_
 clear q_ r_; clear_value wa17
 obtain ⟨q_, r_⟩ := St.fillS (j := 16) h (by decide)
 refine ⟨q_, ?_⟩
 intro wa18
 replace h : St wa18 _ := r_
 clear q_ r_; clear_value wa18
 obtain ⟨q_, r_⟩ := St.fillS (j := 17) h (by decide)
 refine ⟨q_, ?_⟩
 intro wa19
 replace h : St wa19 _ := r_
 clear q_ r_; clear_value wa19
 obtain ⟨q_, r_⟩ := St.fillS (j := 18) h (by decide)
 refine ⟨q_, ?_⟩
 intro wa20
 replace h : St wa20 _ := r_
 clear q_ r_; clear_value wa20
 obtain ⟨q_, r_⟩ := St.fillS (j := 19) h (by decide)
 refine ⟨q_, ?_⟩
 intro wa21
 replace h : St wa21 _ := r_
 clear q_ r_; clear_value wa21
 obtain ⟨q_, r_⟩ := St.fillS (j := 20) h (by decide)
 refine ⟨q_, ?_⟩
 intro wa22
 replace h : St wa22 _ := r_
 clear q_ r_; clear_value wa22
 obtain ⟨q_, r_⟩ := St.fillS (j := 21) h (by decide)
 refine ⟨q_, ?_⟩
 intro wa23
 replace h : St wa23 _ := r_
 clear q_ r_; clear_value wa23
 obtain ⟨q_, r_⟩ := St.fillS (j := 22) h (by decide)
 refine ⟨q_, ?_⟩
 intro wa24
 replace h : St wa24 _ := r_
 clear q_ r_; clear_value wa24
 obtain ⟨q_, r_⟩ := St.fillS (j := 23) h (by decide)
 refine ⟨q_, ?_⟩
 intro wa25
 replace h : St wa25 _ := r_
 clear q_ r_; clear_value wa25
 obtain ⟨q_, r_⟩ := St.fillS (j := 24) h (by decide)
 refine ⟨q_, ?_⟩
 intro wa26
 replace h : St wa26 _ := r_
 clear q_ r_; clear_value wa26
 obtain ⟨q_, r_⟩ := St.fillS (j := 25) h (by decide)
 refine ⟨q_, ?_⟩
 intro wa27
 replace h : St wa27 _ := r_
 clear q_ r_; clear_value wa27
 obtain ⟨q_, r_⟩ := St.fillS (j := 26) h (by decide)
 refine ⟨q_, ?_⟩
 intro wa28
 replace h : St wa28 _ := r_
 clear q_ r_; clear_value wa28
 obtain ⟨q_, r_⟩ := St.fillS (j := 27) h (by decide)
 refine ⟨q_, ?_⟩
 intro wa29
 replace h : St wa29 _ := r_
 clear q_ r_; clear_value wa29
 obtain ⟨q_, r_⟩ := St.fillS (j := 28) h (by decide)
 refine ⟨q_, ?_⟩
 intro wa30
 replace h : St wa30 _ := r_
 clear q_ r_; clear_value wa30
 obtain ⟨q_, r_⟩ := St.fillS (j := 29) h (by decide)
 refine ⟨q_, ?_⟩
 intro wa31
 replace h : St wa31 _ := r_
 clear q_ r_; clear_value wa31
 obtain ⟨q_, r_⟩ := St.fillS (j := 30) h (by decide)
 refine ⟨q_, ?_⟩
 intro wa32
 replace h : St wa32 _ := r_
 clear q_ r_; clear_value wa32
 obtain ⟨q_, r_⟩ := St.fillS (j := 31) h (by decide)
 refine ⟨q_, ?_⟩
 intro wa33
 replace h : St wa33 _ := r_
 clear q_ r_; clear_value wa33
 obtain ⟨q_, r_⟩ := St.fillS (j := 32) h (by decide)
 refine ⟨q_, ?_⟩
 intro wa34
 replace h : St wa34 _ := r_
 clear q_ r_; clear_value wa34
 obtain ⟨q_, r_⟩ := St.fillS (j := 33) h (by decide)
 refine ⟨q_, ?_⟩
 intro wa35
 replace h : St wa35 _ := r_
 clear q_ r_; clear_value wa35
 obtain ⟨q_, r_⟩ := St.fillS (j := 34) h (by decide)
 refine ⟨q_, ?_⟩
 intro wa36
 replace h : St wa36 _ := r_
 clear q_ r_; clear_value wa36
 obtain ⟨q_, r_⟩ := St.fillS (j := 35) h (by decide)
 refine ⟨q_, ?_⟩
 intro wa37
 replace h : St wa37 _ := r_
 clear q_ r_; clear_value wa37
 obtain ⟨q_, r_⟩ := St.fillS (j := 36) h (by decide)
 refine ⟨q_, ?_⟩
 intro wa38
 replace h : St wa38 _ := r_
 clear q_ r_; clear_value wa38
 obtain ⟨q_, r_⟩ := St.fillS (j := 37) h (by decide)
 refine ⟨q_, ?_⟩
 intro wa39
 replace h : St wa39 _ := r_
 clear q_ r_; clear_value wa39
 obtain ⟨q_, r_⟩ := St.fillS (j := 38) h (by decide)
 refine ⟨q_, ?_⟩
 intro wa40
 replace h : St wa40 _ := r_
 clear q_ r_; clear_value wa40
 obtain ⟨q_, r_⟩ := St.fillS (j := 39) h (by decide)
 refine ⟨q_, ?_⟩
 intro wa41
 replace h : St wa41 _ := r_
 clear q_ r_; clear_value wa41
 obtain ⟨q_, r_⟩ := St.fillS (j := 40) h (by decide)
 refine ⟨q_, ?_⟩
 intro wa42
 replace h : St wa42 _ := r_
 clear q_ r_; clear_value wa42
 obtain ⟨q_, r_⟩ := St.fillS (j := 41) h (by decide)
 refine ⟨q_, ?_⟩
 intro wa43
 replace h : St wa43 _ := r_
 clear q_ r_; clear_value wa43
 obtain ⟨q_, r_⟩ := St.fillS (j := 42) h (by decide)
 refine ⟨q_, ?_⟩
 intro wa44
 replace h : St wa44 _ := r_
 clear q_ r_; clear_value wa44
 obtain ⟨q_, r_⟩ := St.fillS (j := 43) h (by decide)
 refine ⟨q_, ?_⟩
 intro wa45
 replace h : St wa45 _ := r_
 clear q_ r_; clear_value wa45
 obtain ⟨q_, r_⟩ := St.fillS (j := 44) h (by decide)
 refine ⟨q_, ?_⟩
 intro wa46
 replace h : St wa46 _ := r_
 clear q_ r_; clear_value wa46
 obtain ⟨q_, r_⟩ := St.fillS (j := 45) h (by decide)
 refine ⟨q_, ?_⟩
 intro wa47
 replace h : St wa47 _ := r_
 clear q_ r_; clear_value wa47
 obtain ⟨q_, r_⟩ := St.fillS (j := 46) h (by decide)
 refine ⟨q_, ?_⟩
 intro wa48
 replace h : St wa48 _ := r_
 clear q_ r_; clear_value wa48
 obtain ⟨q_, r_⟩ := St.fillS (j := 47) h (by decide)
 refine ⟨q_, ?_⟩
 intro wa49
 replace h : St wa49 _ := r_
 clear q_ r_; clear_value wa49
 obtain ⟨q_, r_⟩ := St.fillS (j := 48) h (by decide)
 refine ⟨q_, ?_⟩
 intro wa50
 replace h : St wa50 _ := r_
 clear q_ r_; clear_value wa50
 obtain ⟨q_, r_⟩ := St.fillS (j := 49) h (by decide)
 refine ⟨q_, ?_⟩
 intro wa51
 replace h : St wa51 _ := r_
 clear q_ r_; clear_value wa51
 obtain ⟨q_, r_⟩ := St.fillS (j := 50) h (by decide)
 refine ⟨q_, ?_⟩
 intro wa52
 replace h : St wa52 _ := r_
 clear q_ r_; clear_value wa52
 obtain ⟨q_, r_⟩ := St.fillS (j := 51) h (by decide)
 refine ⟨q_, ?_⟩
 intro wa53
 replace h : St wa53 _ := r_
 clear q_ r_; clear_value wa53
 obtain ⟨q_, r_⟩ := St.fillS (j := 52) h (by decide)
 refine ⟨q_, ?_⟩
 intro wa54
 replace h : St wa54 _ := r_
 clear q_ r_; clear_value wa54
 obtain ⟨q_, r_⟩ := St.fillS (j := 53) h (by decide)
 refine ⟨q_, ?_⟩
 intro wa55
 replace h : St wa55 _ := r_
 clear q_ r_; clear_value wa55
 obtain ⟨q_, r_⟩ := St.fillS (j := 54) h (by decide)
 refine ⟨q_, ?_⟩
 intro wa56
 replace h : St wa56 _ := r_
 clear q_ r_; clear_value wa56
 obtain ⟨q_, r_⟩ := St.fillS (j := 55) h (by decide)
 refine ⟨q_, ?_⟩
 intro wa57
 replace h : St wa57 _ := r_
 clear q_ r_; clear_value wa57
 obtain ⟨q_, r_⟩ := St.fillS (j := 56) h (by decide)
 refine ⟨q_, ?_⟩
 intro wa58
 replace h : St wa58 _ := r_
 clear q_ r_; clear_value wa58
 obtain ⟨q_, r_⟩ := St.fillS (j := 57) h (by decide)
 refine ⟨q_, ?_⟩
 intro wa59
 replace h : St wa59 _ := r_
 clear q_ r_; clear_value wa59
 obtain ⟨q_, r_⟩ := St.fillS (j := 58) h (by decide)
 refine ⟨q_, ?_⟩
 intro wa60
 replace h : St wa60 _ := r_
 clear q_ r_; clear_value wa60
 obtain ⟨q_, r_⟩ := St.fillS (j := 59) h (by decide)
 refine ⟨q_, ?_⟩
 intro wa61
 replace h : St wa61 _ := r_
 clear q_ r_; clear_value wa61
 obtain ⟨q_, r_⟩ := St.fillS (j := 60) h (by decide)
 refine ⟨q_, ?_⟩
 intro wa62
 replace h : St wa62 _ := r_
 clear q_ r_; clear_value wa62
 obtain ⟨q_, r_⟩ := St.fillS (j := 61) h (by decide)
 refine ⟨q_, ?_⟩
 intro wa63
 replace h : St wa63 _ := r_
 clear q_ r_; clear_value wa63
 obtain ⟨q_, r_⟩ := St.fillS (j := 62) h (by decide)
 refine ⟨q_, ?_⟩
 intro wa64
 replace h : St wa64 _ := r_
 clear q_ r_; clear_value wa64
 obtain ⟨q_, r_⟩ := St.fillS (j := 63) h (by decide)
 refine ⟨q_, ?_⟩
 intro wa65
 replace h : St wa65 _ := r_
 clear q_ r_; clear_value wa65
 rw [filled_all] at h
 refine ⟨_, St.colGet h (j := 0) (by decide), _, St.colGet h (j := 1) (by decide), _, St.colGet h (j := 2) (by decide), _, St.colGet h (j := 3) (by decide), _, St.colGet h (j := 4) (by decide), _, St.colGet h (j := 5) (by decide), _, St.colGet h (j := 6) (by decide), _, St.colGet h (j := 7) (by decide), _, St.colGet h (j := 8) (by decide), _, St.colGet h (j := 9) (by decide), _, St.colGet h (j := 10) (by decide), _, St.colGet h (j := 11) (by decide), _, St.colGet h (j := 12) (by decide), _, St.colGet h (j := 13) (by decide), _, St.colGet h (j := 14) (by decide), _, St.colGet h (j := 15) (by decide), _, St.colGet h (j := 16) (by decide), _, St.colGet h (j := 17) (by decide), _, St.colGet h (j := 18) (by decide), _, St.colGet h (j := 19) (by decide), _, St.colGet h (j := 20) (by decide), _, St.colGet h (j := 21) (by decide), _, St.colGet h (j := 22) (by decide), _, St.colGet h (j := 23) (by decide), _, St.colGet h (j := 24) (by decide), _, St.colGet h (j := 25) (by decide), _, St.colGet h (j := 26) (by decide), _, St.colGet h (j := 27) (by decide), _, St.colGet h (j := 28) (by decide), _, St.colGet h (j := 29) (by decide), _, St.colGet h (j := 30) (by decide), _, St.colGet h (j := 31) (by decide), _, St.colGet h (j := 32) (by decide), _, St.colGet h (j := 33) (by decide), _, St.colGet h (j := 34) (by decide), _, St.colGet h (j := 35) (by decide), _, St.colGet h (j := 36) (by decide), _, St.colGet h (j := 37) (by decide), _, St.colGet h (j := 38) (by decide), _, St.colGet h (j := 39) (by decide), _, St.colGet h (j := 40) (by decide), _, St.colGet h (j := 41) (by decide), _, St.colGet h (j := 42) (by decide), _, St.colGet h (j := 43) (by decide), _, St.colGet h (j := 44) (by decide), _, St.colGet h (j := 45) (by decide), _, St.colGet h (j := 46) (by decide), _, St.colGet h (j := 47) (by decide), _, St.colGet h (j := 48) (by decide), _, St.colGet h (j := 49) (by decide), _, St.colGet h (j := 50) (by decide), _, St.colGet h (j := 51) (by decide), _, St.colGet h (j := 52) (by decide), _, St.colGet h (j := 53) (by decide), _, St.colGet h (j := 54) (by decide), _, St.colGet h (j := 55) (by decide), _, St.colGet h (j := 56) (by decide), _, St.colGet h (j := 57) (by decide), _, St.colGet h (j := 58) (by decide), _, St.colGet h (j := 59) (by decide), _, St.colGet h (j := 60) (by decide), _, St.colGet h (j := 61) (by decide), _, St.colGet h (j := 62) (by decide), _, St.colGet h (j := 63) (by decide), ?_⟩
 exact hR _ h.drop
def Wat (f : Nat → Int) (b : Bs) (t i : Nat) : Nat → Int := fun j => if j < t then f j else if j = t then ((partN b (4 * t) i : Nat) : Int) else 0
theorem Wat_next {f : Nat → Int} {b : Bs} {t i n : Nat} : ∀ j, j < n → (if j = t then ((partN b (4 * t) (i + 1) : Nat) : Int) else Wat f b t i j) = Wat f b t (i + 1) j := fun j _ => by
 unfold Wat
 by_cases h : j = t
 · subst h; rw [if_pos rfl, if_neg (by omega), if_pos rfl]
 · rw [if_neg h, if_neg h, if_neg h]
theorem Wat_zero (f : Nat → Int) (b : Bs) (t : Nat) : Wat f b t 0 = filled f t := by
 funext j
 unfold Wat filled
 by_cases h : j < t
 · rw [if_pos h, if_pos h]
 · rw [if_neg h, if_neg h]
   by_cases h2 : j = t
   · rw [if_pos h2]; rfl
   · rw [if_neg h2]
theorem Wat_four {f : Nat → Int} {b : Bs} {t : Nat} (hf : f t = ((partN b (4 * t) 4 : Nat) : Int)) : Wat f b t 4 = filled f (t + 1) := by
 funext j
 unfold Wat filled
 by_cases h : j < t
 · rw [if_pos h, if_pos (by omega)]
 · rw [if_neg h]
   by_cases h2 : j = t
   · subst h2; rw [if_pos rfl, if_pos (by omega), hf]
   · rw [if_neg h2, if_neg (by omega)]
theorem filled_next {f : Nat → Int} {t n : Nat} : ∀ i, i < n → (if i = t then f t else filled f t i) = filled f (t + 1) i := fun i _ => by
 unfold filled
 by_cases h : i = t
 · subst h; rw [if_pos rfl, if_pos (by omega)]
 · rw [if_neg h]
   by_cases h2 : i < t
   · rw [if_pos h2, if_pos (by omega)]
   · rw [if_neg h2, if_neg (by omega)]
theorem filled_at {f : Nat → Int} {t i : Nat} (h : i < t) : filled f t i = f i := by unfold filled; rw [if_pos h]
set_option maxHeartbeats 8000000 in
set_option maxRecDepth 100000 in
theorem words_st (h : St w X) {b : Bs} (hb : b.length = 64) {R : Int → Int → Int → Int → Int → Int → Int → Int → Int → Int → Int → Int → Int → Int → Int → Int → Int → Int → Int → Int → Int → Int → Int → Int → Int → Int → Int → Int → Int → Int → Int → Int → Int → Int → Int → Int → Int → Int → Int → Int → Int → Int → Int → Int → Int → Int → Int → Int → Int → Int → Int → Int → Int → Int → Int → Int → Int → Int → Int → Int → Int → Int → Int → Int → World → Prop} (hR : ∀ w', St w' X → R (W2 b 0 0) (W2 b 0 1) (W2 b 0 2) (W2 b 0 3) (W2 b 0 4) (W2 b 0 5) (W2 b 0 6) (W2 b 0 7) (W2 b 0 8) (W2 b 0 9) (W2 b 0 10) (W2 b 0 11) (W2 b 0 12) (W2 b 0 13) (W2 b 0 14) (W2 b 0 15) (W2 b 0 16) (W2 b 0 17) (W2 b 0 18) (W2 b 0 19) (W2 b 0 20) (W2 b 0 21) (W2 b 0 22) (W2 b 0 23) (W2 b 0 24) (W2 b 0 25) (W2 b 0 26) (W2 b 0 27) (W2 b 0 28) (W2 b 0 29) (W2 b 0 30) (W2 b 0 31) (W2 b 0 32) (W2 b 0 33) (W2 b 0 34) (W2 b 0 35) (W2 b 0 36) (W2 b 0 37) (W2 b 0 38) (W2 b 0 39) (W2 b 0 40) (W2 b 0 41) (W2 b 0 42) (W2 b 0 43) (W2 b 0 44) (W2 b 0 45) (W2 b 0 46) (W2 b 0 47) (W2 b 0 48) (W2 b 0 49) (W2 b 0 50) (W2 b 0 51) (W2 b 0 52) (W2 b 0 53) (W2 b 0 54) (W2 b 0 55) (W2 b 0 56) (W2 b 0 57) (W2 b 0 58) (W2 b 0 59) (W2 b 0 60) (W2 b 0 61) (W2 b 0 62) (W2 b 0 63) w') : F.shatwo_words (tx b) w R := by
 apply E.shatwo_words
 unfold V.shatwo_words
 try simp (config := { zeta := false }) only [cnd_all, Nat.reduceAdd]
 intro wa1
 replace h : St wa1 (Cs _ _ _ :: _) := h.new _ _
 clear_value wa1
 generalize w.heap.size = go at *
 intro wa2
 replace h : St wa2 (Cs _ _ _ :: _) := h.new _ _
 clear_value wa2
 generalize wa1.heap.size = gw at *
 replace h : St wa2 (Cs gw (col 64 (filled (W2 b 0) 0)) T.y_64_uint32 :: Cs go (col 64 (filled (W2 b 0) 0)) T.y_64_uint32 :: X) := by rw [filled_zero]; exact h
 refine ⟨fun n w' => ∃ t : Nat, n = t ∧ t ≤ 16 ∧ St w' (Cs gw (col 64 (filled (W2 b 0) t)) T.y_64_uint32 :: Cs go (col 64 (filled (W2 b 0) 0)) T.y_64_uint32 :: X), fun n _ => (16 - n).toNat, ⟨0, rfl, Nat.zero_le _, h⟩, ?_⟩
 rintro n w1 ⟨t, rfl, ht, h2⟩
 refine ⟨fun hlt => ?_, fun hge => ?_⟩
 · have hlt : t < 16 := by omega
   have e1 : w64 ((t : Int) + 1) = ((t + 1 : Nat) : Int) := by rw [w64_id (by omega) (by omega)]; omega
   refine ⟨fun n w' => ∃ i : Nat, n = i ∧ i ≤ 4 ∧ St w' (Cs gw (col 64 (Wat (W2 b 0) b t i)) T.y_64_uint32 :: Cs go (col 64 (filled (W2 b 0) 0)) T.y_64_uint32 :: X), fun n _ => (4 - n).toNat, ⟨0, rfl, Nat.zero_le _, by rw [Wat_zero]; exact h2⟩, ?_⟩
   rintro n w2 ⟨i, rfl, hi, h3⟩
   refine ⟨fun hlt2 => ?_, fun hge2 => ?_⟩
   · have hlt2 : i < 4 := by omega
     have e2 : w64 ((i : Int) + 1) = ((i + 1 : Nat) : Int) := by rw [w64_id (by omega) (by omega)]; omega
     have e3 : w64 ((w64 ((4 : Int) * (t : Int))) + (i : Int)) = ((4 * t + i : Nat) : Int) := by rw [w64_id (x := 4 * (t : Int)) (by omega) (by omega), w64_id (by omega) (by omega)]; omega
     have hme : ((4 : Int) - ((i + 1 : Nat) : Int)).toNat < ((4 : Int) - (i : Int)).toNat := by omega
     intro wa3
     replace h3 : St wa3 _ := h3.drew
     clear_value wa3
     rw [e3]
     simp -zeta only [Int.toNat_natCast, Nat.mul_one]
     have ec : Wat (W2 b 0) b t i t = ((partN b (4 * t) i : Nat) : Int) := by unfold Wat; rw [if_neg (by omega), if_pos rfl]
     have hp : partN b (4 * t) i < 16777216 := Nat.lt_of_lt_of_le (partN_lt b (4 * t) i) (Nat.le_trans (Nat.pow_le_pow_right (by decide) (show i ≤ 3 by omega)) (by decide))
     have ev : bits .or .u32 (shl .u32 (Wat (W2 b 0) b t i t) 8) (wr .u32 (sAt (tx b) ((4 * t + i : Nat) : Int))) = ((partN b (4 * t) (i + 1) : Nat) : Int) := by
       rw [ec, tx_at]
       exact or_next hp (b.getD (4 * t + i) 0).toNat_lt
     obtain ⟨q1, q2⟩ := St.colSet h3 (f' := Wat (W2 b 0) b t (i + 1)) (j := t) (by omega) Wat_next
     refine ⟨by omega, by omega, _, St.colGet h3 (by omega), by decide, by omega, by omega, by omega, by omega, q1, ?_⟩
     simp -zeta only [ev]
     intro w3
     have h4 : St w3 (Cs gw (col 64 (Wat (W2 b 0) b t (i + 1))) T.y_64_uint32 :: _) := q2
     clear_value w3
     rw [e2]
     exact ⟨⟨i + 1, rfl, hlt2, h4⟩, hme⟩
   · have hii : i = 4 := by omega
     subst hii
     rw [Wat_four (by rw [W2_lo hlt, Nat.zero_add])] at h3
     rw [e1]
     exact ⟨⟨t + 1, rfl, hlt, h3⟩, (by first | omega | (dsimp only; omega))⟩
 have htt : t = 16 := by omega
 subst htt
 refine ⟨fun n w' => ∃ t : Nat, n = t ∧ 16 ≤ t ∧ t ≤ 64 ∧ St w' (Cs gw (col 64 (filled (W2 b 0) t)) T.y_64_uint32 :: Cs go (col 64 (filled (W2 b 0) 0)) T.y_64_uint32 :: X), fun n _ => (64 - n).toNat, ⟨16, rfl, Nat.le_refl _, by decide, h2⟩, ?_⟩
 rintro n w2 ⟨t, rfl, ht1, ht2, h3⟩
 refine ⟨fun hlt => ?_, fun hge => ?_⟩
 · have hlt : t < 64 := by omega
   have e1 : w64 ((t : Int) + 1) = ((t + 1 : Nat) : Int) := by rw [w64_id (by omega) (by omega)]; omega
   have e15 : w64 ((t : Int) - 15) = ((t - 15 : Nat) : Int) := by rw [w64_id (by omega) (by omega)]; omega
   have e2 : w64 ((t : Int) - 2) = ((t - 2 : Nat) : Int) := by rw [w64_id (by omega) (by omega)]; omega
   have e16 : w64 ((t : Int) - 16) = ((t - 16 : Nat) : Int) := by rw [w64_id (by omega) (by omega)]; omega
   have e7 : w64 ((t : Int) - 7) = ((t - 7 : Nat) : Int) := by rw [w64_id (by omega) (by omega)]; omega
   intro wa4
   replace h3 : St wa4 _ := h3.drew
   clear_value wa4
   rw [e15, e2, e16, e7]
   simp -zeta only [Int.toNat_natCast, Nat.mul_one]
   have g15 := St.colGet h3 (j := t - 15) (by omega)
   have g2 := St.colGet h3 (j := t - 2) (by omega)
   rw [filled_at (by omega)] at g15 g2
   refine ⟨by omega, by omega, _, g15, by omega, by omega, _, g2, ?_⟩
   intro wa5
   replace h3 : St wa5 _ := h3.drew
   clear_value wa5
   have g16 := St.colGet h3 (j := t - 16) (by omega)
   have g7 := St.colGet h3 (j := t - 7) (by omega)
   rw [filled_at (by omega)] at g16 g7
   refine ⟨by omega, by omega, _, g16, by omega, by omega, _, g7, by decide, by decide, right_spec (k' := 25) (by decide) (by decide) (by decide) ⟨g7, g16, right_spec (k' := 14) (by decide) (by decide) (by decide) ⟨g7, g16, right_spec (k' := 15) (by decide) (by decide) (by decide) ⟨g7, g16, right_spec (k' := 13) (by decide) (by decide) (by decide) ⟨g7, g16, by omega, by omega, ?_⟩⟩⟩⟩⟩
   obtain ⟨q1, q2⟩ := St.colSet h3 (f' := filled (W2 b 0) (t + 1)) (j := t) (by omega) (v := W2 b 0 t) filled_next
   refine ⟨q1, ?_⟩
   rw [W2_hi (p := b) (o := 0) (t := t) ht1] at q2
   intro w3
   have h4 : St w3 (Cs gw (col 64 (filled (W2 b 0) (t + 1))) T.y_64_uint32 :: _) := q2
   clear_value w3
   rw [e1]
   exact ⟨⟨t + 1, rfl, by omega, hlt, h4⟩, (by first | omega | (dsimp only; omega))⟩
 have htt : t = 64 := by omega
 subst htt
 rw [filled_all] at h3
 refine ⟨_, St.colGet h3 (j := 0) (by decide), _, St.colGet h3 (j := 1) (by decide), _, St.colGet h3 (j := 2) (by decide), _, St.colGet h3 (j := 3) (by decide), _, St.colGet h3 (j := 4) (by decide), _, St.colGet h3 (j := 5) (by decide), _, St.colGet h3 (j := 6) (by decide), _, St.colGet h3 (j := 7) (by decide), _, St.colGet h3 (j := 8) (by decide), _, St.colGet h3 (j := 9) (by decide), _, St.colGet h3 (j := 10) (by decide), _, St.colGet h3 (j := 11) (by decide), _, St.colGet h3 (j := 12) (by decide), _, St.colGet h3 (j := 13) (by decide), _, St.colGet h3 (j := 14) (by decide), _, St.colGet h3 (j := 15) (by decide), _, St.colGet h3 (j := 16) (by decide), _, St.colGet h3 (j := 17) (by decide), _, St.colGet h3 (j := 18) (by decide), _, St.colGet h3 (j := 19) (by decide), _, St.colGet h3 (j := 20) (by decide), _, St.colGet h3 (j := 21) (by decide), _, St.colGet h3 (j := 22) (by decide), _, St.colGet h3 (j := 23) (by decide), _, St.colGet h3 (j := 24) (by decide), _, St.colGet h3 (j := 25) (by decide), _, St.colGet h3 (j := 26) (by decide), _, St.colGet h3 (j := 27) (by decide), _, St.colGet h3 (j := 28) (by decide), _, St.colGet h3 (j := 29) (by decide), _, St.colGet h3 (j := 30) (by decide), _, St.colGet h3 (j := 31) (by decide), _, St.colGet h3 (j := 32) (by decide), _, St.colGet h3 (j := 33) (by decide), _, St.colGet h3 (j := 34) (by decide), _, St.colGet h3 (j := 35) (by decide), _, St.colGet h3 (j := 36) (by decide), _, St.colGet h3 (j := 37) (by decide), _, St.colGet h3 (j := 38) (by decide), _, St.colGet h3 (j := 39) (by decide), _, St.colGet h3 (j := 40) (by decide), _, St.colGet h3 (j := 41) (by decide), _, St.colGet h3 (j := 42) (by decide), _, St.colGet h3 (j := 43) (by decide), _, St.colGet h3 (j := 44) (by decide), _, St.colGet h3 (j := 45) (by decide), _, St.colGet h3 (j := 46) (by decide), _, St.colGet h3 (j := 47) (by decide), _, St.colGet h3 (j := 48) (by decide), _, St.colGet h3 (j := 49) (by decide), _, St.colGet h3 (j := 50) (by decide), _, St.colGet h3 (j := 51) (by decide), _, St.colGet h3 (j := 52) (by decide), _, St.colGet h3 (j := 53) (by decide), _, St.colGet h3 (j := 54) (by decide), _, St.colGet h3 (j := 55) (by decide), _, St.colGet h3 (j := 56) (by decide), _, St.colGet h3 (j := 57) (by decide), _, St.colGet h3 (j := 58) (by decide), _, St.colGet h3 (j := 59) (by decide), _, St.colGet h3 (j := 60) (by decide), _, St.colGet h3 (j := 61) (by decide), _, St.colGet h3 (j := 62) (by decide), _, St.colGet h3 (j := 63) (by decide), ?_⟩
 replace h3 := h3.sw
 obtain ⟨q_, r_⟩ := St.fillS (j := 0) h3 (by decide)
 refine ⟨q_, ?_⟩
 intro wa6
 replace h3 : St wa6 _ := r_
 clear q_ r_; clear_value wa6
 obtain ⟨q_, r_⟩ := St.fillS (j := 1) h3 (by decide)
 refine ⟨q_, ?_⟩
 intro wa7
 replace h3 : St wa7 _ := r_
 clear q_ r_; clear_value wa7
 obtain ⟨q_, r_⟩ := St.fillS (j := 2) h3 (by decide)
 refine ⟨q_, ?_⟩
 intro wa8
 replace h3 : St wa8 _ := r_
 clear q_ r_; clear_value wa8
 obtain ⟨q_, r_⟩ := St.fillS (j := 3) h3 (by decide)
 refine ⟨q_, ?_⟩
 intro wa9
 replace h3 : St wa9 _ := r_
 clear q_ r_; clear_value wa9
 obtain ⟨q_, r_⟩ := St.fillS (j := 4) h3 (by decide)
 refine ⟨q_, ?_⟩
 intro wa10
 replace h3 : St wa10 _ := r_
 clear q_ r_; clear_value wa10
 obtain ⟨q_, r_⟩ := St.fillS (j := 5) h3 (by decide)
 refine ⟨q_, ?_⟩
 intro wa11
 replace h3 : St wa11 _ := r_
 clear q_ r_; clear_value wa11
 obtain ⟨q_, r_⟩ := St.fillS (j := 6) h3 (by decide)
 refine ⟨q_, ?_⟩
 intro wa12
 replace h3 : St wa12 _ := r_
 clear q_ r_; clear_value wa12
 obtain ⟨q_, r_⟩ := St.fillS (j := 7) h3 (by decide)
 refine ⟨q_, ?_⟩
 intro wa13
 replace h3 : St wa13 _ := r_
 clear q_ r_; clear_value wa13
 obtain ⟨q_, r_⟩ := St.fillS (j := 8) h3 (by decide)
 refine ⟨q_, ?_⟩
 intro wa14
 replace h3 : St wa14 _ := r_
 clear q_ r_; clear_value wa14
 obtain ⟨q_, r_⟩ := St.fillS (j := 9) h3 (by decide)
 refine ⟨q_, ?_⟩
 intro wa15
 replace h3 : St wa15 _ := r_
 clear q_ r_; clear_value wa15
 obtain ⟨q_, r_⟩ := St.fillS (j := 10) h3 (by decide)
 refine ⟨q_, ?_⟩
 intro wa16
 replace h3 : St wa16 _ := r_
 clear q_ r_; clear_value wa16
 obtain ⟨q_, r_⟩ := St.fillS (j := 11) h3 (by decide)
 refine ⟨q_, ?_⟩
 intro wa17
 replace h3 : St wa17 _ := r_
 clear q_ r_; clear_value wa17
 obtain ⟨q_, r_⟩ := St.fillS (j := 12) h3 (by decide)
 refine ⟨q_, ?_⟩
 intro wa18
 replace h3 : St wa18 _ := r_
 clear q_ r_; clear_value wa18
 obtain ⟨q_, r_⟩ := St.fillS (j := 13) h3 (by decide)
 refine ⟨q_, ?_⟩
 intro wa19
 replace h3 : St wa19 _ := r_
 clear q_ r_; clear_value wa19
 obtain ⟨q_, r_⟩ := St.fillS (j := 14) h3 (by decide)
 refine ⟨q_, ?_⟩
 intro wa20
 replace h3 : St wa20 _ := r_
 clear q_ r_; clear_value wa20
 obtain ⟨q_, r_⟩ := St.fillS (j := 15) h3 (by decide)
 refine ⟨q_, ?_⟩
 intro wa21
 replace h3 : St wa21 _ := r_
 clear q_ r_; clear_value wa21
 obtain ⟨q_, r_⟩ := St.fillS (j := 16) h3 (by decide)
 refine ⟨q_, ?_⟩
 intro wa22
 replace h3 : St wa22 _ := r_
 clear q_ r_; clear_value wa22
 obtain ⟨q_, r_⟩ := St.fillS (j := 17) h3 (by decide)
 refine ⟨q_, ?_⟩
 intro wa23
 replace h3 : St wa23 _ := r_
 clear q_ r_; clear_value wa23
 obtain ⟨q_, r_⟩ := St.fillS (j := 18) h3 (by decide)
 refine ⟨q_, ?_⟩
 intro wa24
 replace h3 : St wa24 _ := r_
 clear q_ r_; clear_value wa24
 obtain ⟨q_, r_⟩ := St.fillS (j := 19) h3 (by decide)
 refine ⟨q_, ?_⟩
 intro wa25
 replace h3 : St wa25 _ := r_
 clear q_ r_; clear_value wa25
 obtain ⟨q_, r_⟩ := St.fillS (j := 20) h3 (by decide)
 refine ⟨q_, ?_⟩
 intro wa26
 replace h3 : St wa26 _ := r_
 clear q_ r_; clear_value wa26
 obtain ⟨q_, r_⟩ := St.fillS (j := 21) h3 (by decide)
 refine ⟨q_, ?_⟩
 intro wa27
 replace h3 : St wa27 _ := r_
 clear q_ r_; clear_value wa27
 obtain ⟨q_, r_⟩ := St.fillS (j := 22) h3 (by decide)
 refine ⟨q_, ?_⟩
 intro wa28
 replace h3 : St wa28 _ := r_
 clear q_ r_; clear_value wa28
 obtain ⟨q_, r_⟩ := St.fillS (j := 23) h3 (by decide)
 refine ⟨q_, ?_⟩
 intro wa29
 replace h3 : St wa29 _ := r_
 clear q_ r_; clear_value wa29
 obtain ⟨q_, r_⟩ := St.fillS (j := 24) h3 (by decide)
 refine ⟨q_, ?_⟩
 intro wa30
 replace h3 : St wa30 _ := r_
 clear q_ r_; clear_value wa30
 obtain ⟨q_, r_⟩ := St.fillS (j := 25) h3 (by decide)
 refine ⟨q_, ?_⟩
 intro wa31
 replace h3 : St wa31 _ := r_
 clear q_ r_; clear_value wa31
 obtain ⟨q_, r_⟩ := St.fillS (j := 26) h3 (by decide)
 refine ⟨q_, ?_⟩
 intro wa32
 replace h3 : St wa32 _ := r_
 clear q_ r_; clear_value wa32
 obtain ⟨q_, r_⟩ := St.fillS (j := 27) h3 (by decide)
 refine ⟨q_, ?_⟩
 intro wa33
 replace h3 : St wa33 _ := r_
 clear q_ r_; clear_value wa33
 obtain ⟨q_, r_⟩ := St.fillS (j := 28) h3 (by decide)
 refine ⟨q_, ?_⟩
 intro wa34
 replace h3 : St wa34 _ := r_
 clear q_ r_; clear_value wa34
 obtain ⟨q_, r_⟩ := St.fillS (j := 29) h3 (by decide)
 refine ⟨q_, ?_⟩
 intro wa35
 replace h3 : St wa35 _ := r_
 clear q_ r_; clear_value wa35
 obtain ⟨q_, r_⟩ := St.fillS (j := 30) h3 (by decide)
 refine ⟨q_, ?_⟩
 intro wa36
 replace h3 : St wa36 _ := r_
 clear q_ r_; clear_value wa36
 obtain ⟨q_, r_⟩ := St.fillS (j := 31) h3 (by decide)
 refine ⟨q_, ?_⟩
 intro wa37
 replace h3 : St wa37 _ := r_
 clear q_ r_; clear_value wa37
 obtain ⟨q_, r_⟩ := St.fillS (j := 32) h3 (by decide)
 refine ⟨q_, ?_⟩
 intro wa38
 replace h3 : St wa38 _ := r_
 clear q_ r_; clear_value wa38
 obtain ⟨q_, r_⟩ := St.fillS (j := 33) h3 (by decide)
 refine ⟨q_, ?_⟩
 intro wa39
 replace h3 : St wa39 _ := r_
 clear q_ r_; clear_value wa39
 obtain ⟨q_, r_⟩ := St.fillS (j := 34) h3 (by decide)
 refine ⟨q_, ?_⟩
 intro wa40
 replace h3 : St wa40 _ := r_
 clear q_ r_; clear_value wa40
 obtain ⟨q_, r_⟩ := St.fillS (j := 35) h3 (by decide)
 refine ⟨q_, ?_⟩
 intro wa41
 replace h3 : St wa41 _ := r_
 clear q_ r_; clear_value wa41
 obtain ⟨q_, r_⟩ := St.fillS (j := 36) h3 (by decide)
 refine ⟨q_, ?_⟩
 intro wa42
 replace h3 : St wa42 _ := r_
 clear q_ r_; clear_value wa42
 obtain ⟨q_, r_⟩ := St.fillS (j := 37) h3 (by decide)
 refine ⟨q_, ?_⟩
 intro wa43
 replace h3 : St wa43 _ := r_
 clear q_ r_; clear_value wa43
 obtain ⟨q_, r_⟩ := St.fillS (j := 38) h3 (by decide)
 refine ⟨q_, ?_⟩
 intro wa44
 replace h3 : St wa44 _ := r_
 clear q_ r_; clear_value wa44
 obtain ⟨q_, r_⟩ := St.fillS (j := 39) h3 (by decide)
 refine ⟨q_, ?_⟩
 intro wa45
 replace h3 : St wa45 _ := r_
 clear q_ r_; clear_value wa45
 obtain ⟨q_, r_⟩ := St.fillS (j := 40) h3 (by decide)
 refine ⟨q_, ?_⟩
 intro wa46
 replace h3 : St wa46 _ := r_
 clear q_ r_; clear_value wa46
 obtain ⟨q_, r_⟩ := St.fillS (j := 41) h3 (by decide)
 refine ⟨q_, ?_⟩
 intro wa47
 replace h3 : St wa47 _ := r_
 clear q_ r_; clear_value wa47
 obtain ⟨q_, r_⟩ := St.fillS (j := 42) h3 (by decide)
 refine ⟨q_, ?_⟩
 intro wa48
 replace h3 : St wa48 _ := r_
 clear q_ r_; clear_value wa48
 obtain ⟨q_, r_⟩ := St.fillS (j := 43) h3 (by decide)
 refine ⟨q_, ?_⟩
 intro wa49
 replace h3 : St wa49 _ := r_
 clear q_ r_; clear_value wa49
 obtain ⟨q_, r_⟩ := St.fillS (j := 44) h3 (by decide)
 refine ⟨q_, ?_⟩
 intro wa50
 replace h3 : St wa50 _ := r_
 clear q_ r_; clear_value wa50
 obtain ⟨q_, r_⟩ := St.fillS (j := 45) h3 (by decide)
 refine ⟨q_, ?_⟩
 intro wa51
 replace h3 : St wa51 _ := r_
 clear q_ r_; clear_value wa51
 obtain ⟨q_, r_⟩ := St.fillS (j := 46) h3 (by decide)
 refine ⟨q_, ?_⟩
 intro wa52
 replace h3 : St wa52 _ := r_
 clear q_ r_; clear_value wa52
 obtain ⟨q_, r_⟩ := St.fillS (j := 47) h3 (by decide)
 refine ⟨q_, ?_⟩
 intro wa53
 replace h3 : St wa53 _ := r_
 clear q_ r_; clear_value wa53
 obtain ⟨q_, r_⟩ := St.fillS (j := 48) h3 (by decide)
 refine ⟨q_, ?_⟩
 intro wa54
 replace h3 : St wa54 _ := r_
 clear q_ r_; clear_value wa54
 obtain ⟨q_, r_⟩ := St.fillS (j := 49) h3 (by decide)
 refine ⟨q_, ?_⟩
 intro wa55
 replace h3 : St wa55 _ := r_
 clear q_ r_; clear_value wa55
 obtain ⟨q_, r_⟩ := St.fillS (j := 50) h3 (by decide)
 refine ⟨q_, ?_⟩
 intro wa56
 replace h3 : St wa56 _ := r_
 clear q_ r_; clear_value wa56
 obtain ⟨q_, r_⟩ := St.fillS (j := 51) h3 (by decide)
 refine ⟨q_, ?_⟩
 intro wa57
 replace h3 : St wa57 _ := r_
 clear q_ r_; clear_value wa57
 obtain ⟨q_, r_⟩ := St.fillS (j := 52) h3 (by decide)
 refine ⟨q_, ?_⟩
 intro wa58
 replace h3 : St wa58 _ := r_
 clear q_ r_; clear_value wa58
 obtain ⟨q_, r_⟩ := St.fillS (j := 53) h3 (by decide)
 refine ⟨q_, ?_⟩
 intro wa59
 replace h3 : St wa59 _ := r_
 clear q_ r_; clear_value wa59
 obtain ⟨q_, r_⟩ := St.fillS (j := 54) h3 (by decide)
 refine ⟨q_, ?_⟩
 intro wa60
 replace h3 : St wa60 _ := r_
 clear q_ r_; clear_value wa60
 obtain ⟨q_, r_⟩ := St.fillS (j := 55) h3 (by decide)
 refine ⟨q_, ?_⟩
 intro wa61
 replace h3 : St wa61 _ := r_
 clear q_ r_; clear_value wa61
 obtain ⟨q_, r_⟩ := St.fillS (j := 56) h3 (by decide)
 refine ⟨q_, ?_⟩
 intro wa62
 replace h3 : St wa62 _ := r_
 clear q_ r_; clear_value wa62
 obtain ⟨q_, r_⟩ := St.fillS (j := 57) h3 (by decide)
 refine ⟨q_, ?_⟩
 intro wa63
 replace h3 : St wa63 _ := r_
 clear q_ r_; clear_value wa63
 obtain ⟨q_, r_⟩ := St.fillS (j := 58) h3 (by decide)
 refine ⟨q_, ?_⟩
 intro wa64
 replace h3 : St wa64 _ := r_
 clear q_ r_; clear_value wa64
 obtain ⟨q_, r_⟩ := St.fillS (j := 59) h3 (by decide)
 refine ⟨q_, ?_⟩
 intro wa65
 replace h3 : St wa65 _ := r_
 clear q_ r_; clear_value wa65
 obtain ⟨q_, r_⟩ := St.fillS (j := 60) h3 (by decide)
 refine ⟨q_, ?_⟩
 intro wa66
 replace h3 : St wa66 _ := r_
 clear q_ r_; clear_value wa66
 obtain ⟨q_, r_⟩ := St.fillS (j := 61) h3 (by decide)
 refine ⟨q_, ?_⟩
 intro wa67
 replace h3 : St wa67 _ := r_
 clear q_ r_; clear_value wa67
 obtain ⟨q_, r_⟩ := St.fillS (j := 62) h3 (by decide)
 refine ⟨q_, ?_⟩
 intro wa68
 replace h3 : St wa68 _ := r_
 clear q_ r_; clear_value wa68
 obtain ⟨q_, r_⟩ := St.fillS (j := 63) h3 (by decide)
 refine ⟨q_, ?_⟩
 intro wa69
 replace h3 : St wa69 _ := r_
 clear q_ r_; clear_value wa69
 rw [filled_all] at h3
 refine ⟨_, St.colGet h3 (j := 0) (by decide), _, St.colGet h3 (j := 1) (by decide), _, St.colGet h3 (j := 2) (by decide), _, St.colGet h3 (j := 3) (by decide), _, St.colGet h3 (j := 4) (by decide), _, St.colGet h3 (j := 5) (by decide), _, St.colGet h3 (j := 6) (by decide), _, St.colGet h3 (j := 7) (by decide), _, St.colGet h3 (j := 8) (by decide), _, St.colGet h3 (j := 9) (by decide), _, St.colGet h3 (j := 10) (by decide), _, St.colGet h3 (j := 11) (by decide), _, St.colGet h3 (j := 12) (by decide), _, St.colGet h3 (j := 13) (by decide), _, St.colGet h3 (j := 14) (by decide), _, St.colGet h3 (j := 15) (by decide), _, St.colGet h3 (j := 16) (by decide), _, St.colGet h3 (j := 17) (by decide), _, St.colGet h3 (j := 18) (by decide), _, St.colGet h3 (j := 19) (by decide), _, St.colGet h3 (j := 20) (by decide), _, St.colGet h3 (j := 21) (by decide), _, St.colGet h3 (j := 22) (by decide), _, St.colGet h3 (j := 23) (by decide), _, St.colGet h3 (j := 24) (by decide), _, St.colGet h3 (j := 25) (by decide), _, St.colGet h3 (j := 26) (by decide), _, St.colGet h3 (j := 27) (by decide), _, St.colGet h3 (j := 28) (by decide), _, St.colGet h3 (j := 29) (by decide), _, St.colGet h3 (j := 30) (by decide), _, St.colGet h3 (j := 31) (by decide), _, St.colGet h3 (j := 32) (by decide), _, St.colGet h3 (j := 33) (by decide), _, St.colGet h3 (j := 34) (by decide), _, St.colGet h3 (j := 35) (by decide), _, St.colGet h3 (j := 36) (by decide), _, St.colGet h3 (j := 37) (by decide), _, St.colGet h3 (j := 38) (by decide), _, St.colGet h3 (j := 39) (by decide), _, St.colGet h3 (j := 40) (by decide), _, St.colGet h3 (j := 41) (by decide), _, St.colGet h3 (j := 42) (by decide), _, St.colGet h3 (j := 43) (by decide), _, St.colGet h3 (j := 44) (by decide), _, St.colGet h3 (j := 45) (by decide), _, St.colGet h3 (j := 46) (by decide), _, St.colGet h3 (j := 47) (by decide), _, St.colGet h3 (j := 48) (by decide), _, St.colGet h3 (j := 49) (by decide), _, St.colGet h3 (j := 50) (by decide), _, St.colGet h3 (j := 51) (by decide), _, St.colGet h3 (j := 52) (by decide), _, St.colGet h3 (j := 53) (by decide), _, St.colGet h3 (j := 54) (by decide), _, St.colGet h3 (j := 55) (by decide), _, St.colGet h3 (j := 56) (by decide), _, St.colGet h3 (j := 57) (by decide), _, St.colGet h3 (j := 58) (by decide), _, St.colGet h3 (j := 59) (by decide), _, St.colGet h3 (j := 60) (by decide), _, St.colGet h3 (j := 61) (by decide), _, St.colGet h3 (j := 62) (by decide), _, St.colGet h3 (j := 63) (by decide), ?_⟩
 exact hR _ h3.drop.drop
abbrev c8 (s : S8) : List Value := [.int .u32 s.a, .int .u32 s.b, .int .u32 s.c, .int .u32 s.d, .int .u32 s.e, .int .u32 s.f, .int .u32 s.g, .int .u32 s.h]
set_option maxHeartbeats 16000000 in
set_option maxRecDepth 100000 in
theorem mix2_st (h : St w X) {s : S8} {b : Bs} (hb : b.length = 64) {R : Int → Int → Int → Int → Int → Int → Int → Int → World → Prop}
   (hR : ∀ w', St w' X → R (mix2 (W2 b 0) s).a (mix2 (W2 b 0) s).b (mix2 (W2 b 0) s).c (mix2 (W2 b 0) s).d (mix2 (W2 b 0) s).e (mix2 (W2 b 0) s).f (mix2 (W2 b 0) s).g (mix2 (W2 b 0) s).h w') : F.shatwo_mix s.a s.b s.c s.d s.e s.f s.g s.h (tx b) w R := by
 apply E.shatwo_mix
 unfold V.shatwo_mix
 try simp (config := { zeta := false }) only [cnd_all, Nat.reduceAdd]
 intro wa1
 replace h : St wa1 (Cs _ _ _ :: _) := h.new _ _
 clear_value wa1
 generalize w.heap.size = gh at *
 intro wa2
 replace h : St wa2 (Cs _ _ _ :: _) := h.new _ _
 clear_value wa2
 generalize wa1.heap.size = go at *
 refine words_st h hb fun w1 h1 => keys_st h1 fun w2 h2 => ?_
 intro wa3
 replace h2 : St wa3 (Cs _ _ _ :: _) := h2.new _ _
 clear_value wa3
 generalize w2.heap.size = gw at *
 intro wa4
 replace h2 : St wa4 (Cs _ _ _ :: _) := h2.new _ _
 clear_value wa4
 generalize wa3.heap.size = gk at *
 replace h2 : St wa4 (Cs gw (col 64 (filled (W2 b 0) 0)) T.y_64_uint32 :: Cs gk (col 64 (filled kw2 0)) T.y_64_uint32 :: Cs go [.int .u32 0, .int .u32 0, .int .u32 0, .int .u32 0, .int .u32 0, .int .u32 0, .int .u32 0, .int .u32 0] T.y_8_uint32 :: Cs gh (c8 s) T.y_8_uint32 :: X) := by rw [filled_zero, filled_zero]; exact h2.sw
 obtain ⟨q_, r_⟩ := St.fillS (j := 0) h2 (by decide)
 refine ⟨q_, ?_⟩
 intro wa5
 replace h2 : St wa5 _ := r_
 clear q_ r_; clear_value wa5
 obtain ⟨q_, r_⟩ := St.fillS (j := 1) h2 (by decide)
 refine ⟨q_, ?_⟩
 intro wa6
 replace h2 : St wa6 _ := r_
 clear q_ r_; clear_value wa6
 obtain ⟨q_, r_⟩ := St.fillS (j := 2) h2 (by decide)
 refine ⟨q_, ?_⟩
 intro wa7
 replace h2 : St wa7 _ := r_
 clear q_ r_; clear_value wa7
 obtain ⟨q_, r_⟩ := St.fillS (j := 3) h2 (by decide)
 refine ⟨q_, ?_⟩
 intro wa8
 replace h2 : St wa8 _ := r_
 clear q_ r_; clear_value wa8
 obtain ⟨q_, r_⟩ := St.fillS (j := 4) h2 (by decide)
 refine ⟨q_, ?_⟩
 intro wa9
 replace h2 : St wa9 _ := r_
 clear q_ r_; clear_value wa9
 obtain ⟨q_, r_⟩ := St.fillS (j := 5) h2 (by decide)
 refine ⟨q_, ?_⟩
 intro wa10
 replace h2 : St wa10 _ := r_
 clear q_ r_; clear_value wa10
 obtain ⟨q_, r_⟩ := St.fillS (j := 6) h2 (by decide)
 refine ⟨q_, ?_⟩
 intro wa11
 replace h2 : St wa11 _ := r_
 clear q_ r_; clear_value wa11
 obtain ⟨q_, r_⟩ := St.fillS (j := 7) h2 (by decide)
 refine ⟨q_, ?_⟩
 intro wa12
 replace h2 : St wa12 _ := r_
 clear q_ r_; clear_value wa12
 obtain ⟨q_, r_⟩ := St.fillS (j := 8) h2 (by decide)
 refine ⟨q_, ?_⟩
 intro wa13
 replace h2 : St wa13 _ := r_
 clear q_ r_; clear_value wa13
 obtain ⟨q_, r_⟩ := St.fillS (j := 9) h2 (by decide)
 refine ⟨q_, ?_⟩
 intro wa14
 replace h2 : St wa14 _ := r_
 clear q_ r_; clear_value wa14
 obtain ⟨q_, r_⟩ := St.fillS (j := 10) h2 (by decide)
 refine ⟨q_, ?_⟩
 intro wa15
 replace h2 : St wa15 _ := r_
 clear q_ r_; clear_value wa15
 obtain ⟨q_, r_⟩ := St.fillS (j := 11) h2 (by decide)
 refine ⟨q_, ?_⟩
 intro wa16
 replace h2 : St wa16 _ := r_
 clear q_ r_; clear_value wa16
 obtain ⟨q_, r_⟩ := St.fillS (j := 12) h2 (by decide)
 refine ⟨q_, ?_⟩
 intro wa17
 replace h2 : St wa17 _ := r_
 clear q_ r_; clear_value wa17
 obtain ⟨q_, r_⟩ := St.fillS (j := 13) h2 (by decide)
 refine ⟨q_, ?_⟩
 intro wa18
 replace h2 : St wa18 _ := r_
 clear q_ r_; clear_value wa18
 obtain ⟨q_, r_⟩ := St.fillS (j := 14) h2 (by decide)
 refine ⟨q_, ?_⟩
 intro wa19
 replace h2 : St wa19 _ := r_
 clear q_ r_; clear_value wa19
 obtain ⟨q_, r_⟩ := St.fillS (j := 15) h2 (by decide)
 refine ⟨q_, ?_⟩
 intro wa20
 replace h2 : St wa20 _ := r_
 clear q_ r_; clear_value wa20
 obtain ⟨q_, r_⟩ := St.fillS (j := 16) h2 (by decide)
 refine ⟨q_, ?_⟩
 intro wa21
 replace h2 : St wa21 _ := r_
 clear q_ r_; clear_value wa21
 obtain ⟨q_, r_⟩ := St.fillS (j := 17) h2 (by decide)
 refine ⟨q_, ?_⟩
 intro wa22
 replace h2 : St wa22 _ := r_
 clear q_ r_; clear_value wa22
 obtain ⟨q_, r_⟩ := St.fillS (j := 18) h2 (by decide)
 refine ⟨q_, ?_⟩
 intro wa23
 replace h2 : St wa23 _ := r_
 clear q_ r_; clear_value wa23
 obtain ⟨q_, r_⟩ := St.fillS (j := 19) h2 (by decide)
 refine ⟨q_, ?_⟩
 intro wa24
 replace h2 : St wa24 _ := r_
 clear q_ r_; clear_value wa24
 obtain ⟨q_, r_⟩ := St.fillS (j := 20) h2 (by decide)
 refine ⟨q_, ?_⟩
 intro wa25
 replace h2 : St wa25 _ := r_
 clear q_ r_; clear_value wa25
 obtain ⟨q_, r_⟩ := St.fillS (j := 21) h2 (by decide)
 refine ⟨q_, ?_⟩
 intro wa26
 replace h2 : St wa26 _ := r_
 clear q_ r_; clear_value wa26
 obtain ⟨q_, r_⟩ := St.fillS (j := 22) h2 (by decide)
 refine ⟨q_, ?_⟩
 intro wa27
 replace h2 : St wa27 _ := r_
 clear q_ r_; clear_value wa27
 obtain ⟨q_, r_⟩ := St.fillS (j := 23) h2 (by decide)
 refine ⟨q_, ?_⟩
 intro wa28
 replace h2 : St wa28 _ := r_
 clear q_ r_; clear_value wa28
 obtain ⟨q_, r_⟩ := St.fillS (j := 24) h2 (by decide)
 refine ⟨q_, ?_⟩
 intro wa29
 replace h2 : St wa29 _ := r_
 clear q_ r_; clear_value wa29
 obtain ⟨q_, r_⟩ := St.fillS (j := 25) h2 (by decide)
 refine ⟨q_, ?_⟩
 intro wa30
 replace h2 : St wa30 _ := r_
 clear q_ r_; clear_value wa30
 obtain ⟨q_, r_⟩ := St.fillS (j := 26) h2 (by decide)
 refine ⟨q_, ?_⟩
 intro wa31
 replace h2 : St wa31 _ := r_
 clear q_ r_; clear_value wa31
 obtain ⟨q_, r_⟩ := St.fillS (j := 27) h2 (by decide)
 refine ⟨q_, ?_⟩
 intro wa32
 replace h2 : St wa32 _ := r_
 clear q_ r_; clear_value wa32
 obtain ⟨q_, r_⟩ := St.fillS (j := 28) h2 (by decide)
 refine ⟨q_, ?_⟩
 intro wa33
 replace h2 : St wa33 _ := r_
 clear q_ r_; clear_value wa33
 obtain ⟨q_, r_⟩ := St.fillS (j := 29) h2 (by decide)
 refine ⟨q_, ?_⟩
 intro wa34
 replace h2 : St wa34 _ := r_
 clear q_ r_; clear_value wa34
 obtain ⟨q_, r_⟩ := St.fillS (j := 30) h2 (by decide)
 refine ⟨q_, ?_⟩
 intro wa35
 replace h2 : St wa35 _ := r_
 clear q_ r_; clear_value wa35
 obtain ⟨q_, r_⟩ := St.fillS (j := 31) h2 (by decide)
 refine ⟨q_, ?_⟩
 intro wa36
 replace h2 : St wa36 _ := r_
 clear q_ r_; clear_value wa36
 obtain ⟨q_, r_⟩ := St.fillS (j := 32) h2 (by decide)
 refine ⟨q_, ?_⟩
 intro wa37
 replace h2 : St wa37 _ := r_
 clear q_ r_; clear_value wa37
 obtain ⟨q_, r_⟩ := St.fillS (j := 33) h2 (by decide)
 refine ⟨q_, ?_⟩
 intro wa38
 replace h2 : St wa38 _ := r_
 clear q_ r_; clear_value wa38
 obtain ⟨q_, r_⟩ := St.fillS (j := 34) h2 (by decide)
 refine ⟨q_, ?_⟩
 intro wa39
 replace h2 : St wa39 _ := r_
 clear q_ r_; clear_value wa39
 obtain ⟨q_, r_⟩ := St.fillS (j := 35) h2 (by decide)
 refine ⟨q_, ?_⟩
 intro wa40
 replace h2 : St wa40 _ := r_
 clear q_ r_; clear_value wa40
 obtain ⟨q_, r_⟩ := St.fillS (j := 36) h2 (by decide)
 refine ⟨q_, ?_⟩
 intro wa41
 replace h2 : St wa41 _ := r_
 clear q_ r_; clear_value wa41
 obtain ⟨q_, r_⟩ := St.fillS (j := 37) h2 (by decide)
 refine ⟨q_, ?_⟩
 intro wa42
 replace h2 : St wa42 _ := r_
 clear q_ r_; clear_value wa42
 obtain ⟨q_, r_⟩ := St.fillS (j := 38) h2 (by decide)
 refine ⟨q_, ?_⟩
 intro wa43
 replace h2 : St wa43 _ := r_
 clear q_ r_; clear_value wa43
 obtain ⟨q_, r_⟩ := St.fillS (j := 39) h2 (by decide)
 refine ⟨q_, ?_⟩
 intro wa44
 replace h2 : St wa44 _ := r_
 clear q_ r_; clear_value wa44
 obtain ⟨q_, r_⟩ := St.fillS (j := 40) h2 (by decide)
 refine ⟨q_, ?_⟩
 intro wa45
 replace h2 : St wa45 _ := r_
 clear q_ r_; clear_value wa45
 obtain ⟨q_, r_⟩ := St.fillS (j := 41) h2 (by decide)
 refine ⟨q_, ?_⟩
 intro wa46
 replace h2 : St wa46 _ := r_
 clear q_ r_; clear_value wa46
 obtain ⟨q_, r_⟩ := St.fillS (j := 42) h2 (by decide)
 refine ⟨q_, ?_⟩
 intro wa47
 replace h2 : St wa47 _ := r_
 clear q_ r_; clear_value wa47
 obtain ⟨q_, r_⟩ := St.fillS (j := 43) h2 (by decide)
 refine ⟨q_, ?_⟩
 intro wa48
 replace h2 : St wa48 _ := r_
 clear q_ r_; clear_value wa48
 obtain ⟨q_, r_⟩ := St.fillS (j := 44) h2 (by decide)
 refine ⟨q_, ?_⟩
 intro wa49
 replace h2 : St wa49 _ := r_
 clear q_ r_; clear_value wa49
 obtain ⟨q_, r_⟩ := St.fillS (j := 45) h2 (by decide)
 refine ⟨q_, ?_⟩
 intro wa50
 replace h2 : St wa50 _ := r_
 clear q_ r_; clear_value wa50
 obtain ⟨q_, r_⟩ := St.fillS (j := 46) h2 (by decide)
 refine ⟨q_, ?_⟩
 intro wa51
 replace h2 : St wa51 _ := r_
 clear q_ r_; clear_value wa51
 obtain ⟨q_, r_⟩ := St.fillS (j := 47) h2 (by decide)
 refine ⟨q_, ?_⟩
 intro wa52
 replace h2 : St wa52 _ := r_
 clear q_ r_; clear_value wa52
 obtain ⟨q_, r_⟩ := St.fillS (j := 48) h2 (by decide)
 refine ⟨q_, ?_⟩
 intro wa53
 replace h2 : St wa53 _ := r_
 clear q_ r_; clear_value wa53
 obtain ⟨q_, r_⟩ := St.fillS (j := 49) h2 (by decide)
 refine ⟨q_, ?_⟩
 intro wa54
 replace h2 : St wa54 _ := r_
 clear q_ r_; clear_value wa54
 obtain ⟨q_, r_⟩ := St.fillS (j := 50) h2 (by decide)
 refine ⟨q_, ?_⟩
 intro wa55
 replace h2 : St wa55 _ := r_
 clear q_ r_; clear_value wa55
 obtain ⟨q_, r_⟩ := St.fillS (j := 51) h2 (by decide)
 refine ⟨q_, ?_⟩
 intro wa56
 replace h2 : St wa56 _ := r_
 clear q_ r_; clear_value wa56
 obtain ⟨q_, r_⟩ := St.fillS (j := 52) h2 (by decide)
 refine ⟨q_, ?_⟩
 intro wa57
 replace h2 : St wa57 _ := r_
 clear q_ r_; clear_value wa57
 obtain ⟨q_, r_⟩ := St.fillS (j := 53) h2 (by decide)
 refine ⟨q_, ?_⟩
 intro wa58
 replace h2 : St wa58 _ := r_
 clear q_ r_; clear_value wa58
 obtain ⟨q_, r_⟩ := St.fillS (j := 54) h2 (by decide)
 refine ⟨q_, ?_⟩
 intro wa59
 replace h2 : St wa59 _ := r_
 clear q_ r_; clear_value wa59
 obtain ⟨q_, r_⟩ := St.fillS (j := 55) h2 (by decide)
 refine ⟨q_, ?_⟩
 intro wa60
 replace h2 : St wa60 _ := r_
 clear q_ r_; clear_value wa60
 obtain ⟨q_, r_⟩ := St.fillS (j := 56) h2 (by decide)
 refine ⟨q_, ?_⟩
 intro wa61
 replace h2 : St wa61 _ := r_
 clear q_ r_; clear_value wa61
 obtain ⟨q_, r_⟩ := St.fillS (j := 57) h2 (by decide)
 refine ⟨q_, ?_⟩
 intro wa62
 replace h2 : St wa62 _ := r_
 clear q_ r_; clear_value wa62
 obtain ⟨q_, r_⟩ := St.fillS (j := 58) h2 (by decide)
 refine ⟨q_, ?_⟩
 intro wa63
 replace h2 : St wa63 _ := r_
 clear q_ r_; clear_value wa63
 obtain ⟨q_, r_⟩ := St.fillS (j := 59) h2 (by decide)
 refine ⟨q_, ?_⟩
 intro wa64
 replace h2 : St wa64 _ := r_
 clear q_ r_; clear_value wa64
 obtain ⟨q_, r_⟩ := St.fillS (j := 60) h2 (by decide)
 refine ⟨q_, ?_⟩
 intro wa65
 replace h2 : St wa65 _ := r_
 clear q_ r_; clear_value wa65
 obtain ⟨q_, r_⟩ := St.fillS (j := 61) h2 (by decide)
 refine ⟨q_, ?_⟩
 intro wa66
 replace h2 : St wa66 _ := r_
 clear q_ r_; clear_value wa66
 obtain ⟨q_, r_⟩ := St.fillS (j := 62) h2 (by decide)
 refine ⟨q_, ?_⟩
 intro wa67
 replace h2 : St wa67 _ := r_
 clear q_ r_; clear_value wa67
 obtain ⟨q_, r_⟩ := St.fillS (j := 63) h2 (by decide)
 refine ⟨q_, ?_⟩
 intro wa68
 replace h2 : St wa68 _ := r_
 clear q_ r_; clear_value wa68
 rw [filled_all] at h2
 replace h2 := h2.sw
 obtain ⟨q_, r_⟩ := St.fillS (j := 0) h2 (by decide)
 refine ⟨q_, ?_⟩
 intro wa69
 replace h2 : St wa69 _ := r_
 clear q_ r_; clear_value wa69
 obtain ⟨q_, r_⟩ := St.fillS (j := 1) h2 (by decide)
 refine ⟨q_, ?_⟩
 intro wa70
 replace h2 : St wa70 _ := r_
 clear q_ r_; clear_value wa70
 obtain ⟨q_, r_⟩ := St.fillS (j := 2) h2 (by decide)
 refine ⟨q_, ?_⟩
 intro wa71
 replace h2 : St wa71 _ := r_
 clear q_ r_; clear_value wa71
 obtain ⟨q_, r_⟩ := St.fillS (j := 3) h2 (by decide)
 refine ⟨q_, ?_⟩
 intro wa72
 replace h2 : St wa72 _ := r_
 clear q_ r_; clear_value wa72
 obtain ⟨q_, r_⟩ := St.fillS (j := 4) h2 (by decide)
 refine ⟨q_, ?_⟩
 intro wa73
 replace h2 : St wa73 _ := r_
 clear q_ r_; clear_value wa73
 obtain ⟨q_, r_⟩ := St.fillS (j := 5) h2 (by decide)
 refine ⟨q_, ?_⟩
 intro wa74
 replace h2 : St wa74 _ := r_
 clear q_ r_; clear_value wa74
 obtain ⟨q_, r_⟩ := St.fillS (j := 6) h2 (by decide)
 refine ⟨q_, ?_⟩
 intro wa75
 replace h2 : St wa75 _ := r_
 clear q_ r_; clear_value wa75
 obtain ⟨q_, r_⟩ := St.fillS (j := 7) h2 (by decide)
 refine ⟨q_, ?_⟩
 intro wa76
 replace h2 : St wa76 _ := r_
 clear q_ r_; clear_value wa76
 obtain ⟨q_, r_⟩ := St.fillS (j := 8) h2 (by decide)
 refine ⟨q_, ?_⟩
 intro wa77
 replace h2 : St wa77 _ := r_
 clear q_ r_; clear_value wa77
 obtain ⟨q_, r_⟩ := St.fillS (j := 9) h2 (by decide)
 refine ⟨q_, ?_⟩
 intro wa78
 replace h2 : St wa78 _ := r_
 clear q_ r_; clear_value wa78
 obtain ⟨q_, r_⟩ := St.fillS (j := 10) h2 (by decide)
 refine ⟨q_, ?_⟩
 intro wa79
 replace h2 : St wa79 _ := r_
 clear q_ r_; clear_value wa79
 obtain ⟨q_, r_⟩ := St.fillS (j := 11) h2 (by decide)
 refine ⟨q_, ?_⟩
 intro wa80
 replace h2 : St wa80 _ := r_
 clear q_ r_; clear_value wa80
 obtain ⟨q_, r_⟩ := St.fillS (j := 12) h2 (by decide)
 refine ⟨q_, ?_⟩
 intro wa81
 replace h2 : St wa81 _ := r_
 clear q_ r_; clear_value wa81
 obtain ⟨q_, r_⟩ := St.fillS (j := 13) h2 (by decide)
 refine ⟨q_, ?_⟩
 intro wa82
 replace h2 : St wa82 _ := r_
 clear q_ r_; clear_value wa82
 obtain ⟨q_, r_⟩ := St.fillS (j := 14) h2 (by decide)
 refine ⟨q_, ?_⟩
 intro wa83
 replace h2 : St wa83 _ := r_
 clear q_ r_; clear_value wa83
 obtain ⟨q_, r_⟩ := St.fillS (j := 15) h2 (by decide)
 refine ⟨q_, ?_⟩
 intro wa84
 replace h2 : St wa84 _ := r_
 clear q_ r_; clear_value wa84
 obtain ⟨q_, r_⟩ := St.fillS (j := 16) h2 (by decide)
 refine ⟨q_, ?_⟩
 intro wa85
 replace h2 : St wa85 _ := r_
 clear q_ r_; clear_value wa85
 obtain ⟨q_, r_⟩ := St.fillS (j := 17) h2 (by decide)
 refine ⟨q_, ?_⟩
 intro wa86
 replace h2 : St wa86 _ := r_
 clear q_ r_; clear_value wa86
 obtain ⟨q_, r_⟩ := St.fillS (j := 18) h2 (by decide)
 refine ⟨q_, ?_⟩
 intro wa87
 replace h2 : St wa87 _ := r_
 clear q_ r_; clear_value wa87
 obtain ⟨q_, r_⟩ := St.fillS (j := 19) h2 (by decide)
 refine ⟨q_, ?_⟩
 intro wa88
 replace h2 : St wa88 _ := r_
 clear q_ r_; clear_value wa88
 obtain ⟨q_, r_⟩ := St.fillS (j := 20) h2 (by decide)
 refine ⟨q_, ?_⟩
 intro wa89
 replace h2 : St wa89 _ := r_
 clear q_ r_; clear_value wa89
 obtain ⟨q_, r_⟩ := St.fillS (j := 21) h2 (by decide)
 refine ⟨q_, ?_⟩
 intro wa90
 replace h2 : St wa90 _ := r_
 clear q_ r_; clear_value wa90
 obtain ⟨q_, r_⟩ := St.fillS (j := 22) h2 (by decide)
 refine ⟨q_, ?_⟩
 intro wa91
 replace h2 : St wa91 _ := r_
 clear q_ r_; clear_value wa91
 obtain ⟨q_, r_⟩ := St.fillS (j := 23) h2 (by decide)
 refine ⟨q_, ?_⟩
 intro wa92
 replace h2 : St wa92 _ := r_
 clear q_ r_; clear_value wa92
 obtain ⟨q_, r_⟩ := St.fillS (j := 24) h2 (by decide)
 refine ⟨q_, ?_⟩
 intro wa93
 replace h2 : St wa93 _ := r_
 clear q_ r_; clear_value wa93
 obtain ⟨q_, r_⟩ := St.fillS (j := 25) h2 (by decide)
 refine ⟨q_, ?_⟩
 intro wa94
 replace h2 : St wa94 _ := r_
 clear q_ r_; clear_value wa94
 obtain ⟨q_, r_⟩ := St.fillS (j := 26) h2 (by decide)
 refine ⟨q_, ?_⟩
 intro wa95
 replace h2 : St wa95 _ := r_
 clear q_ r_; clear_value wa95
 obtain ⟨q_, r_⟩ := St.fillS (j := 27) h2 (by decide)
 refine ⟨q_, ?_⟩
 intro wa96
 replace h2 : St wa96 _ := r_
 clear q_ r_; clear_value wa96
 obtain ⟨q_, r_⟩ := St.fillS (j := 28) h2 (by decide)
 refine ⟨q_, ?_⟩
 intro wa97
 replace h2 : St wa97 _ := r_
 clear q_ r_; clear_value wa97
 obtain ⟨q_, r_⟩ := St.fillS (j := 29) h2 (by decide)
 refine ⟨q_, ?_⟩
 intro wa98
 replace h2 : St wa98 _ := r_
 clear q_ r_; clear_value wa98
 obtain ⟨q_, r_⟩ := St.fillS (j := 30) h2 (by decide)
 refine ⟨q_, ?_⟩
 intro wa99
 replace h2 : St wa99 _ := r_
 clear q_ r_; clear_value wa99
 obtain ⟨q_, r_⟩ := St.fillS (j := 31) h2 (by decide)
 refine ⟨q_, ?_⟩
 intro wa100
 replace h2 : St wa100 _ := r_
 clear q_ r_; clear_value wa100
 obtain ⟨q_, r_⟩ := St.fillS (j := 32) h2 (by decide)
 refine ⟨q_, ?_⟩
 intro wa101
 replace h2 : St wa101 _ := r_
 clear q_ r_; clear_value wa101
 obtain ⟨q_, r_⟩ := St.fillS (j := 33) h2 (by decide)
 refine ⟨q_, ?_⟩
 intro wa102
 replace h2 : St wa102 _ := r_
 clear q_ r_; clear_value wa102
 obtain ⟨q_, r_⟩ := St.fillS (j := 34) h2 (by decide)
 refine ⟨q_, ?_⟩
 intro wa103
 replace h2 : St wa103 _ := r_
 clear q_ r_; clear_value wa103
 obtain ⟨q_, r_⟩ := St.fillS (j := 35) h2 (by decide)
 refine ⟨q_, ?_⟩
 intro wa104
 replace h2 : St wa104 _ := r_
 clear q_ r_; clear_value wa104
 obtain ⟨q_, r_⟩ := St.fillS (j := 36) h2 (by decide)
 refine ⟨q_, ?_⟩
 intro wa105
 replace h2 : St wa105 _ := r_
 clear q_ r_; clear_value wa105
 obtain ⟨q_, r_⟩ := St.fillS (j := 37) h2 (by decide)
 refine ⟨q_, ?_⟩
 intro wa106
 replace h2 : St wa106 _ := r_
 clear q_ r_; clear_value wa106
 obtain ⟨q_, r_⟩ := St.fillS (j := 38) h2 (by decide)
 refine ⟨q_, ?_⟩
 intro wa107
 replace h2 : St wa107 _ := r_
 clear q_ r_; clear_value wa107
 obtain ⟨q_, r_⟩ := St.fillS (j := 39) h2 (by decide)
 refine ⟨q_, ?_⟩
 intro wa108
 replace h2 : St wa108 _ := r_
 clear q_ r_; clear_value wa108
 obtain ⟨q_, r_⟩ := St.fillS (j := 40) h2 (by decide)
 refine ⟨q_, ?_⟩
 intro wa109
 replace h2 : St wa109 _ := r_
 clear q_ r_; clear_value wa109
 obtain ⟨q_, r_⟩ := St.fillS (j := 41) h2 (by decide)
 refine ⟨q_, ?_⟩
 intro wa110
 replace h2 : St wa110 _ := r_
 clear q_ r_; clear_value wa110
 obtain ⟨q_, r_⟩ := St.fillS (j := 42) h2 (by decide)
 refine ⟨q_, ?_⟩
 intro wa111
 replace h2 : St wa111 _ := r_
 clear q_ r_; clear_value wa111
 obtain ⟨q_, r_⟩ := St.fillS (j := 43) h2 (by decide)
 refine ⟨q_, ?_⟩
 intro wa112
 replace h2 : St wa112 _ := r_
 clear q_ r_; clear_value wa112
 obtain ⟨q_, r_⟩ := St.fillS (j := 44) h2 (by decide)
 refine ⟨q_, ?_⟩
 intro wa113
 replace h2 : St wa113 _ := r_
 clear q_ r_; clear_value wa113
 obtain ⟨q_, r_⟩ := St.fillS (j := 45) h2 (by decide)
 refine ⟨q_, ?_⟩
 intro wa114
 replace h2 : St wa114 _ := r_
 clear q_ r_; clear_value wa114
 obtain ⟨q_, r_⟩ := St.fillS (j := 46) h2 (by decide)
 refine ⟨q_, ?_⟩
 intro wa115
 replace h2 : St wa115 _ := r_
 clear q_ r_; clear_value wa115
 obtain ⟨q_, r_⟩ := St.fillS (j := 47) h2 (by decide)
 refine ⟨q_, ?_⟩
 intro wa116
 replace h2 : St wa116 _ := r_
 clear q_ r_; clear_value wa116
 obtain ⟨q_, r_⟩ := St.fillS (j := 48) h2 (by decide)
 refine ⟨q_, ?_⟩
 intro wa117
 replace h2 : St wa117 _ := r_
 clear q_ r_; clear_value wa117
 obtain ⟨q_, r_⟩ := St.fillS (j := 49) h2 (by decide)
 refine ⟨q_, ?_⟩
 intro wa118
 replace h2 : St wa118 _ := r_
 clear q_ r_; clear_value wa118
 obtain ⟨q_, r_⟩ := St.fillS (j := 50) h2 (by decide)
 refine ⟨q_, ?_⟩
 intro wa119
 replace h2 : St wa119 _ := r_
 clear q_ r_; clear_value wa119
 obtain ⟨q_, r_⟩ := St.fillS (j := 51) h2 (by decide)
 refine ⟨q_, ?_⟩
 intro wa120
 replace h2 : St wa120 _ := r_
 clear q_ r_; clear_value wa120
 obtain ⟨q_, r_⟩ := St.fillS (j := 52) h2 (by decide)
 refine ⟨q_, ?_⟩
 intro wa121
 replace h2 : St wa121 _ := r_
 clear q_ r_; clear_value wa121
 obtain ⟨q_, r_⟩ := St.fillS (j := 53) h2 (by decide)
 refine ⟨q_, ?_⟩
 intro wa122
 replace h2 : St wa122 _ := r_
 clear q_ r_; clear_value wa122
 obtain ⟨q_, r_⟩ := St.fillS (j := 54) h2 (by decide)
 refine ⟨q_, ?_⟩
 intro wa123
 replace h2 : St wa123 _ := r_
 clear q_ r_; clear_value wa123
 obtain ⟨q_, r_⟩ := St.fillS (j := 55) h2 (by decide)
 refine ⟨q_, ?_⟩
 intro wa124
 replace h2 : St wa124 _ := r_
 clear q_ r_; clear_value wa124
 obtain ⟨q_, r_⟩ := St.fillS (j := 56) h2 (by decide)
 refine ⟨q_, ?_⟩
 intro wa125
 replace h2 : St wa125 _ := r_
 clear q_ r_; clear_value wa125
 obtain ⟨q_, r_⟩ := St.fillS (j := 57) h2 (by decide)
 refine ⟨q_, ?_⟩
 intro wa126
 replace h2 : St wa126 _ := r_
 clear q_ r_; clear_value wa126
 obtain ⟨q_, r_⟩ := St.fillS (j := 58) h2 (by decide)
 refine ⟨q_, ?_⟩
 intro wa127
 replace h2 : St wa127 _ := r_
 clear q_ r_; clear_value wa127
 obtain ⟨q_, r_⟩ := St.fillS (j := 59) h2 (by decide)
 refine ⟨q_, ?_⟩
 intro wa128
 replace h2 : St wa128 _ := r_
 clear q_ r_; clear_value wa128
 obtain ⟨q_, r_⟩ := St.fillS (j := 60) h2 (by decide)
 refine ⟨q_, ?_⟩
 intro wa129
 replace h2 : St wa129 _ := r_
 clear q_ r_; clear_value wa129
 obtain ⟨q_, r_⟩ := St.fillS (j := 61) h2 (by decide)
 refine ⟨q_, ?_⟩
 intro wa130
 replace h2 : St wa130 _ := r_
 clear q_ r_; clear_value wa130
 obtain ⟨q_, r_⟩ := St.fillS (j := 62) h2 (by decide)
 refine ⟨q_, ?_⟩
 intro wa131
 replace h2 : St wa131 _ := r_
 clear q_ r_; clear_value wa131
 obtain ⟨q_, r_⟩ := St.fillS (j := 63) h2 (by decide)
 refine ⟨q_, ?_⟩
 intro wa132
 replace h2 : St wa132 _ := r_
 clear q_ r_; clear_value wa132
 rw [filled_all] at h2
 -- keys, words, out, state
 intro wa133
 replace h2 : St wa133 _ := h2.drew
 clear_value wa133
 have hs := h2.up3
 refine ⟨by decide, by decide, _, hs.cell 0, by decide, by decide, _, hs.cell 1, by decide, by decide, _, hs.cell 2, by decide, by decide, _, hs.cell 3, by decide, by decide, _, hs.cell 4, by decide, by decide, _, hs.cell 5, by decide, by decide, _, hs.cell 6, by decide, by decide, _, hs.cell 7, ?_⟩
 refine ⟨fun a b' c d e f g i n w' => ∃ t : Nat, n = t ∧ t ≤ 64 ∧ (⟨a, b', c, d, e, f, g, i⟩ : S8) = steps2 (W2 b 0) s t ∧ St w' (Cs gk (col 64 kw2) T.y_64_uint32 :: Cs gw (col 64 (W2 b 0)) T.y_64_uint32 :: Cs go [.int .u32 0, .int .u32 0, .int .u32 0, .int .u32 0, .int .u32 0, .int .u32 0, .int .u32 0, .int .u32 0] T.y_8_uint32 :: Cs gh (c8 s) T.y_8_uint32 :: X), fun _ _ _ _ _ _ _ _ n _ => (64 - n).toNat, ⟨0, rfl, Nat.zero_le _, rfl, h2⟩, ?_⟩
 rintro a b' c d e f g i n w4 ⟨t, rfl, ht, hst, h4⟩
 refine ⟨fun hlt => ?_, fun hge => ?_⟩
 · have hlt : t < 64 := by first | omega | (have := of_decide_eq_true hlt; omega)
   have e1 : w64 ((t : Int) + 1) = ((t + 1 : Nat) : Int) := by rw [w64_id (by omega) (by omega)]; omega
   intro wa134
   replace h4 : St wa134 _ := h4.drew
   clear_value wa134
   simp -zeta only [Int.toNat_natCast, Nat.mul_one]
   have gk1 := St.colGet h4 (j := t) (by omega)
   have gw1 := St.colGet h4.sw (j := t) (by omega)
   refine ⟨by omega, by omega, _, gk1, by omega, by omega, _, gw1, right_spec (k' := 26) (by decide) (by decide) (by decide) ⟨gw1, gk1, right_spec (k' := 21) (by decide) (by decide) (by decide) ⟨gw1, gk1, right_spec (k' := 7) (by decide) (by decide) (by decide) ⟨gw1, gk1, right_spec (k' := 30) (by decide) (by decide) (by decide) (right_spec (k' := 19) (by decide) (by decide) (by decide) (right_spec (k' := 10) (by decide) (by decide) (by decide) ?_))⟩⟩⟩⟩
   rw [e1]
   refine ⟨⟨t + 1, rfl, hlt, ?_, h4⟩, (by first | omega | (dsimp only; omega))⟩
   show _ = step2 _ t (steps2 _ s t)
   rw [← hst]
   rfl
 have htt : t = 64 := by first | omega | (have := of_decide_eq_false hge; omega)
 subst htt
 have hs4 := h4.up3
 refine ⟨by decide, by decide, _, hs4.cell 0, by decide, by decide, _, hs4.cell 1, by decide, by decide, _, hs4.cell 2, by decide, by decide, _, hs4.cell 3, by decide, by decide, _, hs4.cell 4, by decide, by decide, _, hs4.cell 5, by decide, by decide, _, hs4.cell 6, by decide, by decide, _, hs4.cell 7, ?_⟩
 replace h4 := h4.up2
 refine ⟨h4.wr0 (by simp), ?_⟩
 intro wa135
 replace h4 : St wa135 _ := h4.set0 _
 clear_value wa135
 refine ⟨h4.wr (by simp), ?_⟩
 intro wa136
 replace h4 : St wa136 _ := h4.set 1 _
 clear_value wa136
 refine ⟨h4.wr (by simp), ?_⟩
 intro wa137
 replace h4 : St wa137 _ := h4.set 2 _
 clear_value wa137
 refine ⟨h4.wr (by simp), ?_⟩
 intro wa138
 replace h4 : St wa138 _ := h4.set 3 _
 clear_value wa138
 refine ⟨h4.wr (by simp), ?_⟩
 intro wa139
 replace h4 : St wa139 _ := h4.set 4 _
 clear_value wa139
 refine ⟨h4.wr (by simp), ?_⟩
 intro wa140
 replace h4 : St wa140 _ := h4.set 5 _
 clear_value wa140
 refine ⟨h4.wr (by simp), ?_⟩
 intro wa141
 replace h4 : St wa141 _ := h4.set 6 _
 clear_value wa141
 refine ⟨h4.wr (by simp), ?_⟩
 intro wa142
 replace h4 : St wa142 _ := h4.set 7 _
 clear_value wa142
 simp only [List.set_cons_zero, List.set_cons_succ] at h4
 refine ⟨_, h4.cell0, _, h4.cell 1, _, h4.cell 2, _, h4.cell 3, _, h4.cell 4, _, h4.cell 5, _, h4.cell 6, _, h4.cell 7, ?_⟩
 have ha : a = (steps2 (W2 b 0) s 64).a := by rw [← hst]
 have hb' : b' = (steps2 (W2 b 0) s 64).b := by rw [← hst]
 have hc : c = (steps2 (W2 b 0) s 64).c := by rw [← hst]
 have hd : d = (steps2 (W2 b 0) s 64).d := by rw [← hst]
 have he : e = (steps2 (W2 b 0) s 64).e := by rw [← hst]
 have hf : f = (steps2 (W2 b 0) s 64).f := by rw [← hst]
 have hg : g = (steps2 (W2 b 0) s 64).g := by rw [← hst]
 have hi : i = (steps2 (W2 b 0) s 64).h := by rw [← hst]
 subst ha hb' hc hd he hf hg hi
 exact hR _ h4.drop.drop.drop.drop
end
end Go.Proofs.YtmokmbhhnbcelaaGreatDoor
