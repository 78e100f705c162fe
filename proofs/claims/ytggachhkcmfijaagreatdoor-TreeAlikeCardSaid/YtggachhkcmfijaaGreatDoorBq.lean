/- mark: fingerprints, and those of the document. -/
import Derived.Test.YtggachhkcmfijaaGreatDoorGg
import Derived.Test.YtggachhkcmfijaaGreatDoorEa
import Derived.Test.YtggachhkcmfijaaGreatDoorSq
import Derived.Test.YtggachhkcmfijaaGreatDoorCy
set_option linter.unusedVariables false
namespace Go.Proofs.YtggachhkcmfijaaGreatDoor
open Go Go.Vc Go.RowKit Go.Lib
def szN (k : Nat) : Nat := if k = 1 then 20 else if k = 2 then 32 else 0
def layPr (k : Nat) (s : Bs) : Bs := [UInt8.ofNat k] ++ s ++ List.replicate (32 - s.length) 0
/-- what a print's bytes are read as -/
def readPr (b : Bs) : Option (Nat × Bs) :=
 if b.length = 33 ∧ 0 < szN (b.getD 0 0).toNat ∧ (b.drop (1 + szN (b.getD 0 0).toNat)).all (fun x => decide (x = 0)) = true then some ((b.getD 0 0).toNat, (b.drop 1).take (szN (b.getD 0 0).toNat)) else none
theorem szN_pos {k : Nat} : 0 < szN k ↔ k = 1 ∨ k = 2 := by
 unfold szN
 by_cases h : k = 1
 · simp [h]
 · by_cases h2 : k = 2 <;> simp [h, h2]
theorem szN_le (k : Nat) : szN k ≤ 32 := by unfold szN; split <;> (try split) <;> decide
theorem layPr_len {k : Nat} {s : Bs} (h : s.length ≤ 32) : (layPr k s).length = 33 := by simp [layPr]; omega
theorem readPr_some {b : Bs} {k : Nat} {s : Bs} : readPr b = some (k, s) ↔ (k = 1 ∨ k = 2) ∧ s.length = szN k ∧ b = layPr k s := by
 unfold readPr
 constructor
 · intro h
   split at h
   · rename_i hc
     obtain ⟨h1, h2, h3⟩ := hc
     have h3 : ∀ x ∈ b.drop (1 + szN (b.getD 0 0).toNat), x = 0 := fun x hx => of_decide_eq_true (List.all_eq_true.1 h3 x hx)
     simp only [Option.some.injEq, Prod.mk.injEq] at h
     obtain ⟨hk, hs⟩ := h
     have hk12 := szN_pos.1 h2
     rw [hk] at h3 hs hk12
     have hz := szN_le k
     have hl : s.length = szN k := by rw [← hs, List.length_take, List.length_drop]; omega
     refine ⟨hk12, hl, ?_⟩
     obtain ⟨x, t, rfl⟩ : ∃ x t, b = x :: t := by
       rcases b with _ | ⟨x, t⟩
       · cases h1
       · exact ⟨x, t, rfl⟩
     have hx : x = UInt8.ofNat k := by
       rw [← hk]; simp
     have e3 : t.drop (szN k) = List.replicate (32 - s.length) 0 := by
       refine List.eq_replicate_iff.2 ⟨by rw [List.length_drop, hl]; simp at h1; omega, fun y hy => h3 y ?_⟩
       rw [Nat.add_comm]; exact hy
     have e2 : t.take (szN k) = s := hs
     show x :: t = [UInt8.ofNat k] ++ s ++ List.replicate (32 - s.length) 0
     rw [hx, ← e3, ← e2]
     show _ :: t = _ :: (t.take (szN k) ++ t.drop (szN k))
     rw [List.take_append_drop]
   · cases h
 · rintro ⟨hk, hl, rfl⟩
   have hz := szN_le k
   have hk0 : ((layPr k s).getD 0 0).toNat = k := by
     show (UInt8.ofNat k).toNat = k
     rcases hk with rfl | rfl <;> rfl
   rw [hk0]
   have e1 : (layPr k s).drop (1 + szN k) = List.replicate (32 - s.length) 0 := by
     rw [Nat.add_comm]
     show (s ++ List.replicate (32 - s.length) 0).drop (szN k) = _
     rw [← hl, List.drop_left]
   have e2 : ((layPr k s).drop 1).take (szN k) = s := by
     show (s ++ List.replicate (32 - s.length) 0).take (szN k) = _
     rw [← hl, List.take_left]
   rw [if_pos ⟨layPr_len (by omega), szN_pos.2 hk, List.all_eq_true.2 fun x hx => decide_eq_true (by rw [e1] at hx; exact (List.mem_replicate.1 hx).2)⟩, e2]
def sumK (k : Nat) (s : Bs) : Bs := if k = 1 then sha1 s else sha2 s
theorem sumK_len {k : Nat} (h : k = 1 ∨ k = 2) (s : Bs) : (sumK k s).length = szN k := by
 unfold sumK
 rcases h with rfl | rfl
 · exact sha1_len s
 · exact sha2_len s
section
variable {w : World} {X : List As}
theorem RefPrint_st (h : St w X) {kind : Nat} (hk : kind = 1 ∨ kind = 2) {s : Bs} (hs : s.length ≤ 1000000000) {R : Int → ByteArray → World → Prop}
   (hR : ∀ w', St w' X → R (kind : Int) (tx (sumK kind s)) w') : F.masonryref1_Print (kind : Int) (tx s) w R := by
 apply E.masonryref1_Print
 unfold V.masonryref1_Print
 try simp -zeta only [ldC, soC, brC, bkA, slC, stC, alC, drC]
 try simp (config := { zeta := false }) only [cnd_all, Nat.reduceAdd]
 intro wa1
 replace h : St wa1 (Cs _ _ _ :: _) := h.new _ _
 clear_value wa1
 refine ⟨fun e => ?_, fun e => ?_⟩
 · have : kind = 1 := by omega
   subst this
   refine RefOne_st h hs fun w1 h1 => ?_
   refine ⟨h1.wr0 (by simp), ?_⟩
   intro wa2
   replace h1 : St wa2 _ := h1.set0 _
   clear_value wa2
   refine ⟨h1.wr (by simp), ?_⟩
   intro wa3
   replace h1 : St wa3 _ := h1.set 1 _
   clear_value wa3
   simp only [List.set_cons_zero, List.set_cons_succ] at h1
   refine ⟨_, h1.cell0, _, h1.cell 1, ?_⟩
   exact hR _ h1.drop
 · have : kind = 2 := by omega
   subst this
   refine RefTwo_st h hs fun w1 h1 => ?_
   refine ⟨h1.wr0 (by simp), ?_⟩
   intro wa4
   replace h1 : St wa4 _ := h1.set0 _
   clear_value wa4
   refine ⟨h1.wr (by simp), ?_⟩
   intro wa5
   replace h1 : St wa5 _ := h1.set 1 _
   clear_value wa5
   simp only [List.set_cons_zero, List.set_cons_succ] at h1
   refine ⟨_, h1.cell0, _, h1.cell 1, ?_⟩
   exact hR _ h1.drop
theorem Size_mark {k : Nat} {R : Int → World → Prop} (hR : R (szN k : Int) w) : F.mark_Size (k : Int) w R := by
 apply E.mark_Size
 unfold V.mark_Size
 try simp -zeta only [ldC, soC, brC, bkA, slC, stC, alC, drC]
 try simp (config := { zeta := false }) only [cnd_all, Nat.reduceAdd]
 unfold szN at hR
 refine ⟨fun e => ?_, fun e => ⟨fun e2 => ?_, fun e2 => ?_⟩⟩
 · rw [if_pos (by omega)] at hR; exact hR
 · rw [if_neg (by omega), if_pos (by omega)] at hR; exact hR
 · rw [if_neg (by omega), if_neg (by omega)] at hR; exact hR
theorem Valid_mark (h : St w X) {k : Nat} {s : Bs} {R : Bool → World → Prop} (hR : ∀ w', St w' X → R (decide (0 < szN k ∧ s.length = szN k)) w') : F.mark_Valid (k : Int) (tx s) w R := by
 apply E.mark_Valid
 unfold V.mark_Valid
 try simp -zeta only [ldC, soC, brC, bkA, slC, stC, alC, drC]
 try simp (config := { zeta := false }) only [cnd_all, Nat.reduceAdd]
 intro wa1
 replace h : St wa1 (Cs _ _ _ :: _) := h.new _ _
 clear_value wa1
 intro wa2
 replace h : St wa2 _ := h.drew
 clear_value wa2
 refine ⟨_, h.cell0, Size_mark ⟨fun e => ⟨_, h.cell 1, _, h.cell0, Size_mark ⟨h.cell 1, ?_⟩⟩, fun e => ?_⟩⟩
 · have := hR _ h.drop
   have e2 : decide (0 < szN k ∧ s.length = szN k) = (((tx s).size : Int) == (szN k : Int)) := by
     rw [tx_size, Bool.eq_iff_iff, decide_eq_true_iff, beq_iff_eq]; omega
   rw [e2] at this
   exact this
 · have := hR _ h.drop
   rw [decide_eq_false (by omega)] at this
   exact this
theorem InS.rest {g : Nat} {l : Bs} (h : St w (InS g l 0 :: X)) (hl : l.length ≤ 1000000000) {R : Bool → World → Prop} (hR : ∀ w', St w' (InS g l 0 :: X) → R (l.all (fun x => decide (x = 0))) w') : F.bits_In_Rest (some (blk g)) w R := by
 apply E.bits_In_Rest
 unfold V.bits_In_Rest
 try simp -zeta only [ldC, soC, brC, bkA, slC, stC, alC, drC]
 have hI := (InS.put h).1
 refine ⟨fun _ => ⟨blk g, rfl, 0, by rw [blk_cell hI.obj]; rfl, fun _ => ⟨blk g, rfl, tx l, by rw [blk_cell0 hI.obj]; rfl, Trim_zero (by omega) fun w' hw' => ?_⟩, fun e => (by cases e)⟩, fun e => (by cases e)⟩
 have e : sEq (tx (trim [0] l)) sNil = l.all (fun x => decide (x = 0)) := by
   rw [tx_nil, tx_eq, Bool.eq_iff_iff, decide_eq_true_eq, trim_nil]
   have e2 : (fun b : UInt8 => [(0 : UInt8)].contains b) = fun x => decide (x = 0) := by
     funext b
     simp
   rw [e2]
 rw [e]
 exact hR w' (h.below hw')
theorem OutS.pad {g : Nat} {bs : List UInt8} (h : St w (OutS g bs :: X)) {n : Nat} (hn : n ≤ 65536) (hb : bs.length ≤ n) {R : Option Addr → World → Prop} (hR : ∀ w', St w' (OutS g (padTo n bs) :: X) → R (some (blk g)) w') : F.bits_Out_Pad (some (blk g)) (n : Int) w R := by
 obtain ⟨l, b, hO, hX, hd, hput⟩ := OutS.open h
 refine Out_Pad hO hn (by omega) fun l' w' ho hf hm => ?_
 have e1 : pad1 n (bs, 0) = (padTo n bs, 0) := by simp [pad1, hb]
 rw [e1] at ho
 exact hR w' (hput ho hf hm)
theorem Lay_mark (h : St w X) {k : Nat} (hk : k = 1 ∨ k = 2) {s : Bs} (hs : s.length = szN k) {R : ByteArray → Int → World → Prop} (hR : ∀ w', St w' X → R (tx (layPr k s)) 0 w') : F.mark_Lay (k : Int) (tx s) w R := by
 apply E.mark_Lay
 unfold V.mark_Lay
 try simp -zeta only [ldC, soC, brC, bkA, slC, stC, alC, drC]
 try simp (config := { zeta := false }) only [cnd_all, Nat.reduceAdd]
 intro wa1
 replace h : St wa1 (Cs _ _ _ :: _) := h.new _ _
 clear_value wa1
 have hz := szN_le k
 refine ⟨_, h.cell0, _, h.cell 1, Valid_mark h fun w1 h1 => ?_⟩
 rw [decide_eq_true ⟨szN_pos.2 hk, hs⟩]
 refine ⟨fun e => (by cases e), fun _ => ?_⟩
 intro wa2
 replace h1 : St wa2 _ := h1.drew
 clear_value wa2
 generalize w.heap.size = q at *
 refine ⟨_, h1.cell0, _, h1.cell 1, fun w2 g hB2 hg2 hn2 ho2 w3 g1 hB3 hg3 hn3 ho3 w4 hB4 => ?_⟩
 have h4 := ((h1.fz.iv hB2 hg2 hn2 ho2).iv hB3 hg3 hn3 ho3).iv0 hB4
 refine OutS.byte (vs := [(k : Int)]) (OutS.of h4.up2).up2.sw (fun v hv => by simp at hv; omega) (by simp) rfl fun w5 h5 => ?_
 obtain ⟨k5, h5⟩ := h5.sw.drop.sw.kp
 have q5 := h5.up2
 refine ⟨k5, q5.cell 1, q5.cell0, fun w6 g2 hB6 hg6 hn6 ho6 w7 hB7 => ?_⟩
 refine OutS.raw (s := s) ((h5.iv hB6 hg6 hn6 ho6).iv0 hB7).up2.up2.sw (by simp [leBytes_len]; omega) fun w8 h8 => ?_
 obtain ⟨k8, h8⟩ := h8.sw.drop.sw.kp
 have q8 := h8.up2
 refine ⟨k8, q8.cell 1, q8.cell0, fun w10 hB10 => ?_⟩
 refine OutS.pad (n := 33) (h8.iv0 hB10).sw (by decide) (by simp [leBytes_len]; omega) fun w11 h11 => ?_
 obtain ⟨k11, h11⟩ := h11.sw.kp
 have q11 := h11.up2
 refine ⟨k11, q11.cell 1, q11.cell0, fun w12 hB12 => ?_⟩
 refine OutS.end_ (h11.iv0 hB12).sw fun w13 h13 => ?_
 obtain ⟨k13, h13⟩ := h13.sw.kp
 have q13 := h13.up2
 refine ⟨k13, q13.cell 1, q13.cell0, fun w14 hB14 => ?_⟩
 have h14 := (h13.iv0 hB14).drop.drop.drop
 have e : padTo 33 ([] ++ [(k : Int)].flatMap (leBytes 1) ++ s) = layPr k s := by
   have e1 : leByte 0 (k : Int) = UInt8.ofNat k := by
     unfold leByte
     rcases hk with rfl | rfl <;> rfl
   simp [padTo, layPr, leBytes, e1]
   try omega
 rw [e]
 exact hR _ h14
theorem Read_mark (h : St w X) {b : Bs} (hb : b.length ≤ 1000000000) {R : Int → ByteArray → Int → World → Prop} (hB : ∀ e w', readPr b = none → e ≠ 0 → St w' X → R 0 sNil e w')
   (hR : ∀ k s w', readPr b = some (k, s) → St w' X → R (k : Int) (tx s) 0 w') : F.mark_Read (tx b) w R := by
 apply E.mark_Read
 unfold V.mark_Read
 try simp -zeta only [ldC, soC, brC, bkA, slC, stC, alC, drC]
 try simp (config := { zeta := false }) only [cnd_all, Nat.reduceAdd]
 intro wa1
 replace h : St wa1 (Cs _ _ _ :: _) := h.new _ _
 clear_value wa1
 refine ⟨fun hne => ?_, fun heq => ?_⟩
 · refine ⟨h.wr0 (by simp), ?_⟩
   intro wa2
   replace h : St wa2 _ := h.set0 _
   clear_value wa2
   refine ⟨h.wr (by simp), ?_⟩
   intro wa3
   replace h : St wa3 _ := h.set 1 _
   clear_value wa3
   simp only [List.set_cons_zero, List.set_cons_succ] at h
   refine ⟨_, h.cell0, _, h.cell 1, ?_⟩
   exact hB 5 _ (by unfold readPr; rw [if_neg (fun hh => hne (by rw [hh.1]; rfl))]) (by decide) h.drop
 have hl : b.length = 33 := by omega
 obtain ⟨x, t, rfl⟩ : ∃ x t, b = x :: t := by
   rcases b with _ | ⟨x, t⟩
   · cases hl
   · exact ⟨x, t, rfl⟩
 have hlt : t.length = 32 := by simpa using hl
 refine InS.on h fun g w2 h2 => InS.byte h2 (by omega) fun w3 h3 => ?_
 have el : lowIn 1 (x :: t) 0 = (((x.toNat : Nat) : Int), t, 0) := by
   have hx := x.toNat_lt
   have er : rawIn 1 (x :: t) 0 = ([x], t, 0) := by
     unfold rawIn
     rw [if_neg (by decide), if_neg (by decide), if_neg (by omega)]
     rfl
   unfold lowIn
   have e0 : ((1 : Nat) : Int) = 1 := rfl
   rw [e0, er]
   have e3 : leVal [x] = x.toNat := by simp [leVal]
   simp only [e3]
   rw [if_pos (by omega)]
 rw [el] at h3 ⊢
 simp -zeta only at h3 ⊢
 intro wa4
 replace h3 : St wa4 (Cs _ _ _ :: _) := h3.new _ _
 clear_value wa4
 refine ⟨h3.wr0 (by simp), ?_⟩
 intro wa5
 replace h3 : St wa5 _ := h3.set0 _
 clear_value wa5
 refine ⟨h3.wr (by simp), ?_⟩
 intro wa6
 replace h3 : St wa6 _ := h3.set 1 _
 clear_value wa6
 simp only [List.set_cons_zero, List.set_cons_succ] at h3
 refine ⟨_, h3.cell0, ?_⟩
 refine Size_mark ?_
 refine InS.raw h3.sw (by omega) fun w4 h4 => ?_
 have hz := szN_le x.toNat
 have er : rawIn (szN x.toNat : Int) t 0 = (t.take (szN x.toNat), t.drop (szN x.toNat), 0) := by
   unfold rawIn
   rw [if_neg (by decide), if_neg (by omega), if_neg (by omega), Int.toNat_natCast]
 rw [er] at h4 ⊢
 simp -zeta only at h4 ⊢
 have h4 := h4.sw
 refine ⟨h4.wr (by simp), ?_⟩
 intro wa7
 replace h4 : St wa7 _ := h4.set 1 _
 clear_value wa7
 refine ⟨fun v w' => St w' (Cs w3.heap.size [.int .i64 (x.toNat : Int), .string (tx (t.take (szN x.toNat)))] T.y_api_Print :: InS g (t.drop (szN x.toNat)) 0 :: Cs w.heap.size [.int .i64 0, .string sNil] T.y_api_Print :: X) ∧ v = !decide (0 < szN x.toNat ∧ (t.drop (szN x.toNat)).all (fun y => decide (y = 0)) = true), ?_, ?_⟩
 · refine ⟨_, h4.cell0, _, h4.cell 1, ?_⟩
   refine Valid_mark h4 fun w5 h5 => ?_
   have etl : (t.take (szN x.toNat)).length = szN x.toNat := by rw [List.length_take]; omega
   refine ⟨fun hv => ⟨h5, ?_⟩, fun hv => ?_⟩
   · simp only [decide_eq_false_iff_not] at hv
     rw [decide_eq_false (fun hh => hv ⟨hh.1, etl⟩)]; rfl
   · simp only [decide_eq_true_eq] at hv
     refine InS.rest h5.sw (by rw [List.length_drop]; omega) fun w6 h6 => ⟨h6.sw, ?_⟩
     congr 1
     rw [Bool.eq_iff_iff, decide_eq_true_iff]
     exact ⟨fun hh => ⟨hv.1, hh⟩, fun hh => hh.2⟩
 · rintro v w5 ⟨h5, rfl⟩
   have erd : readPr (x :: t) = if 0 < szN x.toNat ∧ (t.drop (szN x.toNat)).all (fun y => decide (y = 0)) = true then some (x.toNat, t.take (szN x.toNat)) else none := by
     unfold readPr
     have e1 : (x :: t).drop (1 + szN x.toNat) = t.drop (szN x.toNat) := by rw [Nat.add_comm]; rfl
     show (if (x :: t).length = 33 ∧ 0 < szN x.toNat ∧ ((x :: t).drop (1 + szN x.toNat)).all _ = true then some (x.toNat, ((x :: t).drop 1).take (szN x.toNat)) else none) = _
     rw [e1]
     simp only [hl, true_and]
     rfl
   refine ⟨fun hv => ?_, fun hv => ?_⟩
   · simp only [Bool.not_eq_true', decide_eq_false_iff_not] at hv
     have h6 := h5.drop.drop
     refine ⟨h6.wr0 (by simp), ?_⟩
     intro wa8
     replace h6 : St wa8 _ := h6.set0 _
     clear_value wa8
     refine ⟨h6.wr (by simp), ?_⟩
     intro wa9
     replace h6 : St wa9 _ := h6.set 1 _
     clear_value wa9
     simp only [List.set_cons_zero, List.set_cons_succ] at h6
     refine ⟨_, h6.cell0, _, h6.cell 1, ?_⟩
     exact hB 6 _ (by rw [erd, if_neg hv]) (by decide) h6.drop
   · simp only [Bool.not_eq_false', decide_eq_true_eq] at hv
     refine ⟨_, h5.cell0, _, h5.cell 1, ?_⟩
     have h6 := h5.up2
     refine ⟨h6.wr0 (by simp), ?_⟩
     intro wa10
     replace h6 : St wa10 _ := h6.set0 _
     clear_value wa10
     refine ⟨h6.wr (by simp), ?_⟩
     intro wa11
     replace h6 : St wa11 _ := h6.set 1 _
     clear_value wa11
     simp only [List.set_cons_zero, List.set_cons_succ] at h6
     refine ⟨_, h6.cell0, _, h6.cell 1, ?_⟩
     exact hR _ _ _ (by rw [erd, if_pos hv]) h6.drop.drop.drop
end
end Go.Proofs.YtggachhkcmfijaaGreatDoor

/- entries as bytes, and back; the chains of a table; plain. -/
set_option linter.unusedVariables false
namespace Go.Proofs.YtggachhkcmfijaaGreatDoor
open Go Go.Vc Go.RowKit Go.Lib
/-- an entry that may be -/
def okE (x : Ey) : Prop := (x.k = 1 ∨ x.k = 2) ∧ x.s.length = szN x.k.toNat ∧ 1 ≤ x.a ∧ x.a < 2000
instance (x : Ey) : Decidable (okE x) := by unfold okE; infer_instance
def encE (x : Ey) : Bs := layPr x.k.toNat x.s ++ leBytes 2 x.a
def encL (l : List Ey) : Bs := l.flatMap encE
theorem okE.kk {x : Ey} (h : okE x) : x.k.toNat = 1 ∨ x.k.toNat = 2 := by rcases h.1 with e | e <;> rw [e] <;> decide
theorem okE.k0 {x : Ey} (h : okE x) : ((x.k.toNat : Nat) : Int) = x.k := by rcases h.1 with e | e <;> rw [e] <;> rfl
theorem okE.layl {x : Ey} (h : okE x) : (layPr x.k.toNat x.s).length = 33 := layPr_len (by rw [h.2.1]; exact szN_le _)
theorem encE_len {x : Ey} (h : okE x) : (encE x).length = 35 := by rw [encE, List.length_append, h.layl, leBytes_len]
theorem encL_cons (x : Ey) (l : List Ey) : encL (x :: l) = encE x ++ encL l := by simp [encL]
theorem encL_len : ∀ {l : List Ey}, (∀ x ∈ l, okE x) → (encL l).length = 35 * l.length
 | [], _ => rfl
 | x :: l, h => by
   rw [encL_cons, List.length_append, encE_len (h x (List.mem_cons_self ..)), encL_len fun y hy => h y (List.mem_cons_of_mem _ hy), List.length_cons]; omega
theorem encE_read {x : Ey} (h : okE x) (r : Bs) : rawIn 33 (encE x ++ r) 0 = (layPr x.k.toNat x.s, leBytes 2 x.a ++ r, 0) ∧ lowIn 2 (leBytes 2 x.a ++ r) 0 = (x.a, r, 0) ∧ readPr (layPr x.k.toNat x.s) = some (x.k.toNat, x.s) := by
 refine ⟨?_, lowIn_layI (by have := h.2.2; omega) (by have := h.2.2; have e2 : (256 : Int) ^ 2 = 65536 := by decide
                                                      omega) (by decide) r, readPr_some.2 ⟨h.kk, h.2.1, rfl⟩⟩
 have := rawIn_app (layPr x.k.toNat x.s) (leBytes 2 x.a ++ r)
 rw [h.layl] at this
 rw [encE, List.append_assoc]
 exact this
theorem needN_mono {a b : Nat} (h : a ≤ b) : needN a ≤ needN b := by
 unfold needN
 split <;> split <;> omega
/-! ### Chains -/
/-- a chain that is there -/
def Ch (es : List Ent) (gen p tag : Int) (d : Bs) : Prop := ∃ e ∈ es, e.x.at_ = p ∧ e.x.gen = gen ∧ e.x.tag = tag ∧ e.x.data = d
def nz (ps : List Int) : List Int := ps.filter fun p => decide (p ≠ 0)
/-- these are all chains that there are -/
def Cov (es : List Ent) (ps : List Int) : Prop := (es.map fun e => e.x.at_).Perm (nz ps)
section
variable {D : DkV} {es a b : List Ent} {e e' : Ent} {ps : List Int}
theorem Ent.first (h : EntOk D e) : e.x.at_ ∈ e.ps := by
 rw [← h.at_]
 exact ps_mem.2 ⟨0, h.chn.pos.1, rfl⟩
theorem nz_mem {p : Int} : p ∈ nz ps ↔ p ∈ ps ∧ p ≠ 0 := by unfold nz; rw [List.mem_filter, decide_eq_true_eq]
theorem nz_app (p q : List Int) : nz (p ++ q) = nz p ++ nz q := List.filter_append ..
theorem nz_len (ps : List Int) : (nz ps).length ≤ ps.length := List.length_filter_le ..
theorem Cov.len (h : Cov es ps) : es.length ≤ ps.length := by
 have := h.length_eq
 rw [List.length_map] at this
 rw [this]; exact nz_len ps
/-- how much room there is -/
theorem allP_le {q : Nat} : ∀ {es : List Ent}, (∀ e ∈ es, e.n ≤ q) → (allP es).length ≤ es.length * q
 | [], _ => by simp [allP]
 | e :: r, h => by
   rw [allP_cons, List.length_append, Ent.ps_len, List.length_cons]
   have h1 := h e (List.mem_cons_self ..)
   have h2 := allP_le (es := r) fun f hf => h f (List.mem_cons_of_mem _ hf)
   have : (r.length + 1) * q = r.length * q + q := Nat.succ_mul _ _
   omega
theorem Have.room (hH : Have D es) (hc : Cov es ps) {M : Nat} (hl : ∀ e ∈ es, e.x.data.length ≤ M) {k : Nat} (hk : k ≤ M) (hr : (ps.length + 1) * needN M + 2 ≤ D.bs.length) : needN k ≤ freeN D.bs := by
 have h1 := hH.free
 have h2 := allP_le (es := es) (q := needN M) fun e he => needN_mono (hl e he)
 have h3 := Nat.mul_le_mul_right (needN M) hc.len
 have h4 := needN_mono hk
 have : (ps.length + 1) * needN M = ps.length * needN M + needN M := Nat.succ_mul _ _
 omega
/-! ### A table -/
end
end Go.Proofs.YtggachhkcmfijaaGreatDoor

/- what is added and dropped, and in which order; plain. -/
set_option linter.unusedVariables false
namespace Go.Proofs.YtggachhkcmfijaaGreatDoor
open Go Go.Vc Go.RowKit Go.Lib
/-- one is added, dropped; the second part is an error -/
def addS (st : List Ey × Int) (x : Ey) : List Ey × Int := if st.2 ≠ 0 then st else if ¬ okE x then (st.1, 1) else if x ∈ st.1 then (st.1, 9) else if 1500 ≤ st.1.length then (st.1, 2) else (insE st.1 x, 0)
def allF (f : List Ey × Int → Ey → List Ey × Int) (L l : List Ey) : List Ey × Int := l.foldl f (L, 0)
section
variable {f : List Ey × Int → Ey → List Ey × Int} {L l : List Ey}
theorem allF_take {m : Nat} (h : m < l.length) : allF f L (l.take (m + 1)) = f (allF f L (l.take m)) l[m] := by
 unfold allF
 rw [List.take_succ_eq_append_getElem h, List.foldl_append]; rfl
theorem fold_err (hf : ∀ st x, st.2 ≠ 0 → f st x = st) : ∀ (l : List Ey) (st : List Ey × Int), st.2 ≠ 0 → l.foldl f st = st
 | [], _, _ => rfl
 | x :: l, st, h => by rw [List.foldl_cons, hf st x h]; exact fold_err hf l st h
theorem allF_err (hf : ∀ st x, st.2 ≠ 0 → f st x = st) {m : Nat} (h : (allF f L (l.take m)).2 ≠ 0) : allF f L l = allF f L (l.take m) := by
 have e : l = l.take m ++ l.drop m := (List.take_append_drop m l).symm
 unfold allF at *
 conv => lhs; rw [e, List.foldl_append]
 exact fold_err hf _ _ h
end
theorem addS_err (st : List Ey × Int) (x : Ey) (h : st.2 ≠ 0) : addS st x = st := if_pos h
def GoodE (l : List Ey) : Prop := Srt l ∧ ∀ x ∈ l, okE x
theorem insE_len (l : List Ey) (x : Ey) : (insE l x).length = l.length + 1 := by
 have := cntE_le l x
 unfold insE
 rw [List.length_append, List.length_cons, List.length_take, List.length_drop]; omega
theorem addS_len (st : List Ey × Int) (x : Ey) : (addS st x).1.length ≤ st.1.length + 1 := by
 unfold addS
 split
 · omega
 split
 · show st.1.length ≤ _; omega
 split
 · show st.1.length ≤ _; omega
 split
 · show st.1.length ≤ _; omega
 · show (insE st.1 x).length ≤ _; rw [insE_len]; omega
theorem allF_len {f : List Ey × Int → Ey → List Ey × Int} (hf : ∀ (st : List Ey × Int) (x : Ey), (f st x).1.length ≤ st.1.length + 1) (L l : List Ey) : (allF f L l).1.length ≤ L.length + l.length := by
 have : ∀ (l : List Ey) (st : List Ey × Int), (l.foldl f st).1.length ≤ st.1.length + l.length := fun l => by
   induction l with
   | nil => exact fun st => Nat.le_refl _
   | cons x l ih =>
     intro st
     have h1 := ih (f st x)
     have h2 := hf st x
     rw [List.foldl_cons, List.length_cons]; omega
 exact this l _
/-! ### Sorting -/
def cfE (x y : Ey) : Int := if ltE x y then -1 else if x = y then 0 else 1
theorem cfE_lt (x y : Ey) : cfE x y < 0 ↔ ltE x y := by
 unfold cfE
 by_cases h : ltE x y
 · simp [h]
 · rw [if_neg h]
   by_cases e : x = y
   · simp [e, ltE_irrefl]
   · rw [if_neg e]; simp [h]
theorem cfE_eq (x y : Ey) : cfE x y = 0 ↔ x = y := by
 unfold cfE
 by_cases h : ltE x y
 · rw [if_pos h]
   exact ⟨fun h => (by cases h), fun e => absurd (e ▸ h) (ltE_irrefl y)⟩
 · rw [if_neg h]
   by_cases e : x = y <;> simp [e]
/-- the place of an entry -/
theorem cnt_uniq {l : List Ey} {x : Ey} {i : Nat} (hi : i ≤ l.length) (h1 : ∀ k (hk : k < l.length), k < i → ltE l[k] x) (h2 : ∀ k (hk : k < l.length), i ≤ k → ¬ ltE l[k] x) : cntE l x = i := by
 have e : cntE l x = cntE (l.take i) x + cntE (l.drop i) x := by
   unfold cntE
   rw [← List.countP_append, List.take_append_drop]
 have e1 : cntE (l.take i) x = i := by
   have : cntE (l.take i) x = (l.take i).length := List.countP_eq_length.2 fun y hy => by
     obtain ⟨k, hk, rfl⟩ := List.mem_iff_getElem.1 hy
     rw [List.length_take] at hk
     rw [List.getElem_take]
     exact decide_eq_true (h1 k (by omega) (by omega))
   rw [this, List.length_take]; omega
 have e2 : cntE (l.drop i) x = 0 := List.countP_eq_zero.2 fun y hy => by
   obtain ⟨k, hk, rfl⟩ := List.mem_iff_getElem.1 hy
   rw [List.length_drop] at hk
   rw [List.getElem_drop]
   simpa using h2 (i + k) (by omega) (by omega)
 omega
theorem srt_lt {l : List Ey} (h : Srt l) {i j : Nat} (hi : i < l.length) (hj : j < l.length) (hij : i < j) : ltE l[i] l[j] := List.pairwise_iff_getElem.1 h i j hi hj hij
/-- the places of a print -/
def findE (L : List Ey) (k : Int) (s : Bs) : List Int := (L.filter fun x => decide (x.k = k ∧ x.s = s)).map (·.a)
theorem findE_take {L : List Ey} {k : Int} {s : Bs} {m : Nat} (h : m < L.length) : findE (L.take (m + 1)) k s = if L[m].k = k ∧ L[m].s = s then findE (L.take m) k s ++ [L[m].a] else findE (L.take m) k s := by
 unfold findE
 rw [List.take_succ_eq_append_getElem h, List.filter_append, List.map_append]
 split
 · rename_i c; simp [c.1, c.2]
 · rename_i c
   have : decide (L[m].k = k ∧ L[m].s = s) = false := decide_eq_false c
   simp only [List.filter_cons, this, List.filter_nil, List.map_nil, List.append_nil, Bool.false_eq_true, if_false]
/-- the places of a print rise -/
theorem findE_up {L : List Ey} (h : Srt L) (k : Int) (s : Bs) : (findE L k s).Pairwise (· < ·) := by
 unfold findE
 rw [List.pairwise_map]
 refine List.Pairwise.imp_of_mem (R := ltE) (fun {a b} ha hb hab => ?_) (h.filter _)
 have h1 := (List.mem_filter.1 ha).2
 have h2 := (List.mem_filter.1 hb).2
 simp only [decide_eq_true_eq] at h1 h2
 unfold ltE at hab
 rw [h1.1, h1.2, h2.1, h2.2] at hab
 rcases hab with k | ⟨_, k | ⟨_, k⟩⟩
 · omega
 · exact absurd k (bs_irrefl _)
 · exact k
end Go.Proofs.YtggachhkcmfijaaGreatDoor

/- plan: which pieces of a range; in plain words. -/
set_option linter.unusedVariables false
namespace Go.Proofs.YtggachhkcmfijaaGreatDoor
open Go Go.Vc Go.RowKit Go.Lib
end Go.Proofs.YtggachhkcmfijaaGreatDoor

/- plan: pieces as bytes, and back; in plain words. -/
set_option linter.unusedVariables false
namespace Go.Proofs.YtggachhkcmfijaaGreatDoor
open Go Go.Vc Go.RowKit Go.Lib
theorem lowIn_at {n : Nat} (hn : n ≤ 7) {s : Bs} (h : n ≤ s.length) : lowIn n s 0 = ((leVal (s.take n) : Int), s.drop n, 0) := by
 have hr : rawIn n s 0 = (s.take n, s.drop n, 0) := by
   unfold rawIn
   rw [if_neg (by simp), if_neg (by omega), if_neg (by omega), Int.toNat_natCast]
 have hlen : (s.take n).length = n := by rw [List.length_take]; omega
 have hlt := leVal_lt (s.take n)
 have h2 : 256 ^ (s.take n).length ≤ 256 ^ 7 := Nat.pow_le_pow_right (by decide) (by omega)
 have h4 : (256 : Nat) ^ 7 = 72057594037927936 := by decide
 simp only [lowIn, hr]
 rw [if_pos (by omega)]
end Go.Proofs.YtggachhkcmfijaaGreatDoor

/- plan: Size, Cut, may; masonrybook.SamePieces. -/
set_option linter.unusedVariables false
namespace Go.Proofs.YtggachhkcmfijaaGreatDoor
open Go Go.Vc Go.RowKit Go.Lib
end Go.Proofs.YtggachhkcmfijaaGreatDoor

/- plan: may; masonrybook.SamePieces. -/
set_option linter.unusedVariables false
namespace Go.Proofs.YtggachhkcmfijaaGreatDoor
open Go Go.Vc Go.RowKit Go.Lib
end Go.Proofs.YtggachhkcmfijaaGreatDoor

/- masonrybook: lists of pieces that are lent, kept, marked, grown. -/
set_option linter.unusedVariables false
namespace Go.Proofs.YtggachhkcmfijaaGreatDoor
open Go Go.Vc Go.RowKit Go.Lib
theorem Own.setN {w : World} {t : TypeId} {sz : Nat} (hsz : 0 < sz) {l : Sl} {xs : List Value} (h : Own w t sz l xs) {k : Nat} (hk : k < xs.length) (x : Value) {a : Addr} (ha : l.a = some a) :
   Wr w (a.add k) ∧ Own (w.setCell (a.add k) x) t sz l (xs.set k x) ∧ Fr l.bk w (w.setCell (a.add k) x) := by
 have hlen := h.len
 have h0 : l.len ≠ 0 := fun h0 => by rw [h0] at hlen; omega
 obtain ⟨g, cur, ha', hg, hc, ht, hlc, hm⟩ := Own.row h h0
 rw [ha] at ha'
 injection ha' with ha'
 subst ha'
 have h2 := blk_set hg k x
 have hle : l.len * sz ≤ l.cap * sz := Nat.mul_le_mul_right _ hlc
 refine ⟨blk_wr hg (by omega), ?_, (fr_set w g k _).mono (fun i _ hi => ⟨blk g, ha, Eq.symm hi⟩)⟩
 have h3 := Own.of (n := l.len) (cap := l.cap) h2 (by rw [List.length_set, hc]) hlc hm
 have e : (cur.set k x).take (l.len * sz) = xs.set k x := by
   rw [List.take_set, ht]
 rw [e] at h3
 have : l = ⟨some (blk g), l.len, l.cap⟩ := by cases l; simp only at ha; subst ha; rfl
 rw [this]; exact h3
section
variable {w : World} {X : List As} {α : Type} {En : Enc α} {t : TypeId} {l : Sl} {xs : List α}
theorem Row.nilOk (h : St w (Row En t l xs :: X)) : NilOk l := fun ha => (Own.isNil h.own ha).1
end
/-! ### Marks -/
end Go.Proofs.YtggachhkcmfijaaGreatDoor
