/- bits.Out.Pad, crc.Seal, crc.Open. -/
import Derived.Test.YtggachhkcmfijaaGreatDoorZe
import Derived.Test.YtggachhkcmfijaaGreatDoorCr
import Derived.Test.YtggachhkcmfijaaGreatDoorHn
set_option linter.unusedVariables false
namespace Go.Proofs.YtggachhkcmfijaaGreatDoor
open Go Go.Vc Go.RowKit Go.Lib
theorem Keep.of {ivs : List (Nat × Nat)} {us : List Nat} {S : Nat → Prop} {w w' : World} (h : Fr S w w') (hk : ∀ g, inIv ivs g → g ∉ us → ¬ S g ∧ g < w.heap.size) : Keep ivs us w w' :=
 ⟨h.size, fun g hg hu => h.block g (hk g hg hu).2 (hk g hg hu).1⟩
def pad1 (n : Nat) (x : List UInt8 × Int) : List UInt8 × Int := if x.2 ≠ 0 then x else if x.1.length ≤ n then (padTo n x.1, 0) else (x.1, 2)
theorem Out_Pad {w : World} {g : Nat} {l : Sl} {bs : List UInt8} {e : Int} (hO : OutAt w g l bs e) {n : Nat} (hn : n ≤ 65536) (hb : bs.length ≤ 1000000000000) {R : Option Addr → World → Prop}
   (hR : ∀ l' w', OutAt w' g l' (pad1 n (bs, e)).1 (pad1 n (bs, e)).2 → Fr (outS g l) w w' → Moved w l l' → R (some (blk g)) w') : F.bits_Out_Pad (some (blk g)) (n : Int) w R := by
 obtain ⟨i, hi, hz, hs1, hby⟩ := info_byte
 apply E.bits_Out_Pad
 unfold V.bits_Out_Pad
 try simp -zeta only [ldC, soC, brC, bkA, slC, stC, alC, drC]
 have hlen := hO.len
 refine ⟨fun h => by simp at h, fun _ => ⟨blk g, rfl, e, by rw [blk_cell hO.obj]; rfl, fun hne => ?_, fun heq => ?_⟩⟩
 · have hne : e ≠ 0 := by simpa using hne
   have e1 : pad1 n (bs, e) = (bs, e) := by simp [pad1, hne]
   rw [e1] at hR
   exact hR l w hO (Fr.refl _ _) (moved_refl _ _)
 have heq : e = 0 := by simpa using heq
 subst heq
 refine ⟨fun h => by have := of_decide_eq_true h; omega, fun _ => ⟨fun h => by have := of_decide_eq_true h; omega, fun _ => ⟨blk g, rfl, l, by rw [blk_cell0 hO.obj]; rfl, fun hlong => ?_, fun hsh => ?_⟩⟩⟩
 · have hlong : n < bs.length := by have := of_decide_eq_true hlong; omega
   have e1 : pad1 n (bs, 0) = (bs, 2) := by simp [pad1]; omega
   rw [e1] at hR
   refine ⟨blk g, rfl, blk_wr hO.obj (by simp), ?_⟩
   exact hR l _ ⟨by have := blk_set hO.obj 1 (.int .i64 2); simpa using this, hO.own.keep (fr_set w g 1 _) (fun k hk he => hO.ne (by subst he; exact hk)), hO.ne⟩ ((fr_set w g 1 _).mono (fun k _ hk => .inl hk)) (moved_refl _ _)
 have hsh : bs.length ≤ n := by have := of_decide_eq_false hsh; omega
 have e1 : pad1 n (bs, 0) = (padTo n bs, 0) := by simp [pad1, hsh]
 rw [e1] at hR
 have e2 : w64 ((n : Int) - ((l.len : Nat) : Int)) = ((n - bs.length : Nat) : Int) := by rw [w64_id (by omega) (by omega)]; omega
 intro w3
 have hO3 : OutAt w3 g l bs 0 := hO.keep (Fr.drew no w) id (fun _ _ => id)
 have hF3 : Fr no w w3 := Fr.drew no w
 clear_value w3
 refine ⟨blk g, rfl, l, by rw [blk_cell0 hO3.obj]; rfl, blk g, rfl, l, by rw [blk_cell0 hO3.obj]; rfl, ?_⟩
 rw [e2]
 refine runT_append_zeros8 und_bytes und_int und_str hi hz hs1 hby hO3.own (by omega) fun l4 w4 ho4 hl4 hf4 hm4 => ?_
 have hbv : bv bs ++ strCells (tx (List.replicate (n - bs.length) 0)) = bv (padTo n bs) := by rw [strCells_tx]; simp [bv, padTo]
 rw [hbv] at ho4
 obtain ⟨hwr, hO5, hF5⟩ := hO3.stored ho4 hf4 hm4
 refine ⟨by rw [blk_cell0 (hf4.heap hO3.obj hO3.ne)]; rfl, blk g, rfl, hwr, hR l4 _ hO5 ?_ ?_⟩
 · exact (hF3.mono (S' := outS g l) (fun _ _ h => h.elim)).trans hF5 (fun _ _ h => h)
 · rcases hm4 with h | ⟨g', h, hg'⟩
   · exact .inl h
   · exact .inr ⟨g', h, by have := hF3.size; omega⟩
/-- an Out that was made behind w0 -/
structure OutB (w0 w : World) (g : Nat) (l : Sl) (bs : List UInt8) (e : Int) : Prop where
 out : OutAt w g l bs e
 lo : w0.heap.size ≤ g
 row : ∀ k, l.bk k → w0.heap.size ≤ k
 below : Below w0.heap.size w0 w
theorem OutB.step {w0 w w' : World} {g : Nat} {l l' : Sl} {bs bs' : List UInt8} {e e' : Int} (h : OutB w0 w g l bs e) (ho : OutAt w' g l' bs' e') (hf : Fr (outS g l) w w') (hm : Moved w l l') : OutB w0 w' g l' bs' e' where
 out := ho
 lo := h.lo
 row := fun k hk => by
   rcases moved_bk hm hk with h1 | h1
   · exact h.row k h1
   · have := h.below.size; omega
 below := h.below.trans (hf.toBelow (fun k hk => by
   rcases hk with hk | hk
   · have := h.lo; omega
   · exact h.row k hk) h.below.size)
theorem OutB.no {w0 w w' : World} {g : Nat} {l : Sl} {bs : List UInt8} {e : Int} (h : OutB w0 w g l bs e) (hf : Fr no w w') : OutB w0 w' g l bs e where
 out := h.out.keep hf id (fun _ _ => id)
 lo := h.lo
 row := h.row
 below := h.below.trans ((below_fr hf).mono h.below.size)
theorem OutB.new {w0 w : World} (hB : Below w0.heap.size w0 w) {w' : World} (hF : Fr Go.Vc.no w w') {g : Nat} (hg : w.heap.size ≤ g) (h : w'.heap[g]? = some (.cells ⟨[.slice none 0 0, .int .i64 0]⟩ T.y_bits_Out (0, 0))) : OutB w0 w' g ⟨none, 0, 0⟩ [] 0 where
 out := ⟨h, Own.nil _ _ _, fun hk => bk_nil hk⟩
 lo := by have := hB.size; omega
 row := fun k hk => bk_nil hk
 below := hB.trans ((below_fr hF).mono hB.size)
/-- what is sealed -/
def sealL (n : Nat) (s : List UInt8) : List UInt8 × Int := if s.length ≤ n - 4 then (sealS n s, 0) else ([], 2)
theorem Seal_spec {n : Nat} (h4 : 4 ≤ n) (hn : n ≤ 65536) {w : World} {h : Nat} {s : List UInt8} (hh : w.heap[h]? = some (.cells ⟨[.string (tx s)]⟩ T.y_string (0, 0))) (hs : s.length ≤ 1000000000) {R : ByteArray → Int → World → Prop}
   (hR : ∀ w', Below w.heap.size w w' → R (tx (sealL n s).1) (sealL n s).2 w') : F.crc_Seal (n : Int) ⟨some (blk h), 1, 1⟩ w R := by
 apply E.crc_Seal
 unfold V.crc_Seal
 try simp -zeta only [ldC, soC, brC, bkA, slC, stC, alC, drC]
 refine ⟨fun h => by have := of_decide_eq_true h; omega, fun _ => ⟨fun h => by have := of_decide_eq_true h; omega, fun _ => ?_⟩⟩
 intro w1
 have hO1 : OutB w w1 w.heap.size ⟨none, 0, 0⟩ [] 0 := OutB.new (Below.refl _ _) (Fr.alloc Go.Vc.no w _) (Nat.le_refl _) (heap_new w _)
 have hh1 := (fr_below hO1.below).heap hh id
 clear_value w1
 refine Out_Raw hO1.out hh1 (by simp) (by omega) fun l2 w2 hO2 hF2 hM2 => ?_
 have hr1 : raw1 s ([], 0) = (s, 0) := by simp [raw1]
 rw [hr1] at hO2
 have hO2 := hO1.step hO2 hF2 hM2
 have e2 : w64 ((n : Int) - 4) = ((n - 4 : Nat) : Int) := by rw [w64_id (by omega) (by omega)]; omega
 rw [e2]
 refine Out_Pad hO2.out (by omega) (by simp only; omega) fun l3 w3 hO3 hF3 hM3 => ?_
 have hO3 := hO2.step hO3 hF3 hM3
 refine Out_End hO3.out fun w4 hF4 => ?_
 have hB4 := hO3.below.trans ((below_fr hF4).mono hO3.below.size)
 by_cases hsl : s.length ≤ n - 4
 · have ep : pad1 (n - 4) (s, 0) = (padTo (n - 4) s, 0) := by simp [pad1, hsl]
   have es : sealL n s = (sealS n s, 0) := by simp [sealL, hsl]
   rw [ep]
   rw [es] at hR
   refine ⟨fun h => by simp at h, fun _ => ?_⟩
   have e0 : (if (0 : Int) ≠ 0 then ([] : List UInt8) else padTo (n - 4) s) = padTo (n - 4) s := by simp
   rw [e0]
   have hpl := padTo_len hsl
   generalize hP : padTo (n - 4) s = ps at hpl
   intro w5
   have hF5 : Fr Go.Vc.no w4 w5 := Fr.alloc Go.Vc.no w4 _
   have h5 : w5.heap[w4.heap.size]? = some (.cells ⟨[.slice none 0 0, .int .i64 0]⟩ T.y_bits_Out (0, 0)) := heap_new w4 _
   have hO5 := OutB.new hB4 hF5 (Nat.le_refl _) h5
   clear_value w5
   intro w6
   have hO6 : OutB w w6 _ _ _ _ := hO5.no (Fr.alloc Go.Vc.no w5 _)
   have h6 : w6.heap[w5.heap.size]? = some (.cells ⟨[.string (tx ps)]⟩ T.y_string (0, 0)) := heap_new w5 _
   clear_value w6
   refine Out_Raw hO6.out h6 (by simp) (by omega) fun l7 w7 hO7 hF7 hM7 => ?_
   have hr2 : raw1 ps ([], 0) = (ps, 0) := by simp [raw1]
   rw [hr2] at hO7
   have hO7 := hO6.step hO7 hF7 hM7
   intro w8
   have hO8 : OutB w w8 _ _ _ _ := hO7.no (Fr.alloc Go.Vc.no w7 _)
   have h8 : w8.heap[w7.heap.size]? = some (.cells ⟨[.string (tx ps)]⟩ T.y_string (0, 0)) := heap_new w7 _
   clear_value w8
   refine Of_spec h8 (by omega) fun w9 hB9 => ?_
   have hO9 := hO8.no (fr_below hB9)
   have hc := crcL_lt ps
   have ec : w64 ((crcL ps : Nat) : Int) = ((crcL ps : Nat) : Int) := w64_id (by omega) (by omega)
   rw [ec]
   intro w10
   have hO10 : OutB w w10 _ _ _ _ := hO9.no (Fr.alloc Go.Vc.no w9 _)
   have h10 : w10.heap[w9.heap.size]? = some (.cells ⟨[.int .i64 ((crcL ps : Nat) : Int)]⟩ T.y_int (0, 0)) := heap_new w9 _
   clear_value w10
   refine Out_Word hO10.out h10 (by omega) (by simp only; omega) fun l11 w11 hO11 hF11 hM11 => ?_
   have hfit : fitsN 4 ((crcL ps : Nat) : Int) = true := by simp [fitsN]; omega
   rw [lay1_ok hfit] at hO11
   have hO11 := hO10.step hO11 hF11 hM11
   refine Out_End hO11.out fun w12 hF12 => ?_
   have e1 : (if (0 : Int) ≠ 0 then ([] : List UInt8) else ps ++ leBytes 4 ((crcL ps : Nat) : Int)) = sealS n s := by rw [if_neg (by simp), sealS, hP]
   rw [e1]
   exact hR w12 (hO11.below.trans ((below_fr hF12).mono hO11.below.size))
 · have ep : pad1 (n - 4) (s, 0) = (s, 2) := by simp [pad1, hsl]
   have es : sealL n s = ([], 2) := by simp [sealL, hsl]
   rw [ep]
   rw [es] at hR
   exact ⟨fun _ => hR w4 hB4, fun h => by simp at h⟩
theorem In_Word {w : World} {g : Nat} {l : List UInt8} {e : Int} (hI : InAt w g l e) (hl : l.length ≤ 1099511627776) {R : Int → World → Prop}
   (hR : ∀ w', InAt w' g (lowIn 4 l e).2.1 (lowIn 4 l e).2.2 → Fr (· = g) w w' → R (lowIn 4 l e).1 w') : F.bits_In_Word (some (blk g)) w R := by
 apply E.bits_In_Word
 exact In_low hI hl (size := 4) (by decide) hR
theorem In_Byte {w : World} {g : Nat} {l : List UInt8} {e : Int} (hI : InAt w g l e) (hl : l.length ≤ 1099511627776) {R : Int → World → Prop}
   (hR : ∀ w', InAt w' g (lowIn 1 l e).2.1 (lowIn 1 l e).2.2 → Fr (· = g) w w' → R (lowIn 1 l e).1 w') : F.bits_In_Byte (some (blk g)) w R := by
 apply E.bits_In_Byte
 exact In_low hI hl (size := 1) (by decide) hR
theorem In_Half {w : World} {g : Nat} {l : List UInt8} {e : Int} (hI : InAt w g l e) (hl : l.length ≤ 1099511627776) {R : Int → World → Prop}
   (hR : ∀ w', InAt w' g (lowIn 2 l e).2.1 (lowIn 2 l e).2.2 → Fr (· = g) w w' → R (lowIn 2 l e).1 w') : F.bits_In_Half (some (blk g)) w R := by
 apply E.bits_In_Half
 exact In_low hI hl (size := 2) (by decide) hR
theorem In_Long {w : World} {g : Nat} {l : List UInt8} {e : Int} (hI : InAt w g l e) (hl : l.length ≤ 1099511627776) {R : Int → World → Prop}
   (hR : ∀ w', InAt w' g (lowIn 8 l e).2.1 (lowIn 8 l e).2.2 → Fr (· = g) w w' → R (lowIn 8 l e).1 w') : F.bits_In_Long (some (blk g)) w R := by
 apply E.bits_In_Long
 exact In_low hI hl (size := 8) (by decide) hR
theorem lowIn_all {l : List UInt8} (h : l.length = 4) : (lowIn 4 l 0).1 = ((leVal l : Nat) : Int) := by
 have hr : rawIn 4 l 0 = (l, [], 0) := by
   unfold rawIn
   rw [if_neg (by simp), if_neg (by decide), if_neg (by omega)]
   have e : ((4 : Int)).toNat = 4 := rfl
   rw [e, List.take_of_length_le (by omega), List.drop_of_length_le (by omega)]
 have hlt := leVal_lt l
 rw [h] at hlt
 have h2 : (256 : Nat) ^ 4 = 4294967296 := by decide
 unfold lowIn
 have hr' : rawIn ((4 : Nat) : Int) l 0 = (l, [], 0) := hr
 rw [hr']
 simp only
 rw [if_pos (by omega)]
theorem Open_spec {w : World} {b : List UInt8} (hb : b.length ≤ 1000000000) {R : ByteArray → Int → World → Prop} (hR : ∀ w', Below w.heap.size w w' → R (tx (openB b).1) (openB b).2 w') : F.crc_Open (tx b) w R := by
 apply E.crc_Open
 unfold V.crc_Open
 try simp -zeta only [ldC, soC, brC, bkA, slC, stC, alC, drC]
 rw [tx_size]
 have e1 : w64 ((b.length : Int) - 4) = (b.length : Int) - 4 := w64_id (by omega) (by omega)
 rw [e1]
 refine ⟨fun h => ?_, fun h => ?_⟩
 · have h := of_decide_eq_true h
   have : openB b = ([], 5) := by unfold openB; rw [if_pos (by omega)]
   rw [this] at hR
   exact hR w (Below.refl _ _)
 have h := of_decide_eq_false h
 have e2 : ((b.length : Int) - 4).toNat = b.length - 4 := by omega
 rw [e2]
 intro w1
 have hB1 : Below w.heap.size w w1 := (Below.refl _ _).drew
 clear_value w1
 refine ⟨by omega, by omega, by omega, by omega, fun w2 hB2 => ?_⟩
 have hx1 : (tx b).extract (b.length - 4) b.length = tx (b.drop (b.length - 4)) := by rw [tx_ext, List.take_of_length_le (by simp)]
 have hx2 : (tx b).extract 0 (b.length - 4) = tx (b.take (b.length - 4)) := by rw [tx_ext]; simp
 rw [hx1, hx2]
 refine On_spec fun w3 hI3 hF3 hlt3 => ⟨Keep.of hF3 (fun g hg _ => ⟨id, by simp only [inIv, or_false] at hg; omega⟩), fun w4 hB4 => ?_⟩
 have hI4 := hI3.keep (fr_below hB4) id
 have s2 := hB2.size
 have s3 := hF3.size
 have s4 := hB4.size
 have s1 := hB1.size
 have hg3 := heap_lt hI3.obj
 refine In_Word hI4 (by simp; omega) fun w5 hI5 hF5 => ⟨Keep.of hF5 (fun g hg _ => ⟨fun he => by simp only [inIv, or_false] at hg; omega, by simp only [inIv, or_false] at hg; omega⟩), fun w6 g hB6 _ _ hgo w7 hB7 => ?_⟩
 rw [lowIn_all (by simp; omega)]
 have hgo7 := (fr_below hB7).heap hgo id
 refine Of_spec hgo7 (by simp; omega) fun w8 hB8 => ?_
 have s5 := hF5.size
 have s6 := hB6.size
 have s7 := hB7.size
 refine ⟨Keep.of (fr_below hB8) (fun g hg _ => ⟨id, by simp only [inIv, or_false] at hg; omega⟩), fun w9 hB9 => ?_⟩
 have hBall : Below w.heap.size w w9 := by
   have a1 := hB1.trans (hB2.mono s1)
   have a2 := a1.trans ((below_fr hF3).mono a1.size)
   have a3 := a2.trans (hB4.mono a2.size)
   have a4 := a3.trans (hF5.toBelow (B := w.heap.size) (fun k hk => by have : k = w2.heap.size := hk; omega) a3.size)
   have a5 := a4.trans (hB6.mono a4.size)
   have a6 := a5.trans (hB7.mono a5.size)
   have a7 := a6.trans (hB8.mono a6.size)
   exact a7.trans (hB9.mono a7.size)
 have hc := crcL_lt (b.take (b.length - 4))
 have ec : w64 ((crcL (b.take (b.length - 4)) : Nat) : Int) = ((crcL (b.take (b.length - 4)) : Nat) : Int) := w64_id (by omega) (by omega)
 rw [ec]
 have eo : openB b = if leVal (b.drop (b.length - 4)) = crcL (b.take (b.length - 4)) then (b.take (b.length - 4), 0) else ([], 7) := by
   unfold openB; rw [if_neg (by omega)]
 refine ⟨fun hne => ?_, fun heq => ?_⟩
 · have hne : leVal (b.drop (b.length - 4)) ≠ crcL (b.take (b.length - 4)) := fun hh => by rw [hh] at hne; simp at hne
   rw [eo, if_neg hne] at hR
   exact hR w9 hBall
 · have heq : leVal (b.drop (b.length - 4)) = crcL (b.take (b.length - 4)) := by
     have h : ((leVal (b.drop (b.length - 4)) : Nat) : Int) = ((crcL (b.take (b.length - 4)) : Nat) : Int) := by simpa using heq
     omega
   rw [eo, if_pos heq] at hR
   exact ⟨by omega, by omega, hR w9 hBall⟩
end Go.Proofs.YtggachhkcmfijaaGreatDoor
