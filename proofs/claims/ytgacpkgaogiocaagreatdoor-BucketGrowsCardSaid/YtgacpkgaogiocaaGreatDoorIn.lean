/- Calls of Go's library: strings.Trim at an ASCII cutset, stringslite.Clone. -/
import Derived.Test.YtgacpkgaogiocaaGreatDoorOu
import Derived.Test.YtgacpkgaogiocaaGreatDoorShelf
import Derived.Laws.BitsAllLaws
set_option linter.unusedVariables false
namespace Go.Proofs.YtgacpkgaogiocaaGreatDoor
open Go Go.Vc Go.RowKit Go.Lib
theorem Clone_spec {l : List UInt8} {w : World} (hs : l.length ≤ 281474976710656) {R : ByteArray → World → Prop} (hR : ∀ w', Below w.heap.size w w' → R (tx l) w') : F.stringslite_Clone (tx l) w R := by
 have c : Calls Tryz.prog 233 #[.string (tx l)] w fun e w' => e = .returned (.string (tx l)) ∧ Below w.heap.size w w' := Any.stringslite_Clone Tryz.laysM316 (tx l) w (by rw [tx_size]; exact hs)
 exact Calls.mono c fun e w' h => ⟨tx l, h.1, hR w' h.2⟩
/-- what is left of a text, at its start, without bytes of a set -/
def trimL (set : List UInt8) (l : List UInt8) : List UInt8 := l.dropWhile fun b => set.contains b
def trim (set : List UInt8) (l : List UInt8) : List UInt8 := trimL set (trimL set l.reverse).reverse
theorem Trim_ascii {l : List UInt8} {cs : ByteArray} {w : World} (hs : l.length ≤ 281474976710656) (h1 : cs.size < 4294967281) (h2 : cs.data.toList.all (fun b => decide (b.toNat < 128)) = true) {R : ByteArray → World → Prop}
   (hR : ∀ w', Below w.heap.size w w' → R (tx (trim cs.data.toList l)) w') : F.strings_Trim (tx l) cs w R := by
 have c : Calls Tryz.prog 232 #[.string (tx l), .string cs] w fun e w' => e = .returned (.string ⟨(Lib.trimS (tx l).data.toList cs.data.toList).toArray⟩) ∧ Below w.heap.size w w' :=
   Any.strings_Trim_laid Tryz.lays160 (by kernel_rfl) (tx l) cs w (by rw [tx_size]; omega) h1 (ascii_of_all h2)
 rw [tx_data] at c
 exact Calls.mono c fun e w' h => ⟨tx (trim cs.data.toList l), h.1, hR w' h.2⟩
theorem Trim_zero {l : List UInt8} {w : World} (hs : l.length ≤ 281474976710656) {R : ByteArray → World → Prop} (hR : ∀ w', Below w.heap.size w w' → R (tx (trim [0] l)) w') : F.strings_Trim (tx l) str_x w R :=
 Trim_ascii hs (by decide) (by decide) hR
end Go.Proofs.YtgacpkgaogiocaaGreatDoor

/- bits.In: what its methods read. -/
set_option linter.unusedVariables false
namespace Go.Proofs.YtgacpkgaogiocaaGreatDoor
open Go Go.Vc Go.RowKit Go.Lib
structure InAt (w : World) (g : Nat) (l : List UInt8) (e : Int) : Prop where
 obj : w.heap[g]? = some (.cells ⟨[.string (tx l), .int .i64 e]⟩ T.y_bits_In (0, 0))
theorem InAt.keep {w w' : World} {g : Nat} {l : List UInt8} {e : Int} (h : InAt w g l e) {S : Nat → Prop} (hf : Fr S w w') (hg : ¬ S g) : InAt w' g l e := ⟨hf.heap h.obj hg⟩
/-- what a raw read gives, what is left, the error -/
def rawIn (n : Int) (l : List UInt8) (e : Int) : List UInt8 × List UInt8 × Int :=
 if e ≠ 0 then ([], l, e) else if n < 0 then ([], l, 1) else if (l.length : Int) < n then ([], l, 5) else (l.take n.toNat, l.drop n.toNat, 0)
theorem fr_below {w w' : World} (h : Below w.heap.size w w') : Fr no w w' := ⟨h.os, h.tape, h.output, h.size, fun k hk _ => h.block k hk⟩
theorem below_fr {w w' : World} (h : Fr no w w') : Below w.heap.size w w' := ⟨h.os, h.tape, h.output, h.size, fun k hk => h.block k hk id⟩
theorem On_spec {l : List UInt8} {w : World} {R : Option Addr → World → Prop} (hR : ∀ w', InAt w' w.heap.size l 0 → Fr no w w' → w.heap.size < w'.heap.size → R (some (blk w.heap.size)) w') : F.bits_On (tx l) w R := by
 apply E.bits_On
 exact hR _ ⟨heap_new w _⟩ (Fr.alloc _ _ _) (by simp)
theorem In_Raw {w : World} {g : Nat} {l : List UInt8} {e : Int} (hI : InAt w g l e) (hl : l.length ≤ 1099511627776) {n : Int} {R : ByteArray → World → Prop}
   (hR : ∀ w', InAt w' g (rawIn n l e).2.1 (rawIn n l e).2.2 → Fr (· = g) w w' → R (tx (rawIn n l e).1) w') : F.bits_In_Raw (some (blk g)) n w R := by
 apply E.bits_In_Raw
 unfold V.bits_In_Raw
 try simp -zeta only [ldC, soC, brC, bkA, slC, stC, alC, drC]
 refine ⟨fun h => by simp at h, fun _ => ⟨blk g, rfl, e, by rw [blk_cell hI.obj]; rfl, fun hne => ?_, fun heq => ?_⟩⟩
 · have hne : e ≠ 0 := by simpa using hne
   have e1 : rawIn n l e = ([], l, e) := by simp [rawIn, hne]
   rw [e1] at hR
   exact hR w hI (Fr.refl _ _)
 have heq : e = 0 := by simpa using heq
 subst heq
 have set : ∀ u : Int, InAt (w.setCell ((blk g).add 1) (.int .i64 u)) g l u := fun u => ⟨by have := blk_set hI.obj 1 (.int .i64 u); simpa using this⟩
 refine ⟨fun hneg => ?_, fun hpos => ?_⟩
 · have hneg : n < 0 := by simpa using hneg
   have e1 : rawIn n l 0 = ([], l, 1) := by simp [rawIn, hneg]
   rw [e1] at hR
   exact ⟨blk g, rfl, blk_wr hI.obj (by simp), hR _ (set 1) (fr_set w g 1 _)⟩
 have hpos : 0 ≤ n := by simpa using hpos
 refine ⟨blk g, rfl, tx l, by rw [blk_cell0 hI.obj]; rfl, fun hbig => ?_, fun hsm => ?_⟩
 · have hbig : (l.length : Int) < n := by simp only [tx_size, gt_iff_lt, decide_eq_true_eq] at hbig; exact hbig
   have e1 : rawIn n l 0 = ([], l, 5) := by simp [rawIn, hbig]; omega
   rw [e1] at hR
   exact ⟨blk g, rfl, blk_wr hI.obj (by simp), hR _ (set 5) (fr_set w g 1 _)⟩
 have hsm : n ≤ (l.length : Int) := by simp only [tx_size, gt_iff_lt, decide_eq_false_iff_not] at hsm; omega
 have e1 : rawIn n l 0 = (l.take n.toNat, l.drop n.toNat, 0) := by
   unfold rawIn
   rw [if_neg (by simp), if_neg (by omega), if_neg (by omega)]
 rw [e1] at hR
 refine ⟨blk g, rfl, tx l, by rw [blk_cell0 hI.obj]; rfl, hpos, by rw [tx_size]; exact hsm, blk g, rfl, tx l, by rw [blk_cell0 hI.obj]; rfl, hpos, by rw [tx_size]; exact hsm, blk g, rfl, blk_wr0 hI.obj (by simp), ?_⟩
 rw [tx_ext, tx_ext, tx_size]
 have e2 : List.take (n.toNat - 0) (List.drop 0 l) = l.take n.toNat := by simp
 have e3 : List.take (l.length - n.toNat) (List.drop n.toNat l) = l.drop n.toNat := List.take_of_length_le (by simp)
 rw [e2, e3]
 apply E.strings_Clone
 unfold V.strings_Clone
 try simp -zeta only [ldC, soC, brC, bkA, slC, stC, alC, drC]
 refine Clone_spec (by simp; omega) fun w' hw' => ?_
 have hI2 : InAt (w.setCell (blk g) (.string (tx (l.drop n.toNat)))) g (l.drop n.toNat) 0 := ⟨by have := blk_set0 hI.obj (.string (tx (l.drop n.toNat))); simpa using this⟩
 exact hR w' (hI2.keep (fr_below hw') id) ((fr_set0 w g _).trans (fr_below hw') (fun _ _ h => h.elim))
/-- the number of some bytes, the lowest first -/
def leVal : List UInt8 → Nat
 | [] => 0
 | b :: r => b.toNat + 256 * leVal r
theorem leVal_app (a b : List UInt8) : leVal (a ++ b) = leVal a + 256 ^ a.length * leVal b := by
 induction a with
 | nil => simp [leVal]
 | cons x r ih => simp only [List.cons_append, leVal, ih, List.length_cons, Nat.pow_succ]; rw [Nat.mul_add, ← Nat.add_assoc, Nat.mul_comm (256 ^ r.length) 256, Nat.mul_assoc]
theorem leVal_lt (a : List UInt8) : leVal a < 256 ^ a.length := by
 induction a with
 | nil => simp [leVal]
 | cons x r ih =>
   simp only [leVal, List.length_cons, Nat.pow_succ]
   have := x.toNat_lt
   omega
def lowIn (size : Nat) (l : List UInt8) (e : Int) : Int × List UInt8 × Int :=
 let v := leVal (rawIn size l e).1
 if v < 9223372036854775808 then (v, (rawIn size l e).2.1, (rawIn size l e).2.2) else (0, (rawIn size l e).2.1, 6)
theorem wr64_id {x : Int} (h1 : 0 ≤ x) (h2 : x < 18446744073709551616) : wr .u64 x = x := by
 have e : wr .u64 x = x % 18446744073709551616 := by simp [wr, IntKind.wrap, IntKind.bits, IntKind.signed]
 rw [e]; omega
theorem or_le {v : Nat} {b m : Nat} (hm : m < 8) (hv : v < 256 ^ m) (hb : b < 256) : bits .or .u64 (v : Int) (shl .u64 (wr .u64 (b : Int)) (8 * (m : Int))) = ((v + 256 ^ m * b : Nat) : Int) := by
 rw [wr64_id (by omega) (by omega)]
 have hp : 256 ^ m = 2 ^ (8 * m) := by rw [Nat.pow_mul]
 have hlt : 256 ^ m * b < 18446744073709551616 := by
   have h1 : 256 ^ m * b ≤ 256 ^ m * 255 := Nat.mul_le_mul_left _ (by omega)
   have h2 : 256 ^ m ≤ 256 ^ 7 := Nat.pow_le_pow_right (by decide) (by omega)
   have h3 : (256 : Nat) ^ 7 = 72057594037927936 := by decide
   omega
 have hs : shl .u64 (b : Int) (8 * (m : Int)) = ((256 ^ m * b : Nat) : Int) := by
   unfold shl
   have e : min (8 * (m : Int)).toNat IntKind.u64.bits = 8 * m := by
     have : (8 * (m : Int)).toNat = 8 * m := by omega
     rw [this]; show min (8 * m) 64 = 8 * m; omega
   rw [e]
   have e2 : (b : Int) * 2 ^ (8 * m) = ((256 ^ m * b : Nat) : Int) := by rw [hp]; push_cast; exact Int.mul_comm _ _
   rw [e2]
   exact wr64_id (by omega) (by omega)
 have hvlt : v < 18446744073709551616 := by
   have h2 : 256 ^ m ≤ 256 ^ 7 := Nat.pow_le_pow_right (by decide) (by omega)
   have h3 : (256 : Nat) ^ 7 = 72057594037927936 := by decide
   omega
 rw [hs, u64_or_nat _ _ hvlt hlt, Nat.or_comm, nat_join (8 * m) _ _ (by rw [hp]; exact Nat.mul_mod_right _ _) (by rw [← hp]; exact hv), Nat.add_comm]
theorem rawIn_len (n : Nat) (l : List UInt8) (e : Int) : (rawIn n l e).1.length ≤ n := by
 unfold rawIn
 split
 · simp
 split
 · simp
 split
 · simp
 · simp; omega
theorem In_low {w : World} {g : Nat} {l : List UInt8} {e : Int} (hI : InAt w g l e) (hl : l.length ≤ 1099511627776) {size : Nat} (hsz : size ≤ 8) {R : Int → World → Prop}
   (hR : ∀ w', InAt w' g (lowIn size l e).2.1 (lowIn size l e).2.2 → Fr (· = g) w w' → R (lowIn size l e).1 w') : F.bits_In_low (some (blk g)) size w R := by
 apply E.bits_In_low
 unfold V.bits_In_low
 try simp -zeta only [ldC, soC, brC, bkA, slC, stC, alC, drC]
 refine In_Raw hI hl fun w1 hI1 hF1 => ?_
 have hlen := rawIn_len size l e
 generalize hraw : (rawIn size l e).1 = bs at hlen
 refine runT_str_bytes und_str und_bytes und_byte fun cap w2 hF2 hsz2 hc => ?_
 have hI2 := hI1.keep hF2 id
 refine ⟨fun v n w' => ∃ m : Nat, n = m ∧ m ≤ bs.length ∧ v = (leVal (bs.take m) : Int) ∧ w' = w2, fun _ n _ => (bs.length - n).toNat, ⟨0, rfl, Nat.zero_le _, by simp [leVal], rfl⟩, ?_⟩
 rintro v n w' ⟨m, rfl, hm, rfl, rfl⟩
 refine ⟨fun hlt => ?_, fun hge => ?_⟩
 · have hlt : m < bs.length := by simpa using hlt
   have e8 : w64 (8 * (m : Int)) = 8 * (m : Int) := w64_id (by omega) (by omega)
   have e1 : w64 ((m : Int) + 1) = ((m + 1 : Nat) : Int) := by rw [w64_id (by omega) (by omega)]; omega
   have htk : leVal (bs.take m) < 256 ^ m := by have := leVal_lt (bs.take m); rwa [List.length_take, Nat.min_eq_left hm] at this
   refine ⟨blk w1.heap.size, rfl, by omega, by show (m : Int) < (bs.length : Int); omega, (bs[m].toNat : Int), ?_, by rw [e8]; omega, ?_, ?_⟩
   · have := hc m bs[m] (by simp [hlt])
     simpa using this
   · refine ⟨m + 1, e1, hlt, ?_, rfl⟩
     rw [e8, or_le (by omega) htk bs[m].toNat_lt, List.take_succ_eq_append_getElem hlt, leVal_app]
     simp [leVal, List.length_take, Nat.min_eq_left hm]
   · show ((bs.length : Int) - w64 ((m : Int) + 1)).toNat < ((bs.length : Int) - (m : Int)).toNat
     rw [e1]; omega
 · have hge : bs.length ≤ m := by simpa using hge
   have : m = bs.length := by omega
   subst this
   rw [List.take_length]
   have hv : leVal bs < 18446744073709551616 := by
     have h1 := leVal_lt bs
     have h2 : 256 ^ bs.length ≤ 256 ^ 8 := Nat.pow_le_pow_right (by decide) (by omega)
     have h3 : (256 : Nat) ^ 8 = 18446744073709551616 := by decide
     omega
   have hw : (leVal bs < 9223372036854775808 ∧ w64 (leVal bs : Int) = leVal bs) ∨ (9223372036854775808 ≤ leVal bs ∧ w64 (leVal bs : Int) < 0) := by
     rcases Nat.lt_or_ge (leVal bs) 9223372036854775808 with h | h
     · exact .inl ⟨h, w64_id (by omega) (by omega)⟩
     · refine .inr ⟨h, ?_⟩
       have e : w64 (leVal bs : Int) = if (leVal bs : Int) % 18446744073709551616 ≥ 9223372036854775808 then (leVal bs : Int) % 18446744073709551616 - 18446744073709551616 else (leVal bs : Int) % 18446744073709551616 := by
         simp [w64, IntKind.wrap, IntKind.bits, IntKind.signed]
       rw [e]
       split <;> omega
   have hFr := hF1.trans hF2 (fun _ _ h => h.elim)
   refine ⟨fun hneg => ?_, fun hpos => ?_⟩
   · have hneg : w64 (leVal bs : Int) < 0 := by simpa using hneg
     rcases hw with ⟨h1, h2⟩ | ⟨h1, h2⟩
     · rw [h2] at hneg; omega
     · have el : lowIn size l e = (0, (rawIn size l e).2.1, 6) := by simp only [lowIn, hraw]; rw [if_neg (by omega)]
       rw [el] at hR
       refine ⟨blk g, rfl, blk_wr hI2.obj (by simp), hR _ ⟨by have := blk_set hI2.obj 1 (.int .i64 6); simpa using this⟩ (hFr.trans (fr_set _ g 1 _) (fun _ _ h => h))⟩
   · have hpos : ¬ w64 (leVal bs : Int) < 0 := by simpa using hpos
     rcases hw with ⟨h1, h2⟩ | ⟨h1, h2⟩
     · have el : lowIn size l e = ((leVal bs : Int), (rawIn size l e).2.1, (rawIn size l e).2.2) := by simp only [lowIn, hraw]; rw [if_pos h1]
       rw [el] at hR
       rw [h2]
       exact hR _ hI2 hFr
     · exact absurd h2 hpos
end Go.Proofs.YtgacpkgaogiocaaGreatDoor
