/- bits.Out: what its methods lay. -/
import Derived.Test.YtggachhkcmfijaaGreatDoorHp
import Derived.Test.YtggachhkcmfijaaGreatDoorV0
import Derived.Test.YtggachhkcmfijaaGreatDoorV1
import Derived.Test.YtggachhkcmfijaaGreatDoorV2
import Derived.Test.YtggachhkcmfijaaGreatDoorV3
import Derived.Test.YtggachhkcmfijaaGreatDoorV4
import Derived.Test.YtggachhkcmfijaaGreatDoorV5
import Derived.Test.YtggachhkcmfijaaGreatDoorV6
set_option linter.unusedVariables false
namespace Go.Proofs.YtggachhkcmfijaaGreatDoor
open Go Go.Vc Go.RowKit Go.Lib
theorem und_bytes : Pg.underlying T.y_sl_uint8 = some (.slice T.y_uint8) := by kernel_rfl
theorem und_byte : Pg.underlying T.y_uint8 = some (.int .u8) := by kernel_rfl
theorem und_str : Pg.underlying T.y_string = some .string := by kernel_rfl
theorem info_byte : ∃ i, Pg.info? T.y_uint8 = some i ∧ i.zero = some (.int .u8 0) ∧ i.size = 1 ∧ i.bytes = 1 := by
 have h : (Pg.info? T.y_uint8).map (fun i => (i.zero, i.size, i.bytes)) = some (some (.int .u8 0), 1, 1) := by kernel_rfl
 obtain ⟨i, hi, h2⟩ := Option.map_eq_some_iff.1 h
 simp only [Prod.mk.injEq] at h2
 exact ⟨i, hi, h2.1, h2.2.1, h2.2.2⟩
def bv (bs : List UInt8) : List Value := bs.map fun b => Value.int .u8 b.toNat
structure OutAt (w : World) (g : Nat) (l : Sl) (bs : List UInt8) (e : Int) : Prop where
 obj : w.heap[g]? = some (.cells ⟨[.slice l.a l.len l.cap, .int .i64 e]⟩ T.y_bits_Out (0, 0))
 own : Own w T.y_uint8 1 l (bv bs)
 ne : ¬ l.bk g
theorem OutAt.len {w : World} {g : Nat} {l : Sl} {bs : List UInt8} {e : Int} (h : OutAt w g l bs e) : l.len = bs.length := by
 have := h.own.len; simp [bv] at this; omega
theorem OutAt.keep {w w' : World} {g : Nat} {l : Sl} {bs : List UInt8} {e : Int} (h : OutAt w g l bs e) {S : Nat → Prop} (hf : Fr S w w') (hg : ¬ S g) (hl : ∀ k, l.bk k → ¬ S k) : OutAt w' g l bs e :=
 ⟨hf.heap h.obj hg, h.own.keep hf hl, h.ne⟩
/-- what the Out itself and its row are -/
def outS (g : Nat) (l : Sl) : Nat → Prop := fun k => k = g ∨ l.bk k
theorem moved_bk {w : World} {l l' : Sl} (h : Moved w l l') {k : Nat} (hk : l'.bk k) : l.bk k ∨ w.heap.size ≤ k := by
 obtain ⟨a, ha, rfl⟩ := hk
 rcases h with h | ⟨g, h, hg⟩
 · exact .inl ⟨a, by rw [← h]; exact ha, rfl⟩
 · rw [h] at ha; injection ha with ha; subst ha; exact .inr hg
theorem moved_refl (w : World) (l : Sl) : Moved w l l := .inl rfl
theorem moved_trans {w w' : World} {l l' l'' : Sl} (h : Moved w l l') (h' : Moved w' l' l'') (hs : w.heap.size ≤ w'.heap.size) : Moved w l l'' := by
 rcases h' with h' | ⟨g, h', hg⟩
 · rcases h with h | ⟨g, h, hg⟩
   · exact .inl (h'.trans h)
   · exact .inr ⟨g, h'.trans h, hg⟩
 · exact .inr ⟨g, h', Nat.le_trans hs hg⟩
theorem outS_trans {w w' w'' : World} {g : Nat} {l l' : Sl} (h : Fr (outS g l) w w') (h' : Fr (outS g l') w' w'') (hm : Moved w l l') : Fr (outS g l) w w'' :=
 h.trans h' fun k hk hs => by
   rcases hs with hs | hs
   · exact .inl hs
   · rcases moved_bk hm hs with h1 | h1
     · exact .inr h1
     · omega
/-- the row is appended to, and stored -/
theorem OutAt.stored {w w1 : World} {g : Nat} {l l' : Sl} {bs bs' : List UInt8} {e : Int} (h : OutAt w g l bs e) (ho : Own w1 T.y_uint8 1 l' (bv bs')) (hf : Fr l.bk w w1) (hm : Moved w l l') :
   Wr w1 (blk g) ∧ OutAt (w1.setCell (blk g) (.slice l'.a l'.len l'.cap)) g l' bs' e ∧ Fr (outS g l) w (w1.setCell (blk g) (.slice l'.a l'.len l'.cap)) := by
 have hg1 := hf.heap h.obj h.ne
 have hne : ¬ l'.bk g := fun hk => by
   rcases moved_bk hm hk with h1 | h1
   · exact h.ne h1
   · have := heap_lt h.obj; omega
 refine ⟨blk_wr0 hg1 (by simp), ⟨?_, ?_, hne⟩, ?_⟩
 · have := blk_set0 hg1 (.slice l'.a l'.len l'.cap)
   simpa using this
 · exact ho.keep (fr_set0 w1 g _) (fun k hk he => hne (by subst he; exact hk))
 · exact (hf.mono (fun k _ hk => .inr hk)).trans (S := outS g l) ((fr_set0 w1 g _).mono (S' := outS g l) (fun k _ hk => .inl hk)) (fun _ _ h => h)
def leByte (i : Nat) (v : Int) : UInt8 := UInt8.ofNat (v / 2 ^ (8 * i) % 256).toNat
def leBytes (size : Nat) (v : Int) : List UInt8 := (List.range size).map fun i => leByte i v
theorem leBytes_succ (n : Nat) (v : Int) : leBytes (n + 1) v = leBytes n v ++ [leByte n v] := by simp [leBytes, List.range_succ]
theorem leBytes_len (n : Nat) (v : Int) : (leBytes n v).length = n := by simp [leBytes]
theorem shr_val {v : Int} {i : Nat} (hi : i ≤ 8) : shr .i64 v (8 * (i : Int)) = v / 2 ^ (8 * i) := by
 unfold shr
 have e : min (8 * (i : Int)).toNat IntKind.i64.bits = 8 * i := by
   have : (8 * (i : Int)).toNat = 8 * i := by omega
   rw [this]
   show min (8 * i) 64 = 8 * i
   omega
 rw [e, Int.fdiv_eq_ediv_of_nonneg _ (by exact Int.le_of_lt (Int.pow_pos (by decide)))]
theorem leByte_val (i : Nat) (v : Int) : Value.int .u8 ((leByte i v).toNat : Int) = Value.int .u8 (wr .u8 (v / 2 ^ (8 * i))) := by
 rw [wr8]
 unfold leByte
 have h0 := Int.emod_nonneg (v / 2 ^ (8 * i)) (by decide : (256 : Int) ≠ 0)
 have h1 := Int.emod_lt_of_pos (v / 2 ^ (8 * i)) (by decide : (0 : Int) < 256)
 rw [UInt8.toNat_ofNat']
 congr 1
 omega
/-- the inner loop -/
theorem layInner {w : World} {g : Nat} {l : Sl} {bs : List UInt8} (hO : OutAt w g l bs 0) {size : Nat} (hsz : size ≤ 8) {v : Int} (hb : bs.length ≤ 1099511627776) {K : World → Prop}
   (hK : ∀ l' w', OutAt w' g l' (bs ++ leBytes size v) 0 → Fr (outS g l) w w' → Moved w l l' → K w') :
   ∃ (J1 : Int → World → Prop) (m1 : Int → World → Nat), (J1 0 w ∧ (∀ (n3 : Int) (w_3 : World), J1 n3 w_3 → ((((decide (n3 < (size : Int))) = true → (let w_4 := w_3.drew; ∃ (ad4 : Addr), (some (blk g) = some ad4 ∧ (∃ (l1 : Sl), (w_4.cell? ad4 = some (.slice l1.a l1.len l1.cap) ∧ ((0 : Int) ≤ (w64 ((8 : Int) * n3)) ∧ (let w_5 := w_4.alloc (.cells #[.int .u8 (wr .u8 ((shr .i64 v (w64 ((8 : Int) * n3)))))] T.y_uint8); (w_5.cell? ad4 = some (.slice l1.a l1.len l1.cap) ∧ (RunT Pg (Builtin.append_ #[T.y_sl_uint8, T.y_sl_uint8] T.y_sl_uint8 #[.slice l1.a l1.len l1.cap, .slice (some (blk w_4.heap.size)) 1 1]) [.one .slice] w_5 (fun (l2 : Sl) (w_6 : World) => ∃ (ad5 : Addr), (some (blk g) = some ad5 ∧ (Wr w_6 ad5 ∧ (let w_7 := w_6.setCell ad5 (.slice l2.a l2.len l2.cap); (J1 (w64 (n3 + 1)) w_7 ∧ (m1 (w64 (n3 + 1)) w_7 < m1 n3 w_3))))))))))))))) ∧ ((decide (n3 < (size : Int))) = false → (K w_3)))))) := by
 obtain ⟨i, hi, hz, hs1, hby⟩ := info_byte
 refine ⟨fun n w' => ∃ m : Nat, n = m ∧ m ≤ size ∧ ∃ l', OutAt w' g l' (bs ++ leBytes m v) 0 ∧ Fr (outS g l) w w' ∧ Moved w l l', fun n _ => (size - n).toNat, ?_, ?_⟩
 · exact ⟨0, rfl, Nat.zero_le _, l, by simpa [leBytes] using hO, Fr.refl _ _, moved_refl _ _⟩
 rintro n w1 ⟨m, rfl, hm, l', hO', hF, hM⟩
 refine ⟨fun hlt => ?_, fun hge => ?_⟩
 · have hlt : m < size := by simpa using hlt
   have e8 : w64 (8 * (m : Int)) = 8 * (m : Int) := w64_id (by omega) (by omega)
   refine ⟨blk g, rfl, l', ?_, by rw [e8]; omega, ?_⟩
   · rw [drew_cell, blk_cell0 hO'.obj]; rfl
   have hOa : OutAt (w1.drew.alloc (.cells #[.int .u8 (wr .u8 ((shr .i64 v (w64 ((8 : Int) * m)))))] T.y_uint8)) g l' (bs ++ leBytes m v) 0 :=
     hO'.keep (S := no) ((Fr.drew _ w1).trans (Fr.alloc no _ _) (fun _ _ h => h)) id (fun _ _ => id)
   refine ⟨by rw [blk_cell0 hOa.obj]; rfl, ?_⟩
   have hnew := heap_new w1.drew (.cells #[.int .u8 (wr .u8 ((shr .i64 v (w64 ((8 : Int) * m)))))] T.y_uint8)
   refine runT_append (size := 1) (bytes := 1) und_bytes hi hz hs1 hby rfl (by decide) hOa.own (m := 1) (news := bv [leByte m v]) rfl ?_ ?_ ?_ ?_ ?_
   · intro j u hu
     have : j = 0 := by
       rcases j with _ | j
       · rfl
       · simp [bv] at hu
     subst this
     simp only [bv, List.map_cons, List.map_nil, List.getElem?_cons_zero, Option.some.injEq] at hu
     subst hu
     rw [blk_cell (cs := [_]) hnew 0, e8, shr_val (by omega), leByte_val]
     rfl
   · intro u hu
     simp only [bv, List.map_cons, List.map_nil, List.mem_singleton] at hu
     subst hu; rfl
   · have := hOa.len; simp only [List.length_append, leBytes_len] at this; simp only [maxLen]; omega
   · have := hOa.len; simp only [List.length_append, leBytes_len] at this; omega
   intro l2 w6 ho2 hl2 hf2 hm2
   have hbv : bv (bs ++ leBytes m v) ++ bv [leByte m v] = bv (bs ++ leBytes (m + 1) v) := by simp [bv, leBytes_succ]
   rw [hbv] at ho2
   obtain ⟨hwr, hO7, hF7⟩ := hOa.stored ho2 hf2 hm2
   refine ⟨blk g, rfl, hwr, ?_⟩
   have e1 : w64 ((m : Int) + 1) = ((m + 1 : Nat) : Int) := by rw [w64_id (by omega) (by omega)]; omega
   have hF8 := (((Fr.drew (outS g l') w1).trans (Fr.alloc (outS g l') w1.drew (.cells #[.int .u8 (wr .u8 ((shr .i64 v (w64 ((8 : Int) * m)))))] T.y_uint8)) (fun _ _ h => h))).trans hF7 (fun _ _ h => h)
   refine ⟨⟨m + 1, e1, hlt, l2, hO7, outS_trans hF hF8 hM, moved_trans hM hm2 (Nat.le_trans hF.size (by simp))⟩, ?_⟩
   show ((size : Int) - w64 ((m : Int) + 1)).toNat < ((size : Int) - (m : Int)).toNat
   rw [e1]; omega
 · have hge : size ≤ m := by simpa using hge
   have : m = size := by omega
   subst this
   exact hK l' w1 hO' hF hM
def fitsN (size : Nat) (v : Int) : Bool := decide (0 ≤ v) && (decide (8 ≤ size) || decide (v < 2 ^ (8 * size)))
def layL (size : Nat) : List Int → List UInt8 × Int → List UInt8 × Int
 | [], x => x
 | v :: r, (bs, e) => if e ≠ 0 then (bs, e) else if fitsN size v then layL size r (bs ++ leBytes size v, 0) else (bs, 1)
theorem layL_err {size : Nat} : ∀ (vs : List Int) {bs : List UInt8} {e : Int}, e ≠ 0 → layL size vs (bs, e) = (bs, e)
 | [], _, _, _ => rfl
 | v :: r, bs, e, h => by simp [layL, h]
/-- the ints of a slice -/
def Ints (w : World) (sl : Sl) (vs : List Int) : Prop := sl.len = vs.length ∧ ∀ j v, vs[j]? = some v → ∃ a, sl.a = some a ∧ w.cell? (a.add (j * 1)) = some (.int .i64 v)
theorem Ints.keep {w w' : World} {sl : Sl} {vs : List Int} (h : Ints w sl vs) {S : Nat → Prop} (hf : Fr S w w') (hs : ∀ k, sl.bk k → ¬ S k) : Ints w' sl vs :=
 ⟨h.1, fun j v hj => by
   obtain ⟨a, ha, hc⟩ := h.2 j v hj
   refine ⟨a, ha, hf.cell hc ?_⟩
   have : (a.add (j * 1)).block = a.block := by unfold Addr.add; split <;> rfl
   rw [this]
   exact hs _ ⟨a, ha, rfl⟩⟩
theorem Ints.one {w : World} {g : Nat} {t : TypeId} {v : Int} (h : w.heap[g]? = some (.cells ⟨[.int .i64 v]⟩ t (0, 0))) : Ints w ⟨some (blk g), 1, 1⟩ [v] :=
 ⟨rfl, fun j u hj => by
   have : j = 0 := by
     rcases j with _ | j
     · rfl
     · simp at hj
   subst this
   simp only [List.getElem?_cons_zero, Option.some.injEq] at hj
   subst hj
   exact ⟨blk g, rfl, by rw [blk_cell h]; rfl⟩⟩
theorem Out_lay {w : World} {g : Nat} {l : Sl} {bs : List UInt8} {e : Int} (hO : OutAt w g l bs e) {size : Nat} (hsz : size ≤ 8) {sl : Sl} {vs : List Int} (hv : Ints w sl vs) (hsep : ∀ k, sl.bk k → ¬ outS g l k)
   (hvs : ∀ v ∈ vs, v < 9223372036854775808) (hb : bs.length + 8 * vs.length ≤ 1099511627776) {R : Option Addr → World → Prop}
   (hR : ∀ l' w', OutAt w' g l' (layL size vs (bs, e)).1 (layL size vs (bs, e)).2 → Fr (outS g l) w w' → Moved w l l' → R (some (blk g)) w') :
   F.bits_Out_lay (some (blk g)) size sl w R := by
 apply E.bits_Out_lay
 unfold V.bits_Out_lay
 try simp -zeta only [ldC, soC, brC, bkA, slC, stC, alC, drC]
 refine ⟨fun n w' => ∃ m : Nat, n = m ∧ m ≤ vs.length ∧ ∃ l' bs' e', OutAt w' g l' bs' e' ∧ layL size vs (bs, e) = layL size (vs.drop m) (bs', e') ∧ bs'.length ≤ bs.length + 8 * m ∧ Fr (outS g l) w w' ∧ Moved w l l',
   fun n _ => (vs.length - n).toNat, ?_, ?_⟩
 · exact ⟨0, rfl, Nat.zero_le _, l, bs, e, hO, rfl, by omega, Fr.refl _ _, moved_refl _ _⟩
 rintro n w1 ⟨m, rfl, hm, l1, bs1, e1, hO1, hL, hlen, hF, hM⟩
 have hv1 := hv.keep hF hsep
 refine ⟨fun hlt => ?_, fun hge => ?_⟩
 · have hlt : m < vs.length := by have := hv.1; simp at hlt; omega
   obtain ⟨a, ha, hc⟩ := hv1.2 m vs[m] (by simp [hlt])
   have hd : vs.drop m = vs[m] :: vs.drop (m + 1) := List.drop_eq_getElem_cons hlt
   have e1' : w64 ((m : Int) + 1) = ((m + 1 : Nat) : Int) := by rw [w64_id (by omega) (by omega)]; omega
   refine ⟨a, ha, by omega, by have := hv.1; omega, vs[m], by simpa using hc, fun h => by simp at h, fun _ => ⟨blk g, rfl, e1, by rw [blk_cell hO1.obj]; rfl, fun hne => ?_, fun heq => ?_⟩⟩
   · have hne : e1 ≠ 0 := by simpa using hne
     rw [layL_err _ hne] at hL
     exact hR l1 w1 (by rw [hL]; exact hO1) hF hM
   have heq : e1 = 0 := by simpa using heq
   subst heq
   -- an error is set
   have bad : fitsN size vs[m] = false → ∃ (ad : Addr), some (blk g) = some ad ∧ (Wr w1 (ad.add 1) ∧ R (some (blk g)) (w1.setCell (ad.add 1) (.int .i64 1))) := by
     intro hf
     rw [hd] at hL
     simp only [layL, hf] at hL
     refine ⟨blk g, rfl, blk_wr hO1.obj (by simp), hR l1 _ ?_ (hF.trans ((fr_set w1 g 1 _).mono (S' := outS g l) (fun k _ h => .inl h)) (fun _ _ h => h)) hM⟩
     rw [hL]
     refine ⟨?_, hO1.own.keep (fr_set w1 g 1 _) (fun k hk he => hO1.ne (by subst he; exact hk)), hO1.ne⟩
     have := blk_set hO1.obj 1 (.int .i64 1)
     simpa using this
   have good : ∀ l' w', fitsN size vs[m] = true → OutAt w' g l' (bs1 ++ leBytes size vs[m]) 0 → Fr (outS g l1) w1 w' → Moved w1 l1 l' →
       ((∃ m' : Nat, w64 ((m : Int) + 1) = m' ∧ m' ≤ vs.length ∧ ∃ l' bs' e', OutAt w' g l' bs' e' ∧ layL size vs (bs, e) = layL size (vs.drop m') (bs', e') ∧ bs'.length ≤ bs.length + 8 * m' ∧ Fr (outS g l) w w' ∧ Moved w l l') ∧
         ((vs.length : Int) - w64 ((m : Int) + 1)).toNat < ((vs.length : Int) - (m : Int)).toNat) := by
     intro l' w' hf hO' hF' hM'
     rw [hd] at hL
     simp only [layL, hf] at hL
     refine ⟨⟨m + 1, e1', hlt, l', _, 0, hO', hL, ?_, outS_trans hF hF' hM, moved_trans hM hM' hF.size⟩, by rw [e1']; omega⟩
     rw [List.length_append, leBytes_len]; omega
   refine ⟨fun hneg => ?_, fun hpos => ?_⟩
   · have hneg : vs[m] < 0 := by simpa using hneg
     exact bad (by simp [fitsN]; omega)
   have hpos : 0 ≤ vs[m] := by simpa using hpos
   have hbl : bs1.length ≤ 1099511627776 := by omega
   refine ⟨fun hs8 => ?_, fun hs8 => ?_⟩
   · have hs8 : size < 8 := by simp at hs8; omega
     have e8 : w64 (8 * (size : Int)) = 8 * (size : Int) := w64_id (by omega) (by omega)
     rw [e8, shr_val (by omega)]
     have hpw : (0 : Int) < 2 ^ (8 * size) := Int.pow_pos (by decide)
     refine ⟨by omega, fun hbig => ?_, fun hsm => ?_⟩
     · have hbig : vs[m] / 2 ^ (8 * size) ≠ 0 := by simpa using hbig
       refine bad ?_
       have : ¬ vs[m] < 2 ^ (8 * size) := fun h => hbig (Int.ediv_eq_zero_of_lt hpos h)
       simp only [fitsN, Bool.and_eq_false_iff, Bool.or_eq_false_iff, decide_eq_false_iff_not]
       exact .inr ⟨by omega, this⟩
     · have hsm : vs[m] / 2 ^ (8 * size) = 0 := by simpa using hsm
       have hlt2 : vs[m] < 2 ^ (8 * size) := by
         rcases Int.lt_or_le vs[m] (2 ^ (8 * size)) with h | h
         · exact h
         · have := Int.le_ediv_of_mul_le hpw (by simpa using h : 1 * (2 ^ (8 * size) : Int) ≤ vs[m])
           omega
       exact layInner hO1 hsz hbl (fun l' w' h1 h2 h3 => good l' w' (by simp [fitsN, hpos, hlt2]) h1 h2 h3)
   · have hs8 : size = 8 := by simp at hs8; omega
     exact layInner hO1 hsz hbl (fun l' w' h1 h2 h3 => good l' w' (by simp [fitsN, hpos, hs8]) h1 h2 h3)
 · have hge : vs.length ≤ m := by have := hv.1; simp at hge; omega
   have : m = vs.length := by omega
   subst this
   rw [List.drop_length] at hL
   exact hR l1 w1 (by rw [hL]; exact hO1) hF hM
end Go.Proofs.YtggachhkcmfijaaGreatDoor
