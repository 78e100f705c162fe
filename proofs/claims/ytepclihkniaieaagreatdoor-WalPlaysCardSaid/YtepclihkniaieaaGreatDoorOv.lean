/- bits.Out: its other methods. -/
import Derived.Test.YtepclihkniaieaaGreatDoorIn
set_option linter.unusedVariables false
namespace Go.Proofs.YtepclihkniaieaaGreatDoor
open Go Go.Vc Go.RowKit Go.Lib

/-- one number laid in so many bytes -/
def lay1 (size : Nat) (v : Int) (x : List UInt8 × Int) : List UInt8 × Int := layL size [v] x

theorem out_sep {w : World} {g h : Nat} {l : Sl} {bs : List UInt8} {e : Int} (hO : OutAt w g l bs e) {cs : List Value} {t : TypeId} (hh : w.heap[h]? = some (.cells ⟨cs⟩ t (0, 0))) (h1 : t ≠ T.y_bits_Out) (h2 : t ≠ T.y_uint8) :
    ∀ k, (⟨some (blk h), 1, 1⟩ : Sl).bk k → ¬ outS g l k := by
  rintro k ⟨a, ha, rfl⟩ hs
  injection ha with ha
  subst ha
  rcases hs with hs | hs
  · have : h = g := hs
    subst this
    rw [hO.obj] at hh
    injection hh with hh
    injection hh with _ hh
    exact h1 hh.symm
  · obtain ⟨a, ha, hb⟩ := hs
    rcases hO.own.2 with ⟨h3, _⟩ | ⟨g', cap, cur, hv, _, hg, _⟩
    · simp only [Value.slice.injEq] at h3; rw [ha] at h3; cases h3.1
    · simp only [Value.slice.injEq] at hv
      rw [ha] at hv
      have : a = blk g' := by simpa using hv.1
      subst this
      have hb : g' = h := hb
      subst hb
      rw [hh] at hg
      injection hg with hg
      injection hg with _ hg
      exact h2 hg

section
variable {w : World} {g : Nat} {l : Sl} {bs : List UInt8} {e : Int}

/-- one number -/
theorem Out_one (hO : OutAt w g l bs e) {size : Nat} (hsz : size ≤ 8) {h : Nat} {v : Int} (hh : w.heap[h]? = some (.cells ⟨[.int .i64 v]⟩ T.y_int (0, 0))) (hv : v < 9223372036854775808) (hb : bs.length ≤ 1000000000000)
    {R : Option Addr → World → Prop}
    (hR : ∀ l' w', OutAt w' g l' (lay1 size v (bs, e)).1 (lay1 size v (bs, e)).2 → Fr (outS g l) w w' → Moved w l l' → R (some (blk g)) w') : F.bits_Out_lay (some (blk g)) size ⟨some (blk h), 1, 1⟩ w R :=
  Out_lay hO hsz (Ints.one hh) (out_sep hO hh (by decide) (by decide)) (by simpa using hv) (by simp; omega) hR

theorem Out_Byte (hO : OutAt w g l bs e) {h : Nat} {v : Int} (hh : w.heap[h]? = some (.cells ⟨[.int .i64 v]⟩ T.y_int (0, 0))) (hv : v < 9223372036854775808) (hb : bs.length ≤ 1000000000000) {R : Option Addr → World → Prop}
    (hR : ∀ l' w', OutAt w' g l' (lay1 1 v (bs, e)).1 (lay1 1 v (bs, e)).2 → Fr (outS g l) w w' → Moved w l l' → R (some (blk g)) w') : F.bits_Out_Byte (some (blk g)) ⟨some (blk h), 1, 1⟩ w R := by
  apply E.bits_Out_Byte
  exact Out_one hO (size := 1) (by decide) hh hv hb hR
theorem Out_Half (hO : OutAt w g l bs e) {h : Nat} {v : Int} (hh : w.heap[h]? = some (.cells ⟨[.int .i64 v]⟩ T.y_int (0, 0))) (hv : v < 9223372036854775808) (hb : bs.length ≤ 1000000000000) {R : Option Addr → World → Prop}
    (hR : ∀ l' w', OutAt w' g l' (lay1 2 v (bs, e)).1 (lay1 2 v (bs, e)).2 → Fr (outS g l) w w' → Moved w l l' → R (some (blk g)) w') : F.bits_Out_Half (some (blk g)) ⟨some (blk h), 1, 1⟩ w R := by
  apply E.bits_Out_Half
  exact Out_one hO (size := 2) (by decide) hh hv hb hR
theorem Out_Word (hO : OutAt w g l bs e) {h : Nat} {v : Int} (hh : w.heap[h]? = some (.cells ⟨[.int .i64 v]⟩ T.y_int (0, 0))) (hv : v < 9223372036854775808) (hb : bs.length ≤ 1000000000000) {R : Option Addr → World → Prop}
    (hR : ∀ l' w', OutAt w' g l' (lay1 4 v (bs, e)).1 (lay1 4 v (bs, e)).2 → Fr (outS g l) w w' → Moved w l l' → R (some (blk g)) w') : F.bits_Out_Word (some (blk g)) ⟨some (blk h), 1, 1⟩ w R := by
  apply E.bits_Out_Word
  exact Out_one hO (size := 4) (by decide) hh hv hb hR
theorem Out_Long (hO : OutAt w g l bs e) {h : Nat} {v : Int} (hh : w.heap[h]? = some (.cells ⟨[.int .i64 v]⟩ T.y_int (0, 0))) (hv : v < 9223372036854775808) (hb : bs.length ≤ 1000000000000) {R : Option Addr → World → Prop}
    (hR : ∀ l' w', OutAt w' g l' (lay1 8 v (bs, e)).1 (lay1 8 v (bs, e)).2 → Fr (outS g l) w w' → Moved w l l' → R (some (blk g)) w') : F.bits_Out_Long (some (blk g)) ⟨some (blk h), 1, 1⟩ w R := by
  apply E.bits_Out_Long
  exact Out_one hO (size := 8) (by decide) hh hv hb hR

/-- bytes as they are -/
def raw1 (s : List UInt8) (x : List UInt8 × Int) : List UInt8 × Int := if x.2 ≠ 0 then x else (x.1 ++ s, 0)

theorem Out_Raw (hO : OutAt w g l bs e) {h : Nat} {s : List UInt8} (hh : w.heap[h]? = some (.cells ⟨[.string (tx s)]⟩ T.y_string (0, 0))) (hb : bs.length ≤ 1000000000000) (hs : s.length ≤ 1000000000000) {R : Option Addr → World → Prop}
    (hR : ∀ l' w', OutAt w' g l' (raw1 s (bs, e)).1 (raw1 s (bs, e)).2 → Fr (outS g l) w w' → Moved w l l' → R (some (blk g)) w') : F.bits_Out_Raw (some (blk g)) ⟨some (blk h), 1, 1⟩ w R := by
  apply E.bits_Out_Raw
  unfold V.bits_Out_Raw
  obtain ⟨i, hi, hz, hs1, hby⟩ := info_byte
  refine ⟨fun n w' => (n = 0 ∧ w' = w) ∨ (n = 1 ∧ ∃ l', OutAt w' g l' (raw1 s (bs, e)).1 (raw1 s (bs, e)).2 ∧ Fr (outS g l) w w' ∧ Moved w l l'), fun n _ => (1 - n).toNat, .inl ⟨rfl, rfl⟩, ?_⟩
  rintro n w1 (⟨rfl, rfl⟩ | ⟨rfl, l1, hO1, hF1, hM1⟩)
  · refine ⟨fun _ => ?_, fun hf => by simp at hf⟩
    refine ⟨blk h, rfl, by decide, by show (0 : Int) < 1; decide, tx s, by have := blk_cell hh 0; simpa using this, fun hn => by simp at hn, fun _ => ⟨blk g, rfl, e, by rw [blk_cell hO.obj]; rfl, fun hne => ?_, fun heq => ?_⟩⟩
    · have hne : e ≠ 0 := by simpa using hne
      have e1 : raw1 s (bs, e) = (bs, e) := by simp [raw1, hne]
      rw [e1] at hR
      exact hR l w1 hO (Fr.refl _ _) (moved_refl _ _)
    have heq : e = 0 := by simpa using heq
    subst heq
    refine ⟨blk g, rfl, l, by rw [blk_cell0 hO.obj]; rfl, ?_⟩
    have hlen := hO.len
    refine runT_append_str und_bytes und_str hi hz hs1 hby hO.own (by rw [tx_size]; simp only [maxLen]; omega) (by rw [tx_size]; omega) fun l2 w2 ho2 hl2 hf2 hm2 => ?_
    have hbv : bv bs ++ strCells (tx s) = bv (bs ++ s) := by rw [strCells_tx]; simp [bv]
    rw [hbv] at ho2
    obtain ⟨hwr, hO3, hF3⟩ := hO.stored ho2 hf2 hm2
    have e1 : w64 ((0 : Int) + 1) = 1 := w64_id (by decide) (by decide)
    refine ⟨blk g, rfl, hwr, .inr ⟨e1, l2, ?_, hF3, hm2⟩, ?_⟩
    · exact hO3
    · show ((1 : Int) - w64 (0 + 1)).toNat < ((1 : Int) - 0).toNat
      rw [e1]; decide
  · refine ⟨fun ht => by simp at ht, fun _ => hR l1 w1 hO1 hF1 hM1⟩

theorem Out_End (hO : OutAt w g l bs e) {R : ByteArray → Int → World → Prop} (hR : ∀ w', Fr no w w' → R (tx (if e ≠ 0 then [] else bs)) e w') : F.bits_Out_End (some (blk g)) w R := by
  apply E.bits_Out_End
  unfold V.bits_Out_End
  refine ⟨fun h => by simp at h, fun _ => ⟨blk g, rfl, e, by rw [blk_cell hO.obj]; rfl, fun hne => ?_, fun heq => ?_⟩⟩
  · have hne : e ≠ 0 := by simpa using hne
    rw [if_pos hne] at hR
    exact ⟨blk g, rfl, e, by rw [drew_cell, blk_cell hO.obj]; rfl, hR _ (Fr.drew _ _)⟩
  · have heq : e = 0 := by simpa using heq
    subst heq
    rw [if_neg (by simp)] at hR
    refine ⟨blk g, rfl, l, by rw [blk_cell0 hO.obj]; rfl, ?_⟩
    exact runT_bytes_str und_bytes und_byte und_str hO.own (hR _ (Fr.refl _ _))
end

end Go.Proofs.YtepclihkniaieaaGreatDoor
