/- bits.Out: its other methods. -/
import Derived.Test.YtgacpkgaogiocaaGreatDoorIn
set_option linter.unusedVariables false
namespace Go.Proofs.YtgacpkgaogiocaaGreatDoor
open Go Go.Vc Go.RowKit Go.Lib
/-- one number laid in so many bytes -/
def lay1 (size : Nat) (v : Int) (x : List UInt8 × Int) : List UInt8 × Int := layL size [v] x
theorem out_sep {w : World} {g h : Nat} {l : Sl} {bs : List UInt8} {e : Int} (hO : OutAt w g l bs e) {cs : List Value} {t : TypeId} (hh : w.heap[h]? = some (.cells ⟨cs⟩ t (0, 0))) (h1 : t ≠ T.y_bits_Out) (h2 : t ≠ T.y_uint8) :
   ∀ k, (⟨some (blk h), 1, 1⟩ : Sl).bk k → ¬ outS g l k := by
 rintro k ⟨a, ha, rfl⟩ hs
 injection ha with ha
 subst ha
 rcases hs with hs | hs
 · have : h = g := hs
   subst this
   rw [hO.obj] at hh
   injection hh with hh
   injection hh with _ hh
   exact h1 hh.symm
 · obtain ⟨a, ha, hb⟩ := hs
   rcases hO.own.2 with ⟨h3, _⟩ | ⟨g', cap, cur, hv, _, hg, _⟩
   · simp only [Value.slice.injEq] at h3; rw [ha] at h3; cases h3.1
   · simp only [Value.slice.injEq] at hv
     rw [ha] at hv
     have : a = blk g' := by simpa using hv.1
     subst this
     have hb : g' = h := hb
     subst hb
     rw [hh] at hg
     injection hg with hg
     injection hg with _ hg
     exact h2 hg
section
variable {w : World} {g : Nat} {l : Sl} {bs : List UInt8} {e : Int}
/-- one number -/
theorem Out_one (hO : OutAt w g l bs e) {size : Nat} (hsz : size ≤ 8) {h : Nat} {v : Int} (hh : w.heap[h]? = some (.cells ⟨[.int .i64 v]⟩ T.y_int (0, 0))) (hv : v < 9223372036854775808) (hb : bs.length ≤ 1000000000000)
   {R : Option Addr → World → Prop}
   (hR : ∀ l' w', OutAt w' g l' (lay1 size v (bs, e)).1 (lay1 size v (bs, e)).2 → Fr (outS g l) w w' → Moved w l l' → R (some (blk g)) w') : F.bits_Out_lay (some (blk g)) size ⟨some (blk h), 1, 1⟩ w R :=
 Out_lay hO hsz (Ints.one hh) (out_sep hO hh (by decide) (by decide)) (by simpa using hv) (by simp; omega) hR
theorem Out_Byte (hO : OutAt w g l bs e) {h : Nat} {v : Int} (hh : w.heap[h]? = some (.cells ⟨[.int .i64 v]⟩ T.y_int (0, 0))) (hv : v < 9223372036854775808) (hb : bs.length ≤ 1000000000000) {R : Option Addr → World → Prop}
   (hR : ∀ l' w', OutAt w' g l' (lay1 1 v (bs, e)).1 (lay1 1 v (bs, e)).2 → Fr (outS g l) w w' → Moved w l l' → R (some (blk g)) w') : F.bits_Out_Byte (some (blk g)) ⟨some (blk h), 1, 1⟩ w R := by
 apply E.bits_Out_Byte
 exact Out_one hO (size := 1) (by decide) hh hv hb hR
theorem Out_Half (hO : OutAt w g l bs e) {h : Nat} {v : Int} (hh : w.heap[h]? = some (.cells ⟨[.int .i64 v]⟩ T.y_int (0, 0))) (hv : v < 9223372036854775808) (hb : bs.length ≤ 1000000000000) {R : Option Addr → World → Prop}
   (hR : ∀ l' w', OutAt w' g l' (lay1 2 v (bs, e)).1 (lay1 2 v (bs, e)).2 → Fr (outS g l) w w' → Moved w l l' → R (some (blk g)) w') : F.bits_Out_Half (some (blk g)) ⟨some (blk h), 1, 1⟩ w R := by
 apply E.bits_Out_Half
 exact Out_one hO (size := 2) (by decide) hh hv hb hR
theorem Out_Word (hO : OutAt w g l bs e) {h : Nat} {v : Int} (hh : w.heap[h]? = some (.cells ⟨[.int .i64 v]⟩ T.y_int (0, 0))) (hv : v < 9223372036854775808) (hb : bs.length ≤ 1000000000000) {R : Option Addr → World → Prop}
   (hR : ∀ l' w', OutAt w' g l' (lay1 4 v (bs, e)).1 (lay1 4 v (bs, e)).2 → Fr (outS g l) w w' → Moved w l l' → R (some (blk g)) w') : F.bits_Out_Word (some (blk g)) ⟨some (blk h), 1, 1⟩ w R := by
 apply E.bits_Out_Word
 exact Out_one hO (size := 4) (by decide) hh hv hb hR
theorem Out_Long (hO : OutAt w g l bs e) {h : Nat} {v : Int} (hh : w.heap[h]? = some (.cells ⟨[.int .i64 v]⟩ T.y_int (0, 0))) (hv : v < 9223372036854775808) (hb : bs.length ≤ 1000000000000) {R : Option Addr → World → Prop}
   (hR : ∀ l' w', OutAt w' g l' (lay1 8 v (bs, e)).1 (lay1 8 v (bs, e)).2 → Fr (outS g l) w w' → Moved w l l' → R (some (blk g)) w') : F.bits_Out_Long (some (blk g)) ⟨some (blk h), 1, 1⟩ w R := by
 apply E.bits_Out_Long
 exact Out_one hO (size := 8) (by decide) hh hv hb hR
/-- bytes as they are -/
def raw1 (s : List UInt8) (x : List UInt8 × Int) : List UInt8 × Int := if x.2 ≠ 0 then x else (x.1 ++ s, 0)
theorem Out_Raw (hO : OutAt w g l bs e) {h : Nat} {s : List UInt8} (hh : w.heap[h]? = some (.cells ⟨[.string (tx s)]⟩ T.y_string (0, 0))) (hb : bs.length ≤ 1000000000000) (hs : s.length ≤ 1000000000000) {R : Option Addr → World → Prop}
   (hR : ∀ l' w', OutAt w' g l' (raw1 s (bs, e)).1 (raw1 s (bs, e)).2 → Fr (outS g l) w w' → Moved w l l' → R (some (blk g)) w') : F.bits_Out_Raw (some (blk g)) ⟨some (blk h), 1, 1⟩ w R := by
 apply E.bits_Out_Raw
 unfold V.bits_Out_Raw
 try simp -zeta only [ldC, soC, brC, bkA, slC, stC, alC, drC]
 obtain ⟨i, hi, hz, hs1, hby⟩ := info_byte
 refine ⟨fun n w' => (n = 0 ∧ w' = w) ∨ (n = 1 ∧ ∃ l', OutAt w' g l' (raw1 s (bs, e)).1 (raw1 s (bs, e)).2 ∧ Fr (outS g l) w w' ∧ Moved w l l'), fun n _ => (1 - n).toNat, .inl ⟨rfl, rfl⟩, ?_⟩
 rintro n w1 (⟨rfl, rfl⟩ | ⟨rfl, l1, hO1, hF1, hM1⟩)
 · refine ⟨fun _ => ?_, fun hf => by simp at hf⟩
   refine ⟨blk h, rfl, by decide, by show (0 : Int) < 1; decide, tx s, by have := blk_cell hh 0; simpa using this, fun hn => by simp at hn, fun _ => ⟨blk g, rfl, e, by rw [blk_cell hO.obj]; rfl, fun hne => ?_, fun heq => ?_⟩⟩
   · have hne : e ≠ 0 := by simpa using hne
     have e1 : raw1 s (bs, e) = (bs, e) := by simp [raw1, hne]
     rw [e1] at hR
     exact hR l w1 hO (Fr.refl _ _) (moved_refl _ _)
   have heq : e = 0 := by simpa using heq
   subst heq
   refine ⟨blk g, rfl, l, by rw [blk_cell0 hO.obj]; rfl, ?_⟩
   have hlen := hO.len
   refine runT_append_str und_bytes und_str hi hz hs1 hby hO.own (by rw [tx_size]; simp only [maxLen]; omega) (by rw [tx_size]; omega) fun l2 w2 ho2 hl2 hf2 hm2 => ?_
   have hbv : bv bs ++ strCells (tx s) = bv (bs ++ s) := by rw [strCells_tx]; simp [bv]
   rw [hbv] at ho2
   obtain ⟨hwr, hO3, hF3⟩ := hO.stored ho2 hf2 hm2
   have e1 : w64 ((0 : Int) + 1) = 1 := w64_id (by decide) (by decide)
   refine ⟨blk g, rfl, hwr, .inr ⟨e1, l2, ?_, hF3, hm2⟩, ?_⟩
   · exact hO3
   · show ((1 : Int) - w64 (0 + 1)).toNat < ((1 : Int) - 0).toNat
     rw [e1]; decide
 · refine ⟨fun ht => by simp at ht, fun _ => hR l1 w1 hO1 hF1 hM1⟩
theorem Out_End (hO : OutAt w g l bs e) {R : ByteArray → Int → World → Prop} (hR : ∀ w', Fr no w w' → R (tx (if e ≠ 0 then [] else bs)) e w') : F.bits_Out_End (some (blk g)) w R := by
 apply E.bits_Out_End
 unfold V.bits_Out_End
 try simp -zeta only [ldC, soC, brC, bkA, slC, stC, alC, drC]
 refine ⟨fun h => by simp at h, fun _ => ⟨blk g, rfl, e, by rw [blk_cell hO.obj]; rfl, fun hne => ?_, fun heq => ?_⟩⟩
 · have hne : e ≠ 0 := by simpa using hne
   rw [if_pos hne] at hR
   exact ⟨blk g, rfl, e, by rw [drew_cell, blk_cell hO.obj]; rfl, hR _ (Fr.drew _ _)⟩
 · have heq : e = 0 := by simpa using heq
   subst heq
   rw [if_neg (by simp)] at hR
   refine ⟨blk g, rfl, l, by rw [blk_cell0 hO.obj]; rfl, ?_⟩
   exact runT_bytes_str und_bytes und_byte und_str hO.own (hR _ (Fr.refl _ _))
end
end Go.Proofs.YtgacpkgaogiocaaGreatDoor

/- words on numbers, texts and slices that the heads and the disk need. -/
set_option linter.unusedVariables false
namespace Go.Proofs.YtgacpkgaogiocaaGreatDoor
open Go Go.Vc Go.RowKit Go.Lib
theorem dw_nil {α : Type} {p : α → Bool} : ∀ {l : List α}, l.dropWhile p = [] ↔ ∀ x ∈ l, p x = true
 | [] => by simp
 | a :: r => by
   rw [List.dropWhile_cons]
   split
   · rename_i h
     rw [dw_nil (l := r)]
     simp [h]
   · rename_i h
     simp [h]
theorem tw_mem {α : Type} {p : α → Bool} {x : α} : ∀ {l : List α}, x ∈ l.takeWhile p → p x = true
 | [], h => by simp at h
 | a :: r, h => by
   rw [List.takeWhile_cons] at h
   split at h
   · rename_i ha
     rcases List.mem_cons.1 h with rfl | h
     · exact ha
     · exact tw_mem h
   · simp at h
theorem trim_nil {set l : List UInt8} : trim set l = [] ↔ l.all (fun b => set.contains b) = true := by
 unfold trim trimL
 rw [dw_nil]
 simp only [List.mem_reverse]
 constructor
 · intro h
   rw [List.all_eq_true]
   intro x hx
   have h3 := List.takeWhile_append_dropWhile (p := fun b => set.contains b) (l := l.reverse)
   have hx' : x ∈ l.reverse := List.mem_reverse.2 hx
   rw [← h3] at hx'
   rcases List.mem_append.1 hx' with h4 | h4
   · exact tw_mem (p := fun b => set.contains b) h4
   · exact h x h4
 · intro h x hx
   exact List.all_eq_true.1 h x (List.mem_reverse.1 ((List.dropWhile_sublist _).mem hx))
theorem lay1_ok {size : Nat} {v : Int} {bs : List UInt8} (h : fitsN size v = true) : lay1 size v (bs, 0) = (bs ++ leBytes size v, 0) := by simp [lay1, layL, h]
theorem rawIn_left (n : Int) (l : List UInt8) (e : Int) : (rawIn n l e).2.1.length ≤ l.length := by
 unfold rawIn
 split
 · exact Nat.le_refl _
 split
 · exact Nat.le_refl _
 split
 · exact Nat.le_refl _
 · simp
theorem lowIn_left (n : Nat) (l : List UInt8) (e : Int) : (lowIn n l e).2.1.length ≤ l.length := by
 unfold lowIn
 simp only
 split <;> exact rawIn_left _ _ _
theorem lowIn_bound (n : Nat) (l : List UInt8) (e : Int) (hn : n ≤ 7) : 0 ≤ (lowIn n l e).1 ∧ (lowIn n l e).1 < 256 ^ n := by
 have h1 := leVal_lt (rawIn n l e).1
 have h2 : 256 ^ (rawIn n l e).1.length ≤ 256 ^ n := Nat.pow_le_pow_right (by decide) (rawIn_len n l e)
 have h3 : (256 : Nat) ^ n ≤ 256 ^ 7 := Nat.pow_le_pow_right (by decide) hn
 have h4 : (256 : Nat) ^ 7 = 72057594037927936 := by decide
 have h5 : ((256 : Int) ^ n) = ((256 ^ n : Nat) : Int) := by rw [Int.natCast_pow]; rfl
 unfold lowIn
 simp only
 rw [if_pos (by omega), h5]
 omega
theorem slA0 (a : Option Addr) (cap size : Nat) : slA a cap 0 size = a := by
 unfold slA
 split
 · rfl
 · cases a with
   | none => rfl
   | some x => simp [Addr.add]
theorem slA_ne {g cap l size : Nat} (h : cap ≠ l) : slA (some (blk g)) cap l size = some ⟨g, l * size, none⟩ := by
 simp [slA, h, add_blk]
theorem Own.row {w : World} {t : TypeId} {size : Nat} {l : Sl} {xs : List Value} (h : Own w t size l xs) (hn : l.len ≠ 0) :
   ∃ g cur, l.a = some (blk g) ∧ w.heap[g]? = some (.cells ⟨cur⟩ t (0, 0)) ∧ cur.length = l.cap * size ∧ cur.take (l.len * size) = xs ∧ l.len ≤ l.cap ∧ l.cap ≤ maxLen := by
 rcases h.2 with ⟨h2, h0⟩ | ⟨g, cap, cur, hv, hb, hg, hnc, hcm, hcs, htk⟩
 · exact absurd h0 hn
 · simp only [Value.slice.injEq] at hv
   obtain ⟨h1, _, h3⟩ := hv
   subst h3
   exact ⟨g, cur.toList, h1, hg, by simpa using hcs, htk, hnc, hcm⟩
theorem Own.of {w : World} {t : TypeId} {size : Nat} {g n cap : Nat} {cur : List Value} (hg : w.heap[g]? = some (.cells ⟨cur⟩ t (0, 0))) (hc : cur.length = cap * size) (hn : n ≤ cap) (hm : cap ≤ maxLen) : Own w t size ⟨some (blk g), n, cap⟩ (cur.take (n * size)) :=
 ⟨by rw [List.length_take, hc]; exact Nat.min_eq_left (Nat.mul_le_mul_right _ hn), .inr ⟨g, cap, ⟨cur⟩, rfl, Nat.zero_le _, hg, hn, hm, by simpa using hc, rfl⟩⟩
theorem Own.pre {w : World} {t : TypeId} {size : Nat} {l : Sl} {xs : List Value} (h : Own w t size l xs) {i : Nat} (hi : i ≤ l.len) (hn : l.len ≠ 0) : Own w t size ⟨l.a, i, l.cap⟩ (xs.take (i * size)) := by
 obtain ⟨g, cur, ha, hg, hc, ht, hlc, hm⟩ := Own.row h hn
 rw [ha, ← ht, List.take_take, Nat.min_eq_left (Nat.mul_le_mul_right _ hi)]
 exact Own.of hg hc (Nat.le_trans hi hlc) hm
theorem Own.isNil {w : World} {t : TypeId} {size : Nat} {l : Sl} {xs : List Value} (h : Own w t size l xs) (ha : l.a = none) : l = ⟨none, 0, 0⟩ ∧ xs = [] := by
 rcases h.2 with ⟨h2, h0⟩ | ⟨g, cap, cur, hv, _⟩
 · simp only [Value.slice.injEq] at h2
   refine ⟨by cases l; simp_all, List.eq_nil_of_length_eq_zero (by have := h.1; rw [h0] at this; simpa using this)⟩
 · simp only [Value.slice.injEq] at hv
   rw [ha] at hv; cases hv.1
theorem und_int : Pg.underlying T.y_int = some (.int .i64) := by kernel_rfl
/-- the texts of a slice -/
def Texts (w : World) (sl : Sl) (ts : List (List UInt8)) : Prop := sl.len = ts.length ∧ ∀ j t, ts[j]? = some t → ∃ a, sl.a = some a ∧ w.cell? (a.add (j * 1)) = some (.string (tx t))
theorem Texts.below {w w' : World} {sl : Sl} {ts : List (List UInt8)} (h : Texts w sl ts) (hw : Below w.heap.size w w') : Texts w' sl ts :=
 ⟨h.1, fun j n hj => by
   obtain ⟨a, ha, h1⟩ := h.2 j n hj
   exact ⟨a, ha, by rw [hw.cell (World.block_lt_of_cell? w _ h1)]; exact h1⟩⟩
def textCells (ts : List (List UInt8)) : List Value := ts.map fun t => .string (tx t)
theorem textCells_one (ts : List (List UInt8)) : ∀ u ∈ textCells ts, u.oneCell' = true := by
 intro u hu
 simp only [textCells, List.mem_map] at hu
 obtain ⟨_, _, rfl⟩ := hu
 rfl
theorem und_strs : Pg.underlying T.y_sl_string = some (.slice T.y_string) := by kernel_rfl
theorem info_str : ∃ i, Pg.info? T.y_string = some i ∧ i.zero = some (.string sNil) ∧ i.size = 1 ∧ i.bytes = 16 := by
 have h : (Pg.info? T.y_string).map (fun i => (i.zero, i.size, i.bytes)) = some (some (.string sNil), 1, 16) := by kernel_rfl
 obtain ⟨i, hi, h2⟩ := Option.map_eq_some_iff.1 h
 simp only [Prod.mk.injEq] at h2
 exact ⟨i, hi, h2.1, h2.2.1, h2.2.2⟩
theorem Texts.cell {w : World} {sl : Sl} {ts : List (List UInt8)} (h : Texts w sl ts) {a : Addr} (ha : sl.a = some a) : ∀ j u, (textCells ts)[j]? = some u → w.cell? (a.add j) = some u := by
 intro j u hu
 simp only [textCells, List.getElem?_map, Option.map_eq_some_iff] at hu
 obtain ⟨t, ht, rfl⟩ := hu
 obtain ⟨a', ha', hc⟩ := h.2 j t ht
 rw [ha] at ha'
 injection ha' with ha'
 subst ha'
 rwa [Nat.mul_one] at hc
/-- a nil slice is the nil slice -/
def NilOk (s : Sl) : Prop := s.a = none → s = ⟨none, 0, 0⟩
theorem bk_nil {P : Prop} {k : Nat} (h : (⟨none, 0, 0⟩ : Sl).bk k) : P := by obtain ⟨a, ha, _⟩ := h; cases ha
end Go.Proofs.YtgacpkgaogiocaaGreatDoor
