/- bits.Out: its other methods. -/
import Derived.Test.YtggachhkcmfijaaGreatDoorIn
set_option linter.unusedVariables false
namespace Go.Proofs.YtggachhkcmfijaaGreatDoor
open Go Go.Vc Go.RowKit Go.Lib
/-- one number laid in so many bytes -/
def lay1 (size : Nat) (v : Int) (x : List UInt8 × Int) : List UInt8 × Int := layL size [v] x
theorem out_sep {w : World} {g h : Nat} {l : Sl} {bs : List UInt8} {e : Int} (hO : OutAt w g l bs e) {cs : List Value} {t : TypeId} (hh : w.heap[h]? = some (.cells ⟨cs⟩ t (0, 0))) (h1 : t ≠ T.y_bits_Out) (h2 : t ≠ T.y_uint8) :
   ∀ k, (⟨some (blk h), 1, 1⟩ : Sl).bk k → ¬ outS g l k := by
 rintro k ⟨a, ha, rfl⟩ hs
 injection ha with ha
 subst ha
 rcases hs with hs | hs
 · have : h = g := hs
   subst this
   rw [hO.obj] at hh
   injection hh with hh
   injection hh with _ hh
   exact h1 hh.symm
 · obtain ⟨a, ha, hb⟩ := hs
   rcases hO.own.2 with ⟨h3, _⟩ | ⟨g', cap, cur, hv, _, hg, _⟩
   · simp only [Value.slice.injEq] at h3; rw [ha] at h3; cases h3.1
   · simp only [Value.slice.injEq] at hv
     rw [ha] at hv
     have : a = blk g' := by simpa using hv.1
     subst this
     have hb : g' = h := hb
     subst hb
     rw [hh] at hg
     injection hg with hg
     injection hg with _ hg
     exact h2 hg
section
variable {w : World} {g : Nat} {l : Sl} {bs : List UInt8} {e : Int}
/-- one number -/
theorem Out_one (hO : OutAt w g l bs e) {size : Nat} (hsz : size ≤ 8) {h : Nat} {v : Int} (hh : w.heap[h]? = some (.cells ⟨[.int .i64 v]⟩ T.y_int (0, 0))) (hv : v < 9223372036854775808) (hb : bs.length ≤ 1000000000000)
   {R : Option Addr → World → Prop}
   (hR : ∀ l' w', OutAt w' g l' (lay1 size v (bs, e)).1 (lay1 size v (bs, e)).2 → Fr (outS g l) w w' → Moved w l l' → R (some (blk g)) w') : F.bits_Out_lay (some (blk g)) size ⟨some (blk h), 1, 1⟩ w R :=
 Out_lay hO hsz (Ints.one hh) (out_sep hO hh (by decide) (by decide)) (by simpa using hv) (by simp; omega) hR
theorem Out_Byte (hO : OutAt w g l bs e) {h : Nat} {v : Int} (hh : w.heap[h]? = some (.cells ⟨[.int .i64 v]⟩ T.y_int (0, 0))) (hv : v < 9223372036854775808) (hb : bs.length ≤ 1000000000000) {R : Option Addr → World → Prop}
   (hR : ∀ l' w', OutAt w' g l' (lay1 1 v (bs, e)).1 (lay1 1 v (bs, e)).2 → Fr (outS g l) w w' → Moved w l l' → R (some (blk g)) w') : F.bits_Out_Byte (some (blk g)) ⟨some (blk h), 1, 1⟩ w R := by
 apply E.bits_Out_Byte
 exact Out_one hO (size := 1) (by decide) hh hv hb hR
theorem Out_Half (hO : OutAt w g l bs e) {h : Nat} {v : Int} (hh : w.heap[h]? = some (.cells ⟨[.int .i64 v]⟩ T.y_int (0, 0))) (hv : v < 9223372036854775808) (hb : bs.length ≤ 1000000000000) {R : Option Addr → World → Prop}
   (hR : ∀ l' w', OutAt w' g l' (lay1 2 v (bs, e)).1 (lay1 2 v (bs, e)).2 → Fr (outS g l) w w' → Moved w l l' → R (some (blk g)) w') : F.bits_Out_Half (some (blk g)) ⟨some (blk h), 1, 1⟩ w R := by
 apply E.bits_Out_Half
 exact Out_one hO (size := 2) (by decide) hh hv hb hR
theorem Out_Word (hO : OutAt w g l bs e) {h : Nat} {v : Int} (hh : w.heap[h]? = some (.cells ⟨[.int .i64 v]⟩ T.y_int (0, 0))) (hv : v < 9223372036854775808) (hb : bs.length ≤ 1000000000000) {R : Option Addr → World → Prop}
   (hR : ∀ l' w', OutAt w' g l' (lay1 4 v (bs, e)).1 (lay1 4 v (bs, e)).2 → Fr (outS g l) w w' → Moved w l l' → R (some (blk g)) w') : F.bits_Out_Word (some (blk g)) ⟨some (blk h), 1, 1⟩ w R := by
 apply E.bits_Out_Word
 exact Out_one hO (size := 4) (by decide) hh hv hb hR
theorem Out_Long (hO : OutAt w g l bs e) {h : Nat} {v : Int} (hh : w.heap[h]? = some (.cells ⟨[.int .i64 v]⟩ T.y_int (0, 0))) (hv : v < 9223372036854775808) (hb : bs.length ≤ 1000000000000) {R : Option Addr → World → Prop}
   (hR : ∀ l' w', OutAt w' g l' (lay1 8 v (bs, e)).1 (lay1 8 v (bs, e)).2 → Fr (outS g l) w w' → Moved w l l' → R (some (blk g)) w') : F.bits_Out_Long (some (blk g)) ⟨some (blk h), 1, 1⟩ w R := by
 apply E.bits_Out_Long
 exact Out_one hO (size := 8) (by decide) hh hv hb hR
/-- bytes as they are -/
def raw1 (s : List UInt8) (x : List UInt8 × Int) : List UInt8 × Int := if x.2 ≠ 0 then x else (x.1 ++ s, 0)
theorem Out_Raw (hO : OutAt w g l bs e) {h : Nat} {s : List UInt8} (hh : w.heap[h]? = some (.cells ⟨[.string (tx s)]⟩ T.y_string (0, 0))) (hb : bs.length ≤ 1000000000000) (hs : s.length ≤ 1000000000000) {R : Option Addr → World → Prop}
   (hR : ∀ l' w', OutAt w' g l' (raw1 s (bs, e)).1 (raw1 s (bs, e)).2 → Fr (outS g l) w w' → Moved w l l' → R (some (blk g)) w') : F.bits_Out_Raw (some (blk g)) ⟨some (blk h), 1, 1⟩ w R := by
 apply E.bits_Out_Raw
 unfold V.bits_Out_Raw
 try simp -zeta only [ldC, soC, brC, bkA, slC, stC, alC, drC]
 obtain ⟨i, hi, hz, hs1, hby⟩ := info_byte
 refine ⟨fun n w' => (n = 0 ∧ w' = w) ∨ (n = 1 ∧ ∃ l', OutAt w' g l' (raw1 s (bs, e)).1 (raw1 s (bs, e)).2 ∧ Fr (outS g l) w w' ∧ Moved w l l'), fun n _ => (1 - n).toNat, .inl ⟨rfl, rfl⟩, ?_⟩
 rintro n w1 (⟨rfl, rfl⟩ | ⟨rfl, l1, hO1, hF1, hM1⟩)
 · refine ⟨fun _ => ?_, fun hf => by simp at hf⟩
   refine ⟨blk h, rfl, by decide, by show (0 : Int) < 1; decide, tx s, by have := blk_cell hh 0; simpa using this, fun hn => by simp at hn, fun _ => ⟨blk g, rfl, e, by rw [blk_cell hO.obj]; rfl, fun hne => ?_, fun heq => ?_⟩⟩
   · have hne : e ≠ 0 := by simpa using hne
     have e1 : raw1 s (bs, e) = (bs, e) := by simp [raw1, hne]
     rw [e1] at hR
     exact hR l w1 hO (Fr.refl _ _) (moved_refl _ _)
   have heq : e = 0 := by simpa using heq
   subst heq
   refine ⟨blk g, rfl, l, by rw [blk_cell0 hO.obj]; rfl, ?_⟩
   have hlen := hO.len
   refine runT_append_str und_bytes und_str hi hz hs1 hby hO.own (by rw [tx_size]; simp only [maxLen]; omega) (by rw [tx_size]; omega) fun l2 w2 ho2 hl2 hf2 hm2 => ?_
   have hbv : bv bs ++ strCells (tx s) = bv (bs ++ s) := by rw [strCells_tx]; simp [bv]
   rw [hbv] at ho2
   obtain ⟨hwr, hO3, hF3⟩ := hO.stored ho2 hf2 hm2
   have e1 : w64 ((0 : Int) + 1) = 1 := w64_id (by decide) (by decide)
   refine ⟨blk g, rfl, hwr, .inr ⟨e1, l2, ?_, hF3, hm2⟩, ?_⟩
   · exact hO3
   · show ((1 : Int) - w64 (0 + 1)).toNat < ((1 : Int) - 0).toNat
     rw [e1]; decide
 · refine ⟨fun ht => by simp at ht, fun _ => hR l1 w1 hO1 hF1 hM1⟩
theorem Out_End (hO : OutAt w g l bs e) {R : ByteArray → Int → World → Prop} (hR : ∀ w', Fr no w w' → R (tx (if e ≠ 0 then [] else bs)) e w') : F.bits_Out_End (some (blk g)) w R := by
 apply E.bits_Out_End
 unfold V.bits_Out_End
 try simp -zeta only [ldC, soC, brC, bkA, slC, stC, alC, drC]
 refine ⟨fun h => by simp at h, fun _ => ⟨blk g, rfl, e, by rw [blk_cell hO.obj]; rfl, fun hne => ?_, fun heq => ?_⟩⟩
 · have hne : e ≠ 0 := by simpa using hne
   rw [if_pos hne] at hR
   exact ⟨blk g, rfl, e, by rw [drew_cell, blk_cell hO.obj]; rfl, hR _ (Fr.drew _ _)⟩
 · have heq : e = 0 := by simpa using heq
   subst heq
   rw [if_neg (by simp)] at hR
   refine ⟨blk g, rfl, l, by rw [blk_cell0 hO.obj]; rfl, ?_⟩
   exact runT_bytes_str und_bytes und_byte und_str hO.own (hR _ (Fr.refl _ _))
end
end Go.Proofs.YtggachhkcmfijaaGreatDoor

/- words on numbers, texts and slices that the heads and the disk need. -/
set_option linter.unusedVariables false
namespace Go.Proofs.YtggachhkcmfijaaGreatDoor
open Go Go.Vc Go.RowKit Go.Lib
theorem dw_nil {α : Type} {p : α → Bool} : ∀ {l : List α}, l.dropWhile p = [] ↔ ∀ x ∈ l, p x = true
 | [] => by simp
 | a :: r => by
   rw [List.dropWhile_cons]
   split
   · rename_i h
     rw [dw_nil (l := r)]
     simp [h]
   · rename_i h
     simp [h]
theorem tw_mem {α : Type} {p : α → Bool} {x : α} : ∀ {l : List α}, x ∈ l.takeWhile p → p x = true
 | [], h => by simp at h
 | a :: r, h => by
   rw [List.takeWhile_cons] at h
   split at h
   · rename_i ha
     rcases List.mem_cons.1 h with rfl | h
     · exact ha
     · exact tw_mem h
   · simp at h
theorem trim_nil {set l : List UInt8} : trim set l = [] ↔ l.all (fun b => set.contains b) = true := by
 unfold trim trimL
 rw [dw_nil]
 simp only [List.mem_reverse]
 constructor
 · intro h
   rw [List.all_eq_true]
   intro x hx
   have h3 := List.takeWhile_append_dropWhile (p := fun b => set.contains b) (l := l.reverse)
   have hx' : x ∈ l.reverse := List.mem_reverse.2 hx
   rw [← h3] at hx'
   rcases List.mem_append.1 hx' with h4 | h4
   · exact tw_mem (p := fun b => set.contains b) h4
   · exact h x h4
 · intro h x hx
   exact List.all_eq_true.1 h x (List.mem_reverse.1 ((List.dropWhile_sublist _).mem hx))
theorem lay1_ok {size : Nat} {v : Int} {bs : List UInt8} (h : fitsN size v = true) : lay1 size v (bs, 0) = (bs ++ leBytes size v, 0) := by simp [lay1, layL, h]
theorem rawIn_left (n : Int) (l : List UInt8) (e : Int) : (rawIn n l e).2.1.length ≤ l.length := by
 unfold rawIn
 split
 · exact Nat.le_refl _
 split
 · exact Nat.le_refl _
 split
 · exact Nat.le_refl _
 · simp
theorem lowIn_left (n : Nat) (l : List UInt8) (e : Int) : (lowIn n l e).2.1.length ≤ l.length := by
 unfold lowIn
 simp only
 split <;> exact rawIn_left _ _ _
theorem lowIn_bound (n : Nat) (l : List UInt8) (e : Int) (hn : n ≤ 7) : 0 ≤ (lowIn n l e).1 ∧ (lowIn n l e).1 < 256 ^ n := by
 have h1 := leVal_lt (rawIn n l e).1
 have h2 : 256 ^ (rawIn n l e).1.length ≤ 256 ^ n := Nat.pow_le_pow_right (by decide) (rawIn_len n l e)
 have h3 : (256 : Nat) ^ n ≤ 256 ^ 7 := Nat.pow_le_pow_right (by decide) hn
 have h4 : (256 : Nat) ^ 7 = 72057594037927936 := by decide
 have h5 : ((256 : Int) ^ n) = ((256 ^ n : Nat) : Int) := by rw [Int.natCast_pow]; rfl
 unfold lowIn
 simp only
 rw [if_pos (by omega), h5]
 omega
theorem slA0 (a : Option Addr) (cap size : Nat) : slA a cap 0 size = a := by
 unfold slA
 split
 · rfl
 · cases a with
   | none => rfl
   | some x => simp [Addr.add]
theorem slA_ne {g cap l size : Nat} (h : cap ≠ l) : slA (some (blk g)) cap l size = some ⟨g, l * size, none⟩ := by
 simp [slA, h, add_blk]
theorem Own.row {w : World} {t : TypeId} {size : Nat} {l : Sl} {xs : List Value} (h : Own w t size l xs) (hn : l.len ≠ 0) :
   ∃ g cur, l.a = some (blk g) ∧ w.heap[g]? = some (.cells ⟨cur⟩ t (0, 0)) ∧ cur.length = l.cap * size ∧ cur.take (l.len * size) = xs ∧ l.len ≤ l.cap ∧ l.cap ≤ maxLen := by
 rcases h.2 with ⟨h2, h0⟩ | ⟨g, cap, cur, hv, hb, hg, hnc, hcm, hcs, htk⟩
 · exact absurd h0 hn
 · simp only [Value.slice.injEq] at hv
   obtain ⟨h1, _, h3⟩ := hv
   subst h3
   exact ⟨g, cur.toList, h1, hg, by simpa using hcs, htk, hnc, hcm⟩
theorem Own.of {w : World} {t : TypeId} {size : Nat} {g n cap : Nat} {cur : List Value} (hg : w.heap[g]? = some (.cells ⟨cur⟩ t (0, 0))) (hc : cur.length = cap * size) (hn : n ≤ cap) (hm : cap ≤ maxLen) : Own w t size ⟨some (blk g), n, cap⟩ (cur.take (n * size)) :=
 ⟨by rw [List.length_take, hc]; exact Nat.min_eq_left (Nat.mul_le_mul_right _ hn), .inr ⟨g, cap, ⟨cur⟩, rfl, Nat.zero_le _, hg, hn, hm, by simpa using hc, rfl⟩⟩
theorem Own.pre {w : World} {t : TypeId} {size : Nat} {l : Sl} {xs : List Value} (h : Own w t size l xs) {i : Nat} (hi : i ≤ l.len) (hn : l.len ≠ 0) : Own w t size ⟨l.a, i, l.cap⟩ (xs.take (i * size)) := by
 obtain ⟨g, cur, ha, hg, hc, ht, hlc, hm⟩ := Own.row h hn
 rw [ha, ← ht, List.take_take, Nat.min_eq_left (Nat.mul_le_mul_right _ hi)]
 exact Own.of hg hc (Nat.le_trans hi hlc) hm
theorem leByte_nat (i v : Nat) : leByte i (v : Int) = UInt8.ofNat (v / 256 ^ i % 256) := by
 unfold leByte
 congr 1
 have e : ((2 : Int) ^ (8 * i)) = ((256 ^ i : Nat) : Int) := by rw [Int.natCast_pow, Int.pow_mul]; rfl
 rw [e]
 omega
theorem Own.isNil {w : World} {t : TypeId} {size : Nat} {l : Sl} {xs : List Value} (h : Own w t size l xs) (ha : l.a = none) : l = ⟨none, 0, 0⟩ ∧ xs = [] := by
 rcases h.2 with ⟨h2, h0⟩ | ⟨g, cap, cur, hv, _⟩
 · simp only [Value.slice.injEq] at h2
   refine ⟨by cases l; simp_all, List.eq_nil_of_length_eq_zero (by have := h.1; rw [h0] at this; simpa using this)⟩
 · simp only [Value.slice.injEq] at hv
   rw [ha] at hv; cases hv.1
theorem und_int : Pg.underlying T.y_int = some (.int .i64) := by kernel_rfl
/-- the texts of a slice -/
def Texts (w : World) (sl : Sl) (ts : List (List UInt8)) : Prop := sl.len = ts.length ∧ ∀ j t, ts[j]? = some t → ∃ a, sl.a = some a ∧ w.cell? (a.add (j * 1)) = some (.string (tx t))
theorem Texts.below {w w' : World} {sl : Sl} {ts : List (List UInt8)} (h : Texts w sl ts) (hw : Below w.heap.size w w') : Texts w' sl ts :=
 ⟨h.1, fun j n hj => by
   obtain ⟨a, ha, h1⟩ := h.2 j n hj
   exact ⟨a, ha, by rw [hw.cell (World.block_lt_of_cell? w _ h1)]; exact h1⟩⟩
/-- append of whatever slice, nil too -/
theorem app_any {P : Program} {w : World} {t ty e : TypeId} {i : TypeInfo} {z : Value} {size bytes : Nat} (ht : P.underlying t = some (.slice e)) (hi : P.info? e = some i) (hz : i.zero = some z)
   (hsize : i.size = size) (hby : i.bytes = bytes) (hzs : z.cells.size = size) (hsz : 0 < size) {l : Sl} {xs : List Value} (hown : Own w e size l xs)
   {src : Sl} {news : List Value} (hnil : src.a = none → src = ⟨none, 0, 0⟩) (hl : news.length = src.len * size) (hnews : ∀ a, src.a = some a → ∀ j u, news[j]? = some u → w.cell? (a.add j) = some u) (h1 : ∀ u ∈ news, u.oneCell' = true)
   (h63 : l.len + src.len ≤ maxLen) (hbytes : (l.len + src.len) * bytes ≤ 140737488355328) {R : Sl → World → Prop}
   (hR : ∀ l' w', Own w' e size l' (xs ++ news) → l'.len = l.len + src.len → Fr l.bk w w' → Moved w l l' → R l' w') :
   RunT P (Builtin.append_ #[t, t] ty #[.slice l.a l.len l.cap, .slice src.a src.len src.cap]) [.one .slice] w R := by
 cases ha : src.a with
 | none =>
   have hs := hnil ha
   subst hs
   have hn : news = [] := List.eq_nil_of_length_eq_zero (by rw [hl]; simp)
   subst hn
   have hr := run_append_owned_none (P := P) w 0 t ty e i size ht hi (.slice l.a l.len l.cap) l.len xs hown
   exact runT_slice hr (hR l w (by rw [List.append_nil]; exact hown) rfl (Fr.refl _ _) (moved_refl _ _))
 | some a => exact runT_append ht hi hz hsize hby hzs hsz hown hl (hnews a ha) h1 h63 hbytes hR
def textCells (ts : List (List UInt8)) : List Value := ts.map fun t => .string (tx t)
theorem textCells_one (ts : List (List UInt8)) : ∀ u ∈ textCells ts, u.oneCell' = true := by
 intro u hu
 simp only [textCells, List.mem_map] at hu
 obtain ⟨_, _, rfl⟩ := hu
 rfl
theorem und_strs : Pg.underlying T.y_sl_string = some (.slice T.y_string) := by kernel_rfl
theorem info_str : ∃ i, Pg.info? T.y_string = some i ∧ i.zero = some (.string sNil) ∧ i.size = 1 ∧ i.bytes = 16 := by
 have h : (Pg.info? T.y_string).map (fun i => (i.zero, i.size, i.bytes)) = some (some (.string sNil), 1, 16) := by kernel_rfl
 obtain ⟨i, hi, h2⟩ := Option.map_eq_some_iff.1 h
 simp only [Prod.mk.injEq] at h2
 exact ⟨i, hi, h2.1, h2.2.1, h2.2.2⟩
theorem Texts.cell {w : World} {sl : Sl} {ts : List (List UInt8)} (h : Texts w sl ts) {a : Addr} (ha : sl.a = some a) : ∀ j u, (textCells ts)[j]? = some u → w.cell? (a.add j) = some u := by
 intro j u hu
 simp only [textCells, List.getElem?_map, Option.map_eq_some_iff] at hu
 obtain ⟨t, ht, rfl⟩ := hu
 obtain ⟨a', ha', hc⟩ := h.2 j t ht
 rw [ha] at ha'
 injection ha' with ha'
 subst ha'
 rwa [Nat.mul_one] at hc
/-- a nil slice is the nil slice -/
def NilOk (s : Sl) : Prop := s.a = none → s = ⟨none, 0, 0⟩
theorem bk_nil {P : Prop} {k : Nat} (h : (⟨none, 0, 0⟩ : Sl).bk k) : P := by obtain ⟨a, ha, _⟩ := h; cases ha
end Go.Proofs.YtggachhkcmfijaaGreatDoor

/- heads, and the sum of bytes: the plain law (what is laid is read again). -/
set_option linter.unusedVariables false
namespace Go.Proofs.YtggachhkcmfijaaGreatDoor
open Go Go.Vc Go.RowKit Go.Lib
/-- one shift of the sum -/
def step (x : Nat) : Nat := if x % 2 = 1 then (x / 2) ^^^ 3988292384 else x / 2
def step4 (x : Nat) : Nat := step (step (step (step x)))
def crcB (x : Nat) (b : UInt8) : Nat := step4 (step4 (x ^^^ b.toNat))
def crcL (l : List UInt8) : Nat := l.foldl crcB 4294967295 ^^^ 4294967295
theorem step_lt {x : Nat} (h : x < 4294967296) : step x < 4294967296 := by
 unfold step
 split
 · exact Nat.xor_lt_two_pow (n := 32) (by omega) (by omega)
 · omega
theorem step4_lt {x : Nat} (h : x < 4294967296) : step4 x < 4294967296 := step_lt (step_lt (step_lt (step_lt h)))
theorem crcB_lt {x : Nat} (h : x < 4294967296) (b : UInt8) : crcB x b < 4294967296 :=
 step4_lt (step4_lt (Nat.xor_lt_two_pow (n := 32) h (by have := b.toNat_lt; omega)))
theorem crcF_lt : ∀ (l : List UInt8) {x : Nat}, x < 4294967296 → l.foldl crcB x < 4294967296
 | [], _, h => h
 | b :: r, x, h => crcF_lt r (crcB_lt h b)
theorem crcL_lt (l : List UInt8) : crcL l < 4294967296 := Nat.xor_lt_two_pow (n := 32) (crcF_lt l (by decide)) (by decide)
theorem leVal_leBytes (n v : Nat) : leVal (leBytes n (v : Int)) = v % 256 ^ n := by
 induction n with
 | zero => simp [leBytes, leVal, Nat.mod_one]
 | succ n ih =>
   rw [leBytes_succ, leVal_app, ih, leBytes_len, Nat.pow_succ, Nat.mod_mul]
   have hb : leByte n (v : Int) = UInt8.ofNat (v / 256 ^ n % 256) := by
     unfold leByte
     have h1 : (2 : Int) ^ (8 * n) = ((256 ^ n : Nat) : Int) := by
       rw [Nat.mul_comm, Nat.mul_comm n 8, Int.pow_mul, Int.natCast_pow]; rfl
     rw [h1]
     congr 1
   rw [hb]
   simp [leVal, UInt8.toNat_ofNat']
theorem lowIn_lay {k v : Nat} (hv : v < 256 ^ k) (h63 : v < 9223372036854775808) (rest : List UInt8) : lowIn k (leBytes k (v : Int) ++ rest) 0 = ((v : Int), rest, 0) := by
 have hr : rawIn k (leBytes k (v : Int) ++ rest) 0 = (leBytes k (v : Int), rest, 0) := by
   have hl := leBytes_len k (v : Int)
   unfold rawIn
   rw [if_neg (by simp), if_neg (by omega), if_neg (by rw [List.length_append]; omega)]
   have e1 : ((k : Nat) : Int).toNat = k := by omega
   rw [e1, List.take_append_of_le_length (by omega), List.drop_append_of_le_length (by omega), List.take_of_length_le (by omega), List.drop_of_length_le (by omega)]
   rfl
 unfold lowIn
 rw [hr]
 simp only [leVal_leBytes, Nat.mod_eq_of_lt hv]
 rw [if_pos h63]
structure Hd where
 seq : Int
 full : Bool
 ts : List Int
def upTo (ts : List Int) (i : Nat) : Bool :=
 match ts[i]? with
 | none => true
 | some at_ => decide (0 ≤ at_) && (decide (at_ < 2000) && (decide (i = 0) || decide (ts.getD (i - 1) 0 < at_)))
def validH (h : Hd) : Bool :=
 decide (0 ≤ h.seq) && (decide (h.seq ≤ 1099511627776) && (decide (h.ts.length ≤ 110) && (decide (h.full = decide (0 < h.ts.length)) && (List.range h.ts.length).all (upTo h.ts))))
def headBytes (h : Hd) : List UInt8 := leBytes 1 7 ++ leBytes 1 (if h.full then 1 else 0) ++ leBytes 8 h.seq ++ leBytes 2 h.ts.length ++ h.ts.flatMap (leBytes 2)
def padTo (n : Nat) (l : List UInt8) : List UInt8 := l ++ List.replicate (n - l.length) 0
def sealS (n : Nat) (l : List UInt8) : List UInt8 := padTo (n - 4) l ++ leBytes 4 (crcL (padTo (n - 4) l))
def layHead (h : Hd) : List UInt8 × Int := if validH h then (sealS 256 (headBytes h), 0) else ([], 1)
def openB (b : List UInt8) : List UInt8 × Int :=
 if b.length < 4 then ([], 5) else if leVal (b.drop (b.length - 4)) = crcL (b.take (b.length - 4)) then (b.take (b.length - 4), 0) else ([], 7)
def targetsIn : Nat → List UInt8 × Int → List Int × List UInt8 × Int
 | 0, x => ([], x.1, x.2)
 | n + 1, x =>
   let a := targetsIn n x
   let b := lowIn 2 a.2.1 a.2.2
   (a.1 ++ [b.1], b.2.1, b.2.2)
def parseH (s : List UInt8) : Hd :=
 let a := lowIn 1 s 0
 let b := lowIn 1 a.2.1 a.2.2
 let c := lowIn 8 b.2.1 b.2.2
 let d := lowIn 2 c.2.1 c.2.2
 ⟨c.1, decide (b.1 = 1), (targetsIn (min d.1 110).toNat d.2).1⟩
def readHead (b : List UInt8) : Hd × Int :=
 if b.length ≠ 256 then (⟨0, false, []⟩, 5)
 else if b.all (fun x => [(0 : UInt8)].contains x) then (⟨0, false, []⟩, 0)
 else if (openB b).2 ≠ 0 then (⟨0, false, []⟩, (openB b).2)
 else if (layHead (parseH (openB b).1)).2 ≠ 0 ∨ (layHead (parseH (openB b).1)).1 ≠ b then (⟨0, false, []⟩, 6)
 else (parseH (openB b).1, 0)
theorem padTo_len {n : Nat} {l : List UInt8} (h : l.length ≤ n) : (padTo n l).length = n := by simp [padTo]; omega
theorem sealS_len {n : Nat} {l : List UInt8} (hn : 4 ≤ n) (h : l.length ≤ n - 4) : (sealS n l).length = n := by
 rw [sealS, List.length_append, padTo_len h, leBytes_len]; omega
theorem flat2_len (ts : List Int) : (ts.flatMap (leBytes 2)).length = 2 * ts.length := by
 induction ts with
 | nil => rfl
 | cons a r ih => rw [List.flatMap_cons, List.length_append, ih, leBytes_len, List.length_cons]; omega
theorem headBytes_len (h : Hd) : (headBytes h).length = 12 + 2 * h.ts.length := by
 simp only [headBytes, List.length_append, leBytes_len, flat2_len]
theorem openB_seal {n : Nat} {l : List UInt8} (hn : 4 ≤ n) (h : l.length ≤ n - 4) : openB (sealS n l) = (padTo (n - 4) l, 0) := by
 have hl := sealS_len hn h
 have hp := padTo_len h
 have e1 : (sealS n l).drop (n - 4) = leBytes 4 (crcL (padTo (n - 4) l)) := by
   rw [sealS, List.drop_append_of_le_length (by omega), List.drop_of_length_le (by omega)]; rfl
 have e2 : (sealS n l).take (n - 4) = padTo (n - 4) l := by
   rw [sealS, List.take_append_of_le_length (by omega), List.take_of_length_le (by omega)]
 unfold openB
 rw [if_neg (by omega), hl, e1, e2, leVal_leBytes, if_pos (Nat.mod_eq_of_lt (crcL_lt _))]
theorem targetsIn_lay (ts : List Int) (hts : ∀ t ∈ ts, 0 ≤ t ∧ t < 65536) (rest : List UInt8) : ∀ m, m ≤ ts.length → targetsIn m (ts.flatMap (leBytes 2) ++ rest, 0) = (ts.take m, (ts.drop m).flatMap (leBytes 2) ++ rest, 0)
 | 0, _ => rfl
 | m + 1, hm => by
   have ih := targetsIn_lay ts hts rest m (by omega)
   have hlt : m < ts.length := by omega
   obtain ⟨h1, h2⟩ := hts ts[m] (List.getElem_mem _)
   have e : ts[m] = ((ts[m].toNat : Nat) : Int) := by omega
   have hd : (ts.drop m).flatMap (leBytes 2) ++ rest = leBytes 2 ((ts[m].toNat : Nat) : Int) ++ ((ts.drop (m + 1)).flatMap (leBytes 2) ++ rest) := by
     rw [List.drop_eq_getElem_cons hlt, List.flatMap_cons, List.append_assoc, ← e]
   simp only [targetsIn, ih, hd]
   rw [lowIn_lay (k := 2) (by have : 256 ^ 2 = 65536 := by decide
                              omega) (by omega), List.take_succ_eq_append_getElem hlt, ← e]
theorem validH_iff (h : Hd) : validH h = true ↔ 0 ≤ h.seq ∧ h.seq ≤ 1099511627776 ∧ h.ts.length ≤ 110 ∧ h.full = decide (0 < h.ts.length) ∧ ∀ i, i < h.ts.length → upTo h.ts i = true := by
 simp only [validH, Bool.and_eq_true, decide_eq_true_eq, List.all_eq_true, List.mem_range]
theorem upTo_range {ts : List Int} (h : ∀ i, i < ts.length → upTo ts i = true) : ∀ t ∈ ts, 0 ≤ t ∧ t < 2000 := by
 intro t ht
 obtain ⟨i, hi, rfl⟩ := List.mem_iff_getElem.1 ht
 have := h i hi
 unfold upTo at this
 rw [List.getElem?_eq_getElem hi] at this
 simp only [Bool.and_eq_true, decide_eq_true_eq] at this
 exact ⟨this.1, this.2.1⟩
theorem parse_lay {h : Hd} (hv : validH h = true) (pad : List UInt8) : parseH (headBytes h ++ pad) = h := by
 obtain ⟨h1, h2, h3, h4, h5⟩ := (validH_iff h).1 hv
 have hr := upTo_range h5
 obtain ⟨seq, full, ts⟩ := h
 simp only at h1 h2 h3 h4 h5 hr
 have es : seq = ((seq.toNat : Nat) : Int) := by omega
 have ef : (if full then (1 : Int) else 0) = (((if full then 1 else 0 : Nat)) : Int) := by cases full <;> rfl
 have e0 : headBytes ⟨seq, full, ts⟩ ++ pad = leBytes 1 ((7 : Nat) : Int) ++ (leBytes 1 (((if full then 1 else 0 : Nat)) : Int) ++ (leBytes 8 ((seq.toNat : Nat) : Int) ++ (leBytes 2 ((ts.length : Nat) : Int) ++ (ts.flatMap (leBytes 2) ++ pad)))) := by
   simp only [headBytes, ← ef, ← es, List.append_assoc]; rfl
 have a1 := lowIn_lay (k := 1) (v := 7) (by decide) (by decide) (leBytes 1 (((if full then 1 else 0 : Nat)) : Int) ++ (leBytes 8 ((seq.toNat : Nat) : Int) ++ (leBytes 2 ((ts.length : Nat) : Int) ++ (ts.flatMap (leBytes 2) ++ pad))))
 have a2 := lowIn_lay (k := 1) (v := if full then 1 else 0) (by split <;> decide) (by split <;> decide) (leBytes 8 ((seq.toNat : Nat) : Int) ++ (leBytes 2 ((ts.length : Nat) : Int) ++ (ts.flatMap (leBytes 2) ++ pad)))
 have a3 := lowIn_lay (k := 8) (v := seq.toNat) (by have : 256 ^ 8 = 18446744073709551616 := by decide
                                                    omega) (by omega) (leBytes 2 ((ts.length : Nat) : Int) ++ (ts.flatMap (leBytes 2) ++ pad))
 have a4 := lowIn_lay (k := 2) (v := ts.length) (by have : 256 ^ 2 = 65536 := by decide
                                                    omega) (by omega) (ts.flatMap (leBytes 2) ++ pad)
 have a5 := targetsIn_lay ts (fun t ht => ⟨(hr t ht).1, by have := (hr t ht).2; omega⟩) pad ts.length (Nat.le_refl _)
 rw [e0]
 simp only [parseH, a1, a2, a3, a4]
 have em : (min (ts.length : Int) 110).toNat = ts.length := by omega
 rw [em, a5, List.take_length, ← es]
 cases full <;> simp
theorem head_first (h : Hd) : ∃ r, headBytes h = 7 :: r := by
 refine ⟨leBytes 1 (if h.full then 1 else 0) ++ leBytes 8 h.seq ++ leBytes 2 h.ts.length ++ h.ts.flatMap (leBytes 2), ?_⟩
 have : leBytes 1 7 = [7] := by decide
 simp [headBytes, this]
/-- what is laid is read again -/
theorem read_lay {h : Hd} (hv : validH h = true) : readHead (layHead h).1 = (h, 0) := by
 have h3 := ((validH_iff h).1 hv).2.2.1
 have hl : (headBytes h).length ≤ 256 - 4 := by rw [headBytes_len]; omega
 have e : layHead h = (sealS 256 (headBytes h), 0) := by simp [layHead, hv]
 have ho := openB_seal (n := 256) (by decide) hl
 have hp : parseH (padTo (256 - 4) (headBytes h)) = h := parse_lay hv _
 rw [e]
 unfold readHead
 have hz : (sealS 256 (headBytes h)).all (fun x => [(0 : UInt8)].contains x) = false := by
   obtain ⟨r, hr⟩ := head_first h
   simp [sealS, padTo, hr]
 simp only [ho, hp, e, sealS_len (n := 256) (by decide) hl, hz]
 simp
end Go.Proofs.YtggachhkcmfijaaGreatDoor

/- the sum of bytes by halves of bytes: four shifts at once are a look into a table. -/
set_option linter.unusedVariables false
namespace Go.Proofs.YtggachhkcmfijaaGreatDoor
open Go Go.Vc Go.RowKit Go.Lib
theorem step_xor (a b : Nat) : step (2 * a ^^^ b) = a ^^^ step b := by
 have h1 : (2 * a ^^^ b) % 2 = b % 2 := by
   have h := Nat.xor_mod_two_pow (a := 2 * a) (b := b) (n := 1)
   rw [Nat.pow_one, Nat.mul_mod_right, Nat.zero_xor] at h
   exact h
 have h2 : (2 * a ^^^ b) / 2 = a ^^^ b / 2 := by
   have h := Nat.xor_div_two_pow (a := 2 * a) (b := b) (n := 1)
   rw [Nat.pow_one] at h
   rw [h]; congr 1; omega
 unfold step
 rw [h1, h2]
 split
 · rw [Nat.xor_assoc]
 · rfl
theorem split16 (x : Nat) : (2 * (2 * (2 * (2 * (x / 16))))) ^^^ (x % 16) = x := by
 have e1 : 2 * (2 * (2 * (2 * (x / 16)))) = (x >>> 4) <<< 4 := by rw [Nat.shiftLeft_eq, Nat.shiftRight_eq_div_pow]; omega
 have e2 : x % 16 = x % 2 ^ 4 := rfl
 rw [e1, e2]
 apply Nat.eq_of_testBit_eq
 intro i
 rw [Nat.testBit_xor, Nat.testBit_mod_two_pow, Nat.testBit_shiftLeft, Nat.testBit_shiftRight]
 by_cases h : i < 4
 · have h' : ¬ i ≥ 4 := by omega
   simp [h, h']
 · have h' : i ≥ 4 := by omega
   have e : 4 + (i - 4) = i := by omega
   simp [h, h', e]
theorem step4_split (x : Nat) : step4 x = (x / 16) ^^^ step4 (x % 16) := by
 have h : step4 x = step4 ((2 * (2 * (2 * (2 * (x / 16))))) ^^^ (x % 16)) := by rw [split16]
 rw [h]
 unfold step4
 rw [step_xor, step_xor, step_xor, step_xor]
end Go.Proofs.YtggachhkcmfijaaGreatDoor
