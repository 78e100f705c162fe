/- Words on memory: what a call leaves as it was, what a slice owns, appends, single blocks. -/
import Derived.Test.YtggachhkcmfijaaGreatDoorVc
import Derived.Laws.IdiomStrings
import Derived.Laws.OwnMore
import Derived.Lib.AppendStr
set_option linter.unusedVariables false
namespace Go.Vc
open Go Go.RowKit Go.Lib
/-! ### What a call leaves as it was, and what a slice owns -/
/-- of what was there, all but the blocks of S is as it was -/
structure Fr (S : Nat → Prop) (w w' : World) : Prop where
 os : w'.os = w.os
 tape : w'.tape = w.tape
 output : w'.output = w.output
 size : w.heap.size ≤ w'.heap.size
 block : ∀ k, k < w.heap.size → ¬ S k → w'.heap[k]? = w.heap[k]?
theorem Fr.refl (S : Nat → Prop) (w : World) : Fr S w w := ⟨rfl, rfl, rfl, Nat.le_refl _, fun _ _ _ => rfl⟩
theorem Fr.trans {S S' : Nat → Prop} {a b c : World} (h : Fr S a b) (k : Fr S' b c) (hS : ∀ i, i < a.heap.size → S' i → S i) : Fr S a c :=
 ⟨k.os.trans h.os, k.tape.trans h.tape, k.output.trans h.output, Nat.le_trans h.size k.size,
   fun i hi hn => (k.block i (Nat.lt_of_lt_of_le hi h.size) (fun hs => hn (hS i hi hs))).trans (h.block i hi hn)⟩
theorem Fr.mono {S S' : Nat → Prop} {w w' : World} (h : Fr S w w') (hS : ∀ i, i < w.heap.size → S i → S' i) : Fr S' w w' :=
 ⟨h.os, h.tape, h.output, h.size, fun k hk hn => h.block k hk (fun hs => hn (hS k hk hs))⟩
theorem Fr.alloc (S : Nat → Prop) (w : World) (o : Obj) : Fr S w (w.alloc o) := ⟨rfl, rfl, rfl, by simp, fun k hk _ => Below.heap_alloc w o k hk⟩
theorem Fr.drew (S : Nat → Prop) (w : World) : Fr S w w.drew := ⟨rfl, rfl, rfl, Nat.le_refl _, fun _ _ _ => rfl⟩
theorem Fr.setCell {S : Nat → Prop} (w : World) {p : Addr} (hp : S p.block) (u : Value) : Fr S w (w.setCell p u) :=
 ⟨rfl, rfl, rfl, by simp [World.setCell], fun k _ hn => Below.heap_setCell _ _ _ _ (fun h => hn (h ▸ hp))⟩
theorem Fr.grown {S : Nat → Prop} {w w' : World} {row : Option Nat} (hg : w.grownBy w' row) (hr : ∀ k, row = some k → S k) : Fr S w w' :=
 ⟨hg.os, hg.tape, hg.output, hg.size, fun k hk hn => hg.block k hk (fun h => hn (hr k h.symm))⟩
theorem Fr.toBelow {S : Nat → Prop} {B : Nat} {w w' : World} (h : Fr S w w') (hS : ∀ k, S k → B ≤ k) (hB : B ≤ w.heap.size) : Below B w w' :=
 ⟨h.os, h.tape, h.output, h.size, fun k hk => h.block k (by omega) (fun hs => by have := hS k hs; omega)⟩
theorem Fr.cell {S : Nat → Prop} {w w' : World} (h : Fr S w w') {p : Addr} {v : Value} (hc : w.cell? p = some v) (hn : ¬ S p.block) : w'.cell? p = some v := by
 rw [World.cell?_of_block (h.block p.block (World.block_lt_of_cell? w p hc) hn)]; exact hc
/-- nothing at all is turned -/
abbrev no : Nat → Prop := fun _ => False
/-- a slice that has a row of its own, and its elements' cells -/
def Own (w : World) (t : TypeId) (size : Nat) (l : Sl) (xs : List Value) : Prop := w.ownsRow 0 t size (.slice l.a l.len l.cap) l.len xs
/-- the block of a slice -/
def Sl.bk (l : Sl) : Nat → Prop := fun k => ∃ a, l.a = some a ∧ a.block = k
/-- the new one stands where the old one stood, or in new memory -/
def Moved (w : World) (l l' : Sl) : Prop := l'.a = l.a ∨ ∃ g, l'.a = some (blk g) ∧ w.heap.size ≤ g
theorem Own.nil (w : World) (t : TypeId) (size : Nat) : Own w t size ⟨none, 0, 0⟩ [] := World.ownsRow_nil w 0 t size
theorem Own.keep {w w' : World} {t : TypeId} {size : Nat} {l : Sl} {xs : List Value} (h : Own w t size l xs) {S : Nat → Prop} (hf : Fr S w w') (hn : ∀ k, l.bk k → ¬ S k) : Own w' t size l xs := by
 refine ⟨h.1, ?_⟩
 rcases h.2 with h2 | ⟨g, cap, cur, hv, hb, hg, r⟩
 · exact .inl h2
 · refine .inr ⟨g, cap, cur, hv, hb, ?_, r⟩
   simp only [Value.slice.injEq] at hv
   rw [hf.block g (Array.getElem?_eq_some_iff.1 hg).1 (hn g ⟨_, hv.1, rfl⟩)]
   exact hg
theorem Own.lt {w : World} {t : TypeId} {size : Nat} {l : Sl} {xs : List Value} (h : Own w t size l xs) {k : Nat} (hk : l.bk k) : k < w.heap.size := by
 obtain ⟨a, ha, rfl⟩ := hk
 exact (World.ownsRow.lt h a.block (by simp [Value.ownBlock, ha])).2
theorem Own.len {w : World} {t : TypeId} {size : Nat} {l : Sl} {xs : List Value} (h : Own w t size l xs) : xs.length = l.len * size := h.1
theorem heap_new (w : World) (o : Obj) : (w.alloc o).heap[w.heap.size]? = some o := heap_alloc_new w o
theorem add_blk (g n : Nat) : (blk g).add n = ⟨g, n, none⟩ := by unfold Addr.add; split <;> simp_all
/-- the cell of an element -/
theorem Own.cell {w : World} {t : TypeId} {size : Nat} {l : Sl} {xs : List Value} (h : Own w t size l xs) {j : Nat} {u : Value} (hj : xs[j]? = some u) : ∃ a, l.a = some a ∧ w.cell? (a.add j) = some u := by
 rcases h.2 with ⟨h2, hn⟩ | ⟨g, cap, cur, hv, hb, hg, r⟩
 · exfalso
   have := h.1
   rw [hn] at this
   have : xs = [] := List.eq_nil_of_length_eq_zero (by simpa using this)
   subst this
   simp at hj
 · simp only [Value.slice.injEq] at hv
   refine ⟨blk g, hv.1, ?_⟩
   exact World.ownsRow.cells h (g := g) (by rw [hv.1]; rfl) j u hj
section
variable {P : Program} {w : World}
theorem runT_slice {s : Sem Value} {R : Sl → World → Prop} {l : Sl} {w' : World} (h : s.run P w = .ok (.slice l.a l.len l.cap) w') (hR : R l w') : RunT P s [.one .slice] w R := ⟨l, w', h, hR⟩
theorem fr_of_grown {l : Sl} {w' : World} (hg : w.grownBy w' (Value.slice l.a l.len l.cap).ownBlock) : Fr l.bk w w' := Fr.grown hg fun k hk => by
 cases ha : l.a with
 | none => simp [Value.ownBlock, ha] at hk
 | some a => simp only [Value.ownBlock, ha, Option.some.injEq] at hk; exact ⟨a, ha, hk⟩
/-- append to a slice with a row of its own -/
theorem runT_append {t ty e : TypeId} {i : TypeInfo} {z : Value} {size bytes : Nat} (ht : P.underlying t = some (.slice e)) (hi : P.info? e = some i) (hz : i.zero = some z)
   (hsize : i.size = size) (hby : i.bytes = bytes) (hzs : z.cells.size = size) (hsz : 0 < size) {l : Sl} {xs : List Value} (hown : Own w e size l xs)
   {a : Addr} {m c : Nat} {news : List Value} (hl : news.length = m * size) (hnews : ∀ j u, news[j]? = some u → w.cell? (a.add j) = some u) (h1 : ∀ u ∈ news, u.oneCell' = true)
   (h63 : l.len + m ≤ maxLen) (hbytes : (l.len + m) * bytes ≤ 140737488355328) {R : Sl → World → Prop}
   (hR : ∀ l' w', Own w' e size l' (xs ++ news) → l'.len = l.len + m → Fr l.bk w w' → Moved w l l' → R l' w') :
   RunT P (Builtin.append_ #[t, t] ty #[.slice l.a l.len l.cap, .slice (some a) m c]) [.one .slice] w R := by
 obtain ⟨v', w', hr, ho, hg, hn⟩ := run_append_own (P := P) w 0 t ty e i z size bytes ht hi hz hsize hby hzs hsz _ l.len xs hown a m c news hl hnews h1 h63 hbytes (Nat.zero_le _)
 subst hsize
 subst hby
 have hsmall : l.len + m ≤ 9223372036854775807 := by simp only [maxLen] at h63; omega
 have key : ∃ l' : Sl, v' = .slice l'.a l'.len l'.cap ∧ l'.len = l.len + m ∧ Moved w l l' := by
   rcases hown.2 with ⟨h2, h0⟩ | ⟨g, cap, cur, h2, hbg, hgg, hnc, hcm, hcs, htake⟩
   · simp only [Value.slice.injEq] at h2
     obtain ⟨ha, hl0, hc0⟩ := h2
     by_cases hm : m = 0
     · exact ⟨⟨none, 0, 0⟩, hn.2 ⟨by rw [ha, hl0, hc0], hm⟩, by simp [hl0, hm], .inl ha.symm⟩
     · have h3 := run_append_nil (P := P) w t ty e i z ht hi hz a m c news hl hnews (by omega) (by omega) (by rw [hl0] at hbytes; simp only [Nat.zero_add] at hbytes; omega)
       rw [ha, hl0, hc0] at hr
       rw [h3] at hr
       injection hr with hr _
       exact ⟨⟨some (blk w.heap.size), m, _⟩, hr.symm, by simp [hl0], .inr ⟨_, rfl, Nat.le_refl _⟩⟩
   · simp only [Value.slice.injEq] at h2
     obtain ⟨ha, _, hc0⟩ := h2
     by_cases hroom : l.len + m ≤ l.cap
     · have hfit : l.len * i.size + news.length ≤ cur.size := by rw [hl, hcs, ← Nat.add_mul, ← hc0]; exact Nat.mul_le_mul_right _ hroom
       have h3 := run_append_room (P := P) w t ty e i ht hi g l.len l.cap cur hgg a m c news hl hnews h1 hroom hfit
       rw [ha] at hr
       rw [h3] at hr
       injection hr with hr _
       exact ⟨⟨some (blk g), l.len + m, l.cap⟩, hr.symm, rfl, .inl ha.symm⟩
     · have holds : ∀ j u, xs[j]? = some u → w.cell? ((⟨g, 0, none⟩ : Addr).add j) = some u := World.ownsRow.cells hown (g := g) (by rw [ha]; rfl)
       have h3 := run_append_grow (P := P) w t ty e i z ht hi hz ⟨g, 0, none⟩ l.len l.cap xs hown.1 holds a m c news hl hnews (by omega) (by omega) (growslice_fits (by omega) hbytes)
       rw [ha] at hr
       rw [h3] at hr
       injection hr with hr _
       exact ⟨⟨some (blk w.heap.size), l.len + m, _⟩, hr.symm, rfl, .inr ⟨_, rfl, Nat.le_refl _⟩⟩
 obtain ⟨l', rfl, hlen, hmv⟩ := key
 exact runT_slice hr (hR l' w' (by unfold Own; rw [← hlen] at ho; exact ho) hlen (fr_of_grown hg) hmv)
/-- append of a string's bytes -/
theorem runT_append_str {t u ty e : TypeId} {i : TypeInfo} (ht : P.underlying t = some (.slice e)) (hu : P.underlying u = some .string) (hi : P.info? e = some i) (hz : i.zero = some (.int .u8 0))
   (hsize : i.size = 1) (hby : i.bytes = 1) {l : Sl} {xs : List Value} (hown : Own w e 1 l xs) {s : ByteArray}
   (h63 : l.len + s.size ≤ maxLen) (hbytes : l.len + s.size ≤ 140737488355328) {R : Sl → World → Prop}
   (hR : ∀ l' w', Own w' e 1 l' (xs ++ strCells s) → l'.len = l.len + s.size → Fr l.bk w w' → Moved w l l' → R l' w') :
   RunT P (Builtin.append_ #[t, u] ty #[.slice l.a l.len l.cap, .string s]) [.one .slice] w R := by
 obtain ⟨v', w', hr, ho, hg, hn⟩ := run_append_own_string (P := P) w 0 t u ty e i ht hu hi hz hsize hby _ l.len xs hown s h63 hbytes (Nat.zero_le _)
 have hsmall : l.len + s.size ≤ 9223372036854775807 := by simp only [maxLen] at h63; omega
 have key : ∃ l' : Sl, v' = .slice l'.a l'.len l'.cap ∧ l'.len = l.len + s.size ∧ Moved w l l' := by
   rcases hown.2 with ⟨h2, h0⟩ | ⟨g, cap, cur, h2, hbg, hgg, hnc, hcm, hcs, htake⟩
   · simp only [Value.slice.injEq] at h2
     obtain ⟨ha, hl0, hc0⟩ := h2
     by_cases hm : s.size = 0
     · exact ⟨⟨none, 0, 0⟩, hn.2 ⟨by rw [ha, hl0, hc0], hm⟩, by simp [hl0, hm], .inl ha.symm⟩
     · have h3 := run_append_nil_string (P := P) w t u ty e i _ ht hu hi hz s (by omega) (by omega) (by rw [hby]; omega)
       rw [ha, hl0, hc0] at hr
       rw [h3] at hr
       injection hr with hr _
       exact ⟨⟨some (blk w.heap.size), s.size, _⟩, hr.symm, by simp [hl0], .inr ⟨_, rfl, Nat.le_refl _⟩⟩
   · simp only [Value.slice.injEq] at h2
     obtain ⟨ha, _, hc0⟩ := h2
     by_cases hroom : l.len + s.size ≤ l.cap
     · have hcs' : cur.size = cap := by simpa using hcs
       have h3 := run_append_room_string (P := P) w t u ty e i ht hu hi hsize g l.len l.cap cur hgg s hroom (by omega)
       rw [ha] at hr
       rw [h3] at hr
       injection hr with hr _
       exact ⟨⟨some (blk g), l.len + s.size, l.cap⟩, hr.symm, rfl, .inl ha.symm⟩
     · have holds : ∀ j u, xs[j]? = some u → w.cell? ((⟨g, 0, none⟩ : Addr).add j) = some u := World.ownsRow.cells hown (g := g) (by rw [ha]; rfl)
       have hxl : xs.length = l.len := by simpa using hown.1
       have h3 := run_append_grow_string (P := P) w t u ty e i _ ht hu hi hz ⟨g, 0, none⟩ l.len l.cap xs (by rw [hsize]; simpa using hxl) holds s (by omega) (by omega) (by rw [hby]; exact growslice_fits (by omega) (by omega))
       rw [ha] at hr
       rw [h3] at hr
       injection hr with hr _
       exact ⟨⟨some (blk w.heap.size), l.len + s.size, _⟩, hr.symm, rfl, .inr ⟨_, rfl, Nat.le_refl _⟩⟩
 obtain ⟨l', rfl, hlen, hmv⟩ := key
 exact runT_slice hr (hR l' w' (by unfold Own; rw [← hlen] at ho; exact ho) hlen (fr_of_grown hg) hmv)
end
end Go.Vc
namespace Go.Vc
open Go Go.RowKit Go.Lib
/-! ### Numbers -/
theorem w64_id {x : Int} (h1 : -9223372036854775808 ≤ x) (h2 : x < 9223372036854775808) : w64 x = x := by
 have e : w64 x = if x % 18446744073709551616 ≥ 9223372036854775808 then x % 18446744073709551616 - 18446744073709551616 else x % 18446744073709551616 := by
   simp [w64, IntKind.wrap, IntKind.bits, IntKind.signed]
 rw [e]
 split <;> omega
theorem wr8 (x : Int) : wr .u8 x = x % 256 := by
 simp [wr, IntKind.wrap, IntKind.bits, IntKind.signed]
/-! ### A block that is known whole -/
section
variable {w : World} {g : Nat} {cs : List Value} {t : TypeId}
theorem blk_cell (h : w.heap[g]? = some (.cells ⟨cs⟩ t (0, 0))) (j : Nat) : w.cell? ((blk g).add j) = cs[j]? := by
 rw [add_blk, cell_of_row w g j ⟨cs⟩ t (0, 0) h]; simp
theorem blk_cell0 (h : w.heap[g]? = some (.cells ⟨cs⟩ t (0, 0))) : w.cell? (blk g) = cs[0]? := by
 rw [cell_of_row w g 0 ⟨cs⟩ t (0, 0) h]; simp
theorem blk_wr (h : w.heap[g]? = some (.cells ⟨cs⟩ t (0, 0))) {j : Nat} (hj : j < cs.length) : Wr w ((blk g).add j) :=
 ⟨⟨cs[j], by rw [blk_cell h]; simp [hj]⟩, by rw [add_blk]; exact frozen_of_row w g j ⟨cs⟩ t h⟩
theorem blk_wr0 (h : w.heap[g]? = some (.cells ⟨cs⟩ t (0, 0))) (hj : 0 < cs.length) : Wr w (blk g) :=
 ⟨⟨cs[0], by rw [blk_cell0 h]; simp [hj]⟩, frozen_of_row w g 0 ⟨cs⟩ t h⟩
theorem blk_set (h : w.heap[g]? = some (.cells ⟨cs⟩ t (0, 0))) (j : Nat) (v : Value) : (w.setCell ((blk g).add j) v).heap[g]? = some (.cells ⟨cs.set j v⟩ t (0, 0)) := by
 rw [add_blk, heap_setCell_same w g j ⟨cs⟩ t v h]
 simp [List.setIfInBounds_toArray]
theorem blk_set0 (h : w.heap[g]? = some (.cells ⟨cs⟩ t (0, 0))) (v : Value) : (w.setCell (blk g) v).heap[g]? = some (.cells ⟨cs.set 0 v⟩ t (0, 0)) := by
 rw [heap_setCell_same w g 0 ⟨cs⟩ t v h]
 simp [List.setIfInBounds_toArray]
theorem fr_set (w : World) (g j : Nat) (v : Value) : Fr (· = g) w (w.setCell ((blk g).add j) v) := Fr.setCell w (by rw [add_blk]) v
theorem fr_set0 (w : World) (g : Nat) (v : Value) : Fr (· = g) w (w.setCell (blk g) v) := Fr.setCell (S := (· = g)) w rfl v
theorem heap_lt {o : Obj} (h : w.heap[g]? = some o) : g < w.heap.size := (Array.getElem?_eq_some_iff.1 h).1
theorem Fr.heap {S : Nat → Prop} {w w' : World} (h : Fr S w w') {o : Obj} (ho : w.heap[g]? = some o) (hn : ¬ S g) : w'.heap[g]? = some o := by
 rw [h.block g (heap_lt ho) hn]; exact ho
end
theorem drew_cell (w : World) (a : Addr) : w.drew.cell? a = w.cell? a := rfl
section
variable {P : Program} {w : World}
/-- bytes as a text -/
theorem runT_bytes_str {src dst e : TypeId} (hs : P.underlying src = some (.slice e)) (he : P.underlying e = some (.int .u8)) (hd : P.underlying dst = some .string) {l : Sl} {bs : List UInt8}
   (h : Own w e 1 l (bs.map fun b => Value.int .u8 b.toNat)) {R : ByteArray → World → Prop} (hR : R ⟨bs.toArray⟩ w) : RunT P (convert src dst (.slice l.a l.len l.cap)) [.one .str] w R := by
 have hl : bs.length = l.len := by simpa using h.1
 refine ⟨⟨bs.toArray⟩, w, ?_, hR⟩
 rcases h.2 with ⟨h2, hn⟩ | ⟨g, cap, cur, hv, hb, hg, r⟩
 · simp only [Value.slice.injEq] at h2
   obtain ⟨h1, h2, h3⟩ := h2
   rw [hn] at hl
   have : bs = [] := List.eq_nil_of_length_eq_zero hl
   subst this
   rw [h1, h2, h3, run_convert_bytes_string w src dst e none 0 0 hs he hd]
   simp [Conv.bytesToString, resV, SV.vs, packs, Sh.sv, SV.v]
   rfl
 · simp only [Value.slice.injEq] at hv
   have := run_convert_bytes_back (P := P) w src dst e (blk g) l.cap bs hs he hd (fun j hj => by
     have := World.ownsRow.cells h (g := g) (by rw [hv.1]; rfl) j (.int .u8 (bs[j].toNat : Int)) (by simp [hj])
     exact this)
   rw [hl] at this
   rw [hv.1]
   exact this
/-- a slice that is made -/
theorem runT_make {t e : TypeId} {i : TypeInfo} {z : Value} {size : Nat} (ht : P.underlying t = some (.slice e)) (hi : P.info? e = some i) (hz : i.zero = some z) (hsize : i.size = size)
   {n : Nat} (hbytes : i.bytes * n ≤ 281474976710656) (h63 : n ≤ maxLen) {R : Sl → World → Prop}
   (hR : ∀ w', Own w' e size ⟨some (blk w.heap.size), n, n⟩ (madeCells z.cells (n * size)).toList → Fr no w w' → w.heap.size < w'.heap.size → R ⟨some (blk w.heap.size), n, n⟩ w') :
   RunT P (Instr.makeSlice t (.int .i64 (n : Int)) (.int .i64 (n : Int))) [.one .slice] w R := by
 obtain ⟨w', hr, ho, hg⟩ := run_make_full (P := P) w 0 t e i z size ht hi hz hsize .i64 .i64 n hbytes h63 (Nat.zero_le _)
 exact runT_slice (l := ⟨some (blk w.heap.size), n, n⟩) hr (hR w' ho (Fr.grown hg (fun k hk => by cases hk)) (World.ownsRow.lt ho _ rfl).2)
end
/-! ### Texts as lists of bytes -/
def tx (l : List UInt8) : ByteArray := ⟨l.toArray⟩
theorem tx_self (s : ByteArray) : tx s.data.toList = s := by simp [tx]
theorem tx_data (l : List UInt8) : (tx l).data.toList = l := by simp [tx]
theorem tx_size (l : List UInt8) : (tx l).size = l.length := by simp [tx, ByteArray.size]
theorem tx_app (a b : List UInt8) : tx a ++ tx b = tx (a ++ b) := by
 apply ByteArray.ext
 simp [tx]
theorem tx_ext (l : List UInt8) (a b : Nat) : (tx l).extract a b = tx ((l.drop a).take (b - a)) := by
 apply ByteArray.ext
 simp [tx, ByteArray.data_extract]
theorem tx_nil : sNil = tx [] := rfl
theorem tx_eq (a b : List UInt8) : sEq (tx a) (tx b) = decide (a = b) := by simp [sEq, tx_data]
theorem tx_lt (a b : List UInt8) : sLt (tx a) (tx b) = Op.bytesLess a b := by simp [sLt, tx_data]
theorem tx_at (l : List UInt8) (i : Nat) : sAt (tx l) i = ((l.getD i 0).toNat : Int) := by simp [sAt, tx_data]
/-- a text's bytes as a slice -/
theorem runT_str_bytes {P : Program} {w : World} {src dst e : TypeId} (hs : P.underlying src = some .string) (hd : P.underlying dst = some (.slice e)) (he : P.underlying e = some (.int .u8)) {l : List UInt8} {R : Sl → World → Prop}
   (hR : ∀ cap w', Fr no w w' → w.heap.size < w'.heap.size → (∀ j b, l[j]? = some b → w'.cell? ((blk w.heap.size).add j) = some (.int .u8 (b.toNat : Int))) → R ⟨some (blk w.heap.size), l.length, cap⟩ w') :
   RunT P (convert src dst (.string (tx l))) [.one .slice] w R := by
 have h := run_bytes_of_string (P := P) w src dst e (tx l) hs hd he
 rw [tx_size] at h
 refine runT_slice (l := ⟨some (blk w.heap.size), l.length, _⟩) h (hR _ _ ((Fr.drew _ w).trans (Fr.alloc no _ _) (fun _ _ h => h)) (by simp) (fun j b hj => ?_))
 rw [add_blk]
 rw [cell_of_row _ w.heap.size j _ e _ (heap_alloc_new w.drew _)]
 have hlt : j < l.length := (List.getElem?_eq_some_iff.1 hj).1
 unfold bytesRow tx
 rw [Array.getElem?_append_left (by simpa using hlt)]
 simp [hj]
theorem strCells_tx (l : List UInt8) : strCells (tx l) = l.map fun b => Value.int .u8 b.toNat := by simp [strCells, tx_data]
end Go.Vc
namespace Go.Vc
open Go Go.RowKit Go.Lib
section
variable {P : Program} {w : World}
/-- append of zeros to a slice that has no room for them: a new row -/
theorem runT_append_zeros {t ti ty e : TypeId} {i : TypeInfo} {z : Value} {size bytes : Nat} (ht : P.underlying t = some (.slice e)) (hti : P.underlying ti = some (.int .i64)) (hi : P.info? e = some i) (hz : i.zero = some z)
   (hsize : i.size = size) (hby : i.bytes = bytes) (hzs : z.cells.size = size) (hsz : 0 < size) (hb0 : 0 < bytes) {l : Sl} {xs : List Value} (hown : Own w e size l xs)
   {m : Nat} (hm : 0 < m) (hbytes : (l.len + m) * bytes ≤ 140737488355328) (hno : l.cap < l.len + m) {R : Sl → World → Prop}
   (hR : ∀ cap w', Own w' e size ⟨some (blk w.heap.size), l.len + m, cap⟩ (xs ++ (Builtin.zeroCells z.cells m).toList) → Fr no w w' → w.heap.size < w'.heap.size → R ⟨some (blk w.heap.size), l.len + m, cap⟩ w') :
   RunT P (Builtin.append_ #[t, ti] ty #[.slice l.a l.len l.cap, .int .i64 (m : Int)]) [.one .slice] w R := by
 subst hsize
 subst hby
 have hle : l.len + m ≤ 140737488355328 := Nat.le_trans (Nat.le_mul_of_pos_right _ hb0) hbytes
 have h63 : l.len + m ≤ maxLen := by simp only [maxLen]; omega
 have hw : IntKind.i64.wrap (m : Int) = m := by rw [IntKind.wrap_i64]; omega
 have hneg : ¬ ((m : Int) < 0) := by omega
 have hmb : m * i.bytes ≤ 140737488355328 := Nat.le_trans (Nat.mul_le_mul_right _ (Nat.le_add_left m l.len)) hbytes
 have hbig : ¬ (281474976710656 < (m : Int) * (i.bytes : Int)) := by rw [← Int.natCast_mul]; omega
 have hsn : i.size ≠ 0 := by omega
 have hl : (Builtin.zeroCells z.cells m).toList.length = m * i.size := by rw [Array.length_toList, size_zeroCells, hzs]
 have hlen : (xs ++ (Builtin.zeroCells z.cells m).toList).length = (l.len + m) * i.size := by rw [List.length_append, hown.1, hl, Nat.add_mul]
 have hge := grownCap_ge w (l.len + m) l.cap e
 have hcm : grownCap w (l.len + m) l.cap e ≤ maxLen := grownCap_le_maxLen w (l.len + m) l.cap e h63
 have hfo : (Builtin.firstCells i.size l.len (.slice l.a l.len l.cap)).run P w.drew = .ok xs.toArray w.drew := by
   rcases hown.2 with ⟨h2, h0⟩ | ⟨g, cap, cur, h2, hbg, hg, r⟩
   · simp only [Value.slice.injEq] at h2
     have hx : xs = [] := List.eq_nil_of_length_eq_zero (by have := hown.1; rw [h0] at this; simpa using this)
     rw [h2.1, h0, hx]
     simp [Builtin.firstCells]
   · simp only [Value.slice.injEq] at h2
     have holds : ∀ j u, xs[j]? = some u → w.cell? ((⟨g, 0, none⟩ : Addr).add j) = some u := World.ownsRow.cells hown (g := g) (by rw [h2.1]; rfl)
     rw [h2.1]
     exact run_firstCells_some (P := P) w.drew i.size l.len _ l.len l.cap xs hown.1 (by simpa using holds)
 have hn : ¬ (l.len + m ≤ l.cap) := by omega
 have h63' : ¬ (9223372036854775807 < ((l.len : Int) + (m : Int))) := by omega
 have hfit := growslice_fits hno hbytes
 have h48' : ¬ (281474976710656 < Builtin.nextslicecap (l.len + m) l.cap * i.bytes) := by omega
 have hmz : ¬ (m * i.size = 0) := Nat.mul_ne_zero (by omega) hsn
 have hr : (Builtin.append_ #[t, ti] ty #[.slice l.a l.len l.cap, .int .i64 (m : Int)]).run P w =
     .ok (.slice (some ⟨w.heap.size, 0, none⟩) (l.len + m) (grownCap w (l.len + m) l.cap e)) (w.drew.alloc (.cells (xs.toArray ++ Builtin.zeroCells z.cells m ++ Builtin.zeroCells z.cells (grownCap w (l.len + m) l.cap e - (l.len + m))) e)) := by
   simp [Builtin.append_, run_underlying ht, run_underlying hti, sizeOf, typeInfo, zeroValue, hi, hz, asInt, asIntOf, hw, hneg, hbig, hn, h63', h48', Question.forced, hfo, newRow, grownCap, hmz]
 refine runT_slice (l := ⟨some (blk w.heap.size), l.len + m, _⟩) hr (hR _ _ ⟨hlen, .inr ⟨w.heap.size, _, _, rfl, Nat.zero_le _, heap_alloc_new w.drew _, hge, hcm, ?_, ?_⟩⟩ ((Fr.drew no _).trans (Fr.alloc no _ _) (fun _ _ h => h)) (by simp))
 · simp only [Array.size_append, List.size_toArray, size_zeroCells, hzs, hown.1, ← Nat.add_mul]
   congr 1
   have h2 : ∀ x y : Nat, x ≤ y → x + (y - x) = y := fun x y h => by omega
   exact h2 _ _ hge
 · simp only [Array.toList_append, List.append_assoc]
   rw [← List.append_assoc, ← hlen]
   exact List.take_left
/-- copy into a row that is known whole -/
theorem runT_copy {dT sT ty elem : TypeId} {i : TypeInfo} (hu : P.underlying dT = some (.slice elem)) (hi : P.info? elem = some i) {size : Nat} (hsize : i.size = size) {g o dLen dCap : Nat} {a : Addr} {sLen sCap : Nat} {cur : List Value} {t : TypeId} {cs : List Value}
   (hg : w.heap[g]? = some (.cells ⟨cur⟩ t (0, 0))) (hn : cs.length = Nat.min sLen dLen * size)
   (hsrc : ∀ j v, cs[j]? = some v → w.cell? (a.add j) = some v) (hfit : o + cs.length ≤ cur.length) (h1 : ∀ v ∈ cs, v.oneCell' = true) {R : Int → World → Prop}
   (hR : ∀ w', w'.heap[g]? = some (.cells ⟨cur.take o ++ cs ++ cur.drop (o + cs.length)⟩ t (0, 0)) → Fr (· = g) w w' → w'.heap.size = w.heap.size → R (Nat.min sLen dLen : Nat) w') :
   RunT P (Builtin.copy_ #[dT, sT] ty #[.slice (some ⟨g, o, none⟩) dLen dCap, .slice (some a) sLen sCap]) [.one (.int .i64)] w R := by
 subst hsize
 have hl := run_firstCells_some (P := P) w i.size (Nat.min sLen dLen) a sLen sCap cs hn hsrc
 have hst := run_storeCells_at P g o t cs 0 ⟨cur⟩ w hg (by simpa using hfit) h1
 have hr : (Builtin.copy_ #[dT, sT] ty #[.slice (some ⟨g, o, none⟩) dLen dCap, .slice (some a) sLen sCap]).run P w = .ok (goInt (Nat.min sLen dLen)) (w.setRow g (cur.take o ++ cs ++ cur.drop (o + cs.length)).toArray) := by
   simp only [Nat.add_zero] at hst
   simp [Builtin.copy_, run_underlying hu, Builtin.lenOf, sizeOf, typeInfo, hi, hl, hst]
 refine ⟨((Nat.min sLen dLen : Nat) : Int), _, hr, hR _ (setRow_heap w g ⟨cur⟩ _ t _ hg) ⟨rfl, rfl, rfl, by simp [World.setRow], fun k _ hk => setRow_other w g k _ hk⟩ (by simp [World.setRow])⟩
end
end Go.Vc
namespace Go.Vc
open Go Go.RowKit Go.Lib
/-! ### What lies apart from each other -/
/-- an assertion on a world, and on the blocks that it speaks of -/
structure As where
 p : World → (Nat → Prop) → Prop
 lt : ∀ {w : World} {S : Nat → Prop}, p w S → ∀ k, S k → k < w.heap.size
 keep : ∀ {w w' : World} {S : Nat → Prop}, p w S → Fr (fun k => ¬ S k) w w' → p w' S
def StP : List As → World → (Nat → Prop) → Prop
 | [], _, S => ∀ k, ¬ S k
 | A :: L, w, S => ∃ a b : Nat → Prop, A.p w a ∧ StP L w b ∧ (∀ k, a k → ¬ b k) ∧ ∀ k, S k ↔ (a k ∨ b k)
/-- all of these hold, of blocks that lie apart -/
def St (w : World) (L : List As) : Prop := ∃ S, StP L w S
theorem StP.lt : ∀ {L : List As} {w : World} {S : Nat → Prop}, StP L w S → ∀ k, S k → k < w.heap.size
 | [], _, _, h, k, hk => absurd hk (h k)
 | A :: L, w, S, ⟨a, b, ha, hb, _, hs⟩, k, hk => by
   rcases (hs k).1 hk with h | h
   · exact A.lt ha k h
   · exact StP.lt hb k h
theorem StP.keep : ∀ {L : List As} {w w' : World} {S : Nat → Prop}, StP L w S → Fr (fun k => ¬ S k) w w' → StP L w' S
 | [], _, _, _, h, _ => h
 | A :: L, w, w', S, ⟨a, b, ha, hb, hd, hs⟩, hf =>
   ⟨a, b, A.keep ha (hf.mono fun k _ hn hk => hn ((hs k).2 (.inl hk))), StP.keep hb (hf.mono fun k _ hn hk => hn ((hs k).2 (.inr hk))), hd, hs⟩
theorem StP.cons {A : As} {L L' : List As} {w : World} (hL : ∀ S, StP L w S → StP L' w S) {S : Nat → Prop} (h : StP (A :: L) w S) : StP (A :: L') w S := by
 obtain ⟨a, b, ha, hb, hd, hs⟩ := h
 exact ⟨a, b, ha, hL b hb, hd, hs⟩
theorem StP.swap {A B : As} {L : List As} {w : World} {S : Nat → Prop} (h : StP (A :: B :: L) w S) : StP (B :: A :: L) w S := by
 obtain ⟨a, b, ha, ⟨c, d, hc, hd, h1, h2⟩, h3, h4⟩ := h
 refine ⟨c, fun k => a k ∨ d k, hc, ⟨a, d, ha, hd, fun k hk hdk => h3 k hk ((h2 k).2 (.inr hdk)), fun k => Iff.rfl⟩, fun k hk hor => ?_, fun k => ?_⟩
 · rcases hor with h | h
   · exact h3 k h ((h2 k).2 (.inl hk))
   · exact h1 k hk h
 · have e1 := h4 k
   have e2 := h2 k
   constructor
   · intro h
     rcases e1.1 h with h | h
     · exact .inr (.inl h)
     · rcases e2.1 h with h | h
       · exact .inl h
       · exact .inr (.inr h)
   · intro h
     rcases h with h | h | h
     · exact e1.2 (.inr (e2.2 (.inl h)))
     · exact e1.2 (.inl h)
     · exact e1.2 (.inr (e2.2 (.inr h)))
section
variable {w w' : World} {A B C D E : As} {L X : List As}
theorem St.fr (h : St w L) (hf : Fr no w w') : St w' L := by
 obtain ⟨S, h⟩ := h
 exact ⟨S, h.keep (hf.mono fun _ _ hk => hk.elim)⟩
theorem St.below (h : St w L) (hb : Below w.heap.size w w') : St w' L := h.fr ⟨hb.os, hb.tape, hb.output, hb.size, fun k hk _ => hb.block k hk⟩
theorem St.drew (h : St w L) : St w.drew L := h.fr (Fr.drew no w)
theorem St.drop (h : St w (A :: L)) : St w L := by
 obtain ⟨S, a, b, ha, hb, _⟩ := h
 exact ⟨b, hb⟩
theorem St.sw (h : St w (A :: B :: L)) : St w (B :: A :: L) := by
 obtain ⟨S, h⟩ := h
 exact ⟨S, h.swap⟩
theorem St.up2 (h : St w (A :: B :: C :: L)) : St w (C :: A :: B :: L) := by
 obtain ⟨S, h⟩ := h
 exact ⟨S, StP.swap (StP.cons (fun _ => StP.swap) h)⟩
theorem St.up3 (h : St w (A :: B :: C :: D :: L)) : St w (D :: A :: B :: C :: L) := by
 obtain ⟨S, h⟩ := h
 exact ⟨S, StP.swap (StP.cons (fun _ h => StP.swap (StP.cons (fun _ => StP.swap) h)) h)⟩
theorem St.up4 (h : St w (A :: B :: C :: D :: E :: L)) : St w (E :: A :: B :: C :: D :: L) := by
 obtain ⟨S, h⟩ := h
 exact ⟨S, StP.swap (StP.cons (fun _ h => StP.swap (StP.cons (fun _ h => StP.swap (StP.cons (fun _ => StP.swap) h)) h)) h)⟩
theorem St.up5 {F : As} (h : St w (A :: B :: C :: D :: E :: F :: L)) : St w (F :: A :: B :: C :: D :: E :: L) := by
 obtain ⟨S, h⟩ := h
 exact ⟨S, StP.swap (StP.cons (fun _ h => StP.swap (StP.cons (fun _ h => StP.swap (StP.cons (fun _ h => StP.swap (StP.cons (fun _ => StP.swap) h)) h)) h)) h)⟩
theorem St.up6 {F G : As} (h : St w (A :: B :: C :: D :: E :: F :: G :: L)) : St w (G :: A :: B :: C :: D :: E :: F :: L) := by
 obtain ⟨S, h⟩ := h
 exact ⟨S, StP.swap (StP.cons (fun _ h => StP.swap (StP.cons (fun _ h => StP.swap (StP.cons (fun _ h => StP.swap (StP.cons (fun _ h => StP.swap (StP.cons (fun _ => StP.swap) h)) h)) h)) h)) h)⟩
theorem St.d2 (h : St w (A :: B :: L)) : St w (A :: L) := h.sw.drop
theorem St.d3 (h : St w (A :: B :: C :: L)) : St w (A :: B :: L) := h.up2.drop
theorem St.d4 (h : St w (A :: B :: C :: D :: L)) : St w (A :: B :: C :: L) := h.up3.drop
/-- the first one is put behind the second, third, .. -/
theorem St.dn2 (h : St w (A :: B :: C :: L)) : St w (B :: C :: A :: L) := h.up2.up2
theorem St.dn3 (h : St w (A :: B :: C :: D :: L)) : St w (B :: C :: D :: A :: L) := h.up3.up3.up3
theorem St.dn4 (h : St w (A :: B :: C :: D :: E :: L)) : St w (B :: C :: D :: E :: A :: L) := h.up4.up4.up4.up4
/-- the first one is taken out, changed, and put back -/
theorem St.out (h : St w (A :: L)) : ∃ S, A.p w S ∧ (∀ k, S k → k < w.heap.size) ∧ ∀ {A' : As} {w' : World} {S' : Nat → Prop}, A'.p w' S' → Fr S w w' → (∀ k, S' k → S k ∨ w.heap.size ≤ k) → St w' (A' :: L) := by
 obtain ⟨T, a, b, ha, hb, hd, hs⟩ := h
 refine ⟨a, ha, A.lt ha, fun {A' w' S'} hp hf hn => ⟨fun k => S' k ∨ b k, S', b, hp, hb.keep (hf.mono fun k _ hk => fun hbk => hd k hk hbk), fun k hk hbk => ?_, fun k => Iff.rfl⟩⟩
 rcases hn k hk with h | h
 · exact hd k h hbk
 · have := hb.lt k hbk; omega
theorem St.hd (h : St w (A :: L)) : ∃ S, A.p w S := by
 obtain ⟨S, a, b, ha, _⟩ := h
 exact ⟨a, ha⟩
/-- another one of the same blocks -/
theorem St.as (h : St w (A :: L)) (hp : ∀ S, A.p w S → B.p w S) : St w (B :: L) := by
 obtain ⟨S, a, b, ha, r⟩ := h
 exact ⟨S, a, b, hp a ha, r⟩
/-- what is new -/
theorem St.add (h : St w L) {S : Nat → Prop} (hp : A.p w' S) (hf : Fr no w w') (hn : ∀ k, S k → w.heap.size ≤ k) : St w' (A :: L) := by
 obtain ⟨T, h⟩ := h
 refine ⟨fun k => S k ∨ T k, S, T, hp, h.keep (hf.mono fun _ _ hk => hk.elim), fun k hk ht => ?_, fun k => Iff.rfl⟩
 have := hn k hk
 have := h.lt k ht
 omega
/-- some value of which it holds -/
def As.ex {α : Type} (f : α → As) : As where
 p := fun w S => ∃ x, (f x).p w S
 lt := fun ⟨x, h⟩ => (f x).lt h
 keep := fun ⟨x, h⟩ hf => ⟨x, (f x).keep h hf⟩
theorem St.ex {α : Type} {f : α → As} (h : St w (As.ex f :: L)) : ∃ x, St w (f x :: L) := by
 obtain ⟨S, a, b, ⟨x, ha⟩, r⟩ := h
 exact ⟨x, S, a, b, ha, r⟩
theorem St.mk {α : Type} {f : α → As} (x : α) (h : St w (f x :: L)) : St w (As.ex f :: L) := h.as fun _ hp => ⟨x, hp⟩
/-- several as one -/
def As.all (M : List As) : As where
 p := StP M
 lt := StP.lt
 keep := StP.keep
theorem StP.app : ∀ {M L : List As} {w : World} {S : Nat → Prop}, StP (M ++ L) w S → ∃ a b : Nat → Prop, StP M w a ∧ StP L w b ∧ (∀ k, a k → ¬ b k) ∧ ∀ k, S k ↔ (a k ∨ b k)
 | [], L, w, S, h => ⟨no, S, fun _ h => h, h, fun _ h => h.elim, fun k => by simp⟩
 | A :: M, L, w, S, ⟨a, b, ha, hb, hd, hs⟩ => by
   obtain ⟨c, d, hc, hdd, h1, h2⟩ := StP.app hb
   refine ⟨fun k => a k ∨ c k, d, ⟨a, c, ha, hc, fun k hk hc => hd k hk ((h2 k).2 (.inl hc)), fun k => Iff.rfl⟩, hdd, fun k hk hdk => ?_, fun k => ?_⟩
   · rcases hk with h | h
     · exact hd k h ((h2 k).2 (.inr hdk))
     · exact h1 k h hdk
   · rw [hs k, h2 k, or_assoc]
theorem StP.unapp : ∀ {M L : List As} {w : World} {a b S : Nat → Prop}, StP M w a → StP L w b → (∀ k, a k → ¬ b k) → (∀ k, S k ↔ (a k ∨ b k)) → StP (M ++ L) w S
 | [], L, w, a, b, S, ha, hb, _, hs => by
   have e : S = b := funext fun k => propext ((hs k).trans ⟨fun h => h.resolve_left (ha k), .inr⟩)
   rw [e]; exact hb
 | A :: M, L, w, a, b, S, ⟨c, d, hc, hd, h1, h2⟩, hb, h3, hs =>
   ⟨c, fun k => d k ∨ b k, hc, StP.unapp hd hb (fun k hk => h3 k ((h2 k).2 (.inr hk))) (fun k => Iff.rfl), fun k hk hor => by
     rcases hor with h | h
     · exact h1 k hk h
     · exact h3 k ((h2 k).2 (.inl hk)) h, fun k => by rw [hs k, h2 k, or_assoc]⟩
theorem St.fold (M : List As) (h : St w (M ++ L)) : St w (As.all M :: L) := by
 obtain ⟨S, h⟩ := h
 obtain ⟨a, b, r⟩ := StP.app h
 exact ⟨S, a, b, r⟩
theorem St.unfold {M : List As} (h : St w (As.all M :: L)) : St w (M ++ L) := by
 obtain ⟨S, a, b, ha, hb, hd, hs⟩ := h
 exact ⟨S, StP.unapp ha hb hd hs⟩
/-- together with a fact -/
def As.wh (P : Prop) (A : As) : As where
 p := fun w S => P ∧ A.p w S
 lt := fun ⟨_, h⟩ => A.lt h
 keep := fun ⟨hp, h⟩ hf => ⟨hp, A.keep h hf⟩
theorem St.wh {P : Prop} (h : St w (As.wh P A :: L)) : P ∧ St w (A :: L) := by
 obtain ⟨S, a, b, ⟨hp, ha⟩, r⟩ := h
 exact ⟨hp, S, a, b, ha, r⟩
theorem St.whmk {P : Prop} (hp : P) (h : St w (A :: L)) : St w (As.wh P A :: L) := h.as fun _ ha => ⟨hp, ha⟩
/-- a block, whole -/
def Cs (g : Nat) (cs : List Value) (t : TypeId) : As where
 p := fun w S => w.heap[g]? = some (.cells ⟨cs⟩ t (0, 0)) ∧ S = fun k => k = g
 lt := fun ⟨h, e⟩ k hk => by subst e; have : k = g := hk; subst this; exact heap_lt h
 keep := fun ⟨h, e⟩ hf => ⟨hf.heap h (fun hn => hn (by subst e; rfl)), e⟩
section
variable {g : Nat} {cs : List Value} {t : TypeId}
theorem St.bl (h : St w (Cs g cs t :: L)) : w.heap[g]? = some (.cells ⟨cs⟩ t (0, 0)) := by
 obtain ⟨S, h, _⟩ := h.hd
 exact h
theorem St.new (h : St w L) (cs : List Value) (t : TypeId) : St (w.alloc (.cells ⟨cs⟩ t)) (Cs w.heap.size cs t :: L) :=
 h.add ⟨heap_new w _, rfl⟩ (Fr.alloc no w _) (fun k hk => Nat.le_of_eq (Eq.symm hk))
theorem St.cell (h : St w (Cs g cs t :: L)) (j : Nat) : w.cell? ((blk g).add j) = cs[j]? := blk_cell h.bl j
theorem St.cell0 (h : St w (Cs g cs t :: L)) : w.cell? (blk g) = cs[0]? := blk_cell0 h.bl
theorem St.wr (h : St w (Cs g cs t :: L)) {j : Nat} (hj : j < cs.length) : Wr w ((blk g).add j) := blk_wr h.bl hj
theorem St.wr0 (h : St w (Cs g cs t :: L)) (hj : 0 < cs.length) : Wr w (blk g) := blk_wr0 h.bl hj
theorem St.set (h : St w (Cs g cs t :: L)) (j : Nat) (v : Value) : St (w.setCell ((blk g).add j) v) (Cs g (cs.set j v) t :: L) := by
 obtain ⟨S, ⟨hb, e⟩, _, hX⟩ := h.out
 exact hX ⟨blk_set hb j v, rfl⟩ (by subst e; exact fr_set w g j v) (fun k hk => .inl (by subst e; exact hk))
theorem St.set0 (h : St w (Cs g cs t :: L)) (v : Value) : St (w.setCell (blk g) v) (Cs g (cs.set 0 v) t :: L) := by
 obtain ⟨S, ⟨hb, e⟩, _, hX⟩ := h.out
 exact hX ⟨blk_set0 hb v, rfl⟩ (by subst e; exact fr_set0 w g v) (fun k hk => .inl (by subst e; exact hk))
end
/-- all that was there at first -/
def Old (w0 : World) : As where
 p := fun w S => Below w0.heap.size w0 w ∧ S = fun k => k < w0.heap.size
 lt := fun ⟨h, e⟩ k hk => by subst e; have := h.size; have : k < w0.heap.size := hk; omega
 keep := fun {w w' S} ⟨h, e⟩ hf => ⟨⟨hf.os.trans h.os, hf.tape.trans h.tape, hf.output.trans h.output, Nat.le_trans h.size hf.size, fun k hk => by
   have := h.size
   exact (hf.block k (by omega) (fun hn => hn (by subst e; exact hk))).trans (h.block k hk)⟩, e⟩
theorem St.start (w : World) : St w [Old w] := (⟨fun k => k < w.heap.size, fun k => k < w.heap.size, no, ⟨Below.refl _ _, rfl⟩, fun _ h => h, fun _ _ h => h, fun k => by simp⟩)
theorem St.old {w0 : World} (h : St w (Old w0 :: L)) : Below w0.heap.size w0 w := by
 obtain ⟨S, h, _⟩ := h.hd
 exact h
/-- how a value of a kind lies in cells -/
structure Enc (α : Type) where
 cells : α → List Value
 n : Nat
 len : ∀ x, (cells x).length = n
 one : ∀ x, ∀ u ∈ cells x, u.oneCell' = true
def Enc.all {α : Type} (E : Enc α) (xs : List α) : List Value := xs.flatMap E.cells
theorem Enc.all_len {α : Type} (E : Enc α) : ∀ xs : List α, (E.all xs).length = xs.length * E.n
 | [] => by simp [Enc.all]
 | x :: r => by
   have := E.all_len r
   simp only [Enc.all, List.flatMap_cons, List.length_append, E.len, List.length_cons] at this ⊢
   rw [this, Nat.add_mul]; omega
theorem Enc.all_one {α : Type} (E : Enc α) (xs : List α) : ∀ u ∈ E.all xs, u.oneCell' = true := by
 intro u hu
 obtain ⟨x, _, hx⟩ := List.mem_flatMap.1 hu
 exact E.one x u hx
theorem Enc.all_app {α : Type} (E : Enc α) (xs ys : List α) : E.all (xs ++ ys) = E.all xs ++ E.all ys := by simp [Enc.all]
theorem Enc.all_one1 {α : Type} (E : Enc α) (x : α) : E.all [x] = E.cells x := by simp [Enc.all]
theorem Enc.at {α : Type} (E : Enc α) : ∀ {xs : List α} {j : Nat} {x : α}, xs[j]? = some x → ∀ {i : Nat} {u : Value}, (E.cells x)[i]? = some u → (E.all xs)[j * E.n + i]? = some u
 | [], j, x, h, _, _, _ => by simp at h
 | a :: r, 0, x, h, i, u, hu => by
   simp only [List.getElem?_cons_zero, Option.some.injEq] at h
   subst h
   simp only [Enc.all, List.flatMap_cons, Nat.zero_mul, Nat.zero_add]
   rw [List.getElem?_append_left (List.getElem?_eq_some_iff.1 hu).1]; exact hu
 | a :: r, j + 1, x, h, i, u, hu => by
   have h2 := E.at (xs := r) (j := j) (by simpa using h) hu
   have e : (j + 1) * E.n + i = (E.cells a).length + (j * E.n + i) := by rw [E.len, Nat.add_mul]; omega
   show (E.cells a ++ E.all r)[_]? = _
   rw [e, List.getElem?_append_right (Nat.le_add_right _ _), Nat.add_sub_cancel_left]
   exact h2
theorem addr_add (a : Addr) (i j : Nat) : (a.add i).add j = a.add (i + j) := by
 unfold Addr.add
 split <;> split <;> simp_all <;> omega
/-- a slice can be read: these are its elements -/
def Has {α : Type} (E : Enc α) (w : World) (l : Sl) (xs : List α) : Prop :=
 l.len = xs.length ∧ ∀ j x, xs[j]? = some x → ∃ a, l.a = some a ∧ ∀ i u, (E.cells x)[i]? = some u → w.cell? (a.add (j * E.n + i)) = some u
/-- a slice with a row of its own -/
def Row {α : Type} (E : Enc α) (t : TypeId) (l : Sl) (xs : List α) : As where
 p := fun w S => Own w t E.n l (E.all xs) ∧ S = l.bk
 lt := fun ⟨h, e⟩ k hk => by subst e; exact h.lt hk
 keep := fun ⟨h, e⟩ hf => ⟨h.keep hf (fun k hk hn => hn (by subst e; exact hk)), e⟩
section
variable {α : Type} {En : Enc α} {t : TypeId} {l : Sl} {xs : List α}
theorem St.own (h : St w (Row En t l xs :: L)) : Own w t En.n l (En.all xs) := by
 obtain ⟨S, h, _⟩ := h.hd
 exact h
theorem Has.of_own (hn : 0 < En.n) (h : Own w t En.n l (En.all xs)) : Has En w l xs := by
 refine ⟨?_, fun j x hx => ?_⟩
 · have := h.len
   rw [En.all_len] at this
   exact (Nat.eq_of_mul_eq_mul_right hn this).symm
 · have h0 : (En.cells x)[0]? = some ((En.cells x)[0]'(by rw [En.len]; exact hn)) := by simp [En.len, hn]
   obtain ⟨a, ha, _⟩ := h.cell (En.at hx h0)
   refine ⟨a, ha, fun i u hu => ?_⟩
   obtain ⟨a', ha', hc⟩ := h.cell (En.at hx hu)
   rw [ha] at ha'
   injection ha' with ha'
   subst ha'
   exact hc
theorem St.has (h : St w (Row En t l xs :: L)) (hn : 0 < En.n) : Has En w l xs := Has.of_own hn h.own
theorem Has.at (h : Has En w l xs) {j : Nat} (hj : j < xs.length) : ∃ a, l.a = some a ∧ j < l.len ∧ ∀ i u, (En.cells xs[j])[i]? = some u → w.cell? ((a.add (j * En.n)).add i) = some u := by
 obtain ⟨a, ha, hc⟩ := h.2 j xs[j] (by simp [hj])
 exact ⟨a, ha, by rw [h.1]; exact hj, fun i u hu => by rw [addr_add]; exact hc i u hu⟩
theorem addr_add0 (a : Addr) : a.add 0 = a := by unfold Addr.add; split <;> simp_all
/-- a literal -/
theorem St.lit {g : Nat} {cs : List Value} (h : St w (Cs g cs t :: L)) {n : Nat} (hn : n = xs.length) (hc : cs = En.all xs) (c : Nat) : Has En w ⟨some (blk g), n, c⟩ xs :=
 ⟨hn, fun j x hx => ⟨blk g, rfl, fun i u hu => by rw [h.cell, hc]; exact En.at hx hu⟩⟩
theorem St.rowLit {g : Nat} {cs : List Value} {t : TypeId} (h : St w (Cs g cs t :: L)) {n : Nat} (hn : n = xs.length) (hc : cs = En.all xs) (hm : n ≤ 1000000000) : St w (Row En t ⟨some (blk g), n, n⟩ xs :: L) :=
 h.as fun S ⟨hb, e⟩ => by
   have hl : cs.length = n * En.n := by rw [hc, En.all_len, hn]
   refine ⟨⟨by rw [En.all_len, hn], .inr ⟨g, n, ⟨cs⟩, rfl, Nat.zero_le _, hb, Nat.le_refl _, by simp only [maxLen]; omega, hl, ?_⟩⟩, ?_⟩
   · rw [← hc]
     show cs.take (n * En.n) = cs
     rw [← hl, List.take_length]
   · subst e
     funext k
     exact propext ⟨fun hk => ⟨blk g, rfl, Eq.symm hk⟩, fun ⟨a, ha, hk⟩ => by injection ha with ha; subst ha; exact hk.symm⟩
theorem St.row0 (h : St w L) (En : Enc α) (t : TypeId) : St w (Row En t ⟨none, 0, 0⟩ [] :: L) :=
 h.add (S := (⟨none, 0, 0⟩ : Sl).bk) ⟨Own.nil _ _ _, rfl⟩ (Fr.refl _ _) (fun k hk => by obtain ⟨a, ha, _⟩ := hk; cases ha)
/-- the kinds of a slice's elements -/
structure Elt (P : Program) (ts t : TypeId) (n bytes : Nat) : Prop where
 und : P.underlying ts = some (.slice t)
 info : ∃ i z, P.info? t = some i ∧ i.zero = some z ∧ i.size = n ∧ i.bytes = bytes ∧ z.cells.size = n
 pos : 0 < n
/-- append to a row of its own -/
theorem St.app {P : Program} {ts ty : TypeId} {bytes : Nat} (hE : Elt P ts t En.n bytes) (h : St w (Row En t l xs :: L)) {sl : Sl} {ys : List α} (hs : Has En w sl ys) {a : Addr} (ha : sl.a = some a)
   (hb : (xs.length + ys.length) * bytes ≤ 140737488355328) (hb2 : xs.length + ys.length ≤ 4611686018427387904) {R : Sl → World → Prop}
   (hR : ∀ l' w', St w' (Row En t l' (xs ++ ys) :: L) → l'.len = xs.length + ys.length → R l' w') :
   RunT P (Builtin.append_ #[ts, ts] ty #[.slice l.a l.len l.cap, .slice (some a) sl.len sl.cap]) [.one .slice] w R := by
 obtain ⟨i, z, hi, hz, h1, h2, h3⟩ := hE.info
 have hl := (h.has hE.pos).1
 obtain ⟨S, ⟨hO, e⟩, hlt, hX⟩ := h.out
 subst e
 refine runT_append hE.und hi hz h1 h2 h3 hE.pos hO (m := sl.len) (news := En.all ys) (by rw [En.all_len, hs.1]) (fun j u hu => ?_) (En.all_one ys) (by rw [hl, hs.1]; simp only [maxLen]; omega) (by rw [hl, hs.1]; exact hb) fun l' w' ho hl' hf hm => ?_
 · have hj : j < ys.length * En.n := by rw [← En.all_len]; exact (List.getElem?_eq_some_iff.1 hu).1
   have hd : j / En.n < ys.length := (Nat.div_lt_iff_lt_mul hE.pos).2 hj
   have hm := Nat.mod_lt j hE.pos
   have hx : ys[j / En.n]? = some ys[j / En.n] := by simp [hd]
   have hc0 : (En.cells ys[j / En.n])[j % En.n]? = some ((En.cells ys[j / En.n])[j % En.n]'(by rw [En.len]; exact hm)) := by simp [En.len, hm]
   have e1 := En.at hx hc0
   have e2 : j / En.n * En.n + j % En.n = j := by rw [Nat.mul_comm]; exact Nat.div_add_mod j En.n
   rw [e2, hu] at e1
   obtain ⟨a', ha', hc⟩ := hs.2 _ _ hx
   rw [ha] at ha'
   injection ha' with ha'
   subst ha'
   have := hc _ _ hc0
   rw [e2] at this
   rw [this, e1]
 · rw [← En.all_app] at ho
   refine hR l' w' (hX ⟨ho, rfl⟩ hf fun k hk => ?_) (by rw [hl', hl, hs.1])
   obtain ⟨a', ha', rfl⟩ := hk
   rcases hm with hm | ⟨g, hm, hg⟩
   · exact .inl ⟨a', by rw [← hm]; exact ha', rfl⟩
   · rw [hm] at ha'; injection ha' with ha'; subst ha'; exact .inr hg
end
end
/-! ### Loops that count -/
def Cnt (N : Nat) (I : Nat → World → Prop) : Int → World → Prop := fun n w => ∃ i : Nat, n = i ∧ i ≤ N ∧ I i w
def cntM (N : Nat) : Int → World → Nat := fun n _ => ((N : Int) - n).toNat
theorem Cnt.zero {N : Nat} {I : Nat → World → Prop} {w : World} (h : I 0 w) : Cnt N I 0 w := ⟨0, rfl, Nat.zero_le _, h⟩
theorem w64_succ {i : Nat} (h : i < 4611686018427387904) : w64 ((i : Int) + 1) = ((i + 1 : Nat) : Int) := by rw [w64_id (by omega) (by omega)]; omega
theorem Cnt.next {N i : Nat} {I : Nat → World → Prop} {w w' : World} (hi : i < N) (hN : N ≤ 4611686018427387904) (h : I (i + 1) w') : Cnt N I (w64 ((i : Int) + 1)) w' ∧ cntM N (w64 ((i : Int) + 1)) w' < cntM N (i : Int) w := by
 rw [w64_succ (by omega)]
 refine ⟨⟨i + 1, rfl, hi, h⟩, ?_⟩
 show ((N : Int) - ((i + 1 : Nat) : Int)).toNat < ((N : Int) - (i : Int)).toNat
 omega
/-! ### Blocks that are made and filled -/
/-! ### Regions that draw -/
/-- the blocks of these intervals, but some, are as they were -/
def Fz (ivs : List (Nat × Nat)) (us : List Nat) (w0 : World) : As where
 p := fun w S => w0.heap.size ≤ w.heap.size ∧ (∀ k, S k → k < w.heap.size ∧ w.heap[k]? = w0.heap[k]?) ∧ S = fun k => inIv ivs k ∧ k ∉ us
 lt := fun ⟨_, h, _⟩ k hk => (h k hk).1
 keep := fun ⟨h0, h, e⟩ hf => ⟨Nat.le_trans h0 hf.size, fun k hk => ⟨Nat.lt_of_lt_of_le (h k hk).1 hf.size, (hf.block k (h k hk).1 (fun hn => hn hk)).trans (h k hk).2⟩, e⟩
section
variable {w w' : World} {L X : List As} {ivs : List (Nat × Nat)} {us : List Nat}
theorem St.fz (h : St w L) : St w (Fz [] [] w :: L) :=
 h.add (S := fun k => inIv [] k ∧ k ∉ ([] : List Nat)) ⟨Nat.le_refl _, fun k hk => hk.1.elim, rfl⟩ (Fr.refl _ _) (fun k hk => hk.1.elim)
theorem St.iv0 (h : St w (Fz ivs us w :: L)) (hB : Below w.heap.size w w') : St w' (Fz ((w.heap.size, w'.heap.size) :: ivs) us w' :: L) := by
 obtain ⟨S, ⟨_, hS, e⟩, hlt, hX⟩ := h.out
 subst e
 refine hX (S' := fun k => inIv ((w.heap.size, w'.heap.size) :: ivs) k ∧ k ∉ us) ⟨Nat.le_refl _, fun k hk => ⟨?_, rfl⟩, rfl⟩ ⟨hB.os, hB.tape, hB.output, hB.size, fun k hk _ => hB.block k hk⟩ fun k hk => ?_
 · rcases hk.1 with h | h
   · exact h.2
   · exact Nat.lt_of_lt_of_le (hlt k ⟨h, hk.2⟩) hB.size
 · rcases hk.1 with h | h
   · exact .inr h.1
   · exact .inl ⟨h, hk.2⟩
theorem St.iv (h : St w (Fz ivs us w :: L)) (hB : Below w.heap.size w w') {g : Nat} (hg : inIv ((w.heap.size, w'.heap.size) :: ivs) g) (hn : g ∉ us) {cs : List Value} {t : TypeId} (ho : w'.heap[g]? = some (.cells ⟨cs⟩ t (0, 0))) :
   St w' (Fz ((w.heap.size, w'.heap.size) :: ivs) (g :: us) w' :: Cs g cs t :: L) := by
 obtain ⟨T, a, b, ⟨h0, h1, h2⟩, hb, hd, hs⟩ := h.iv0 hB
 subst h2
 refine ⟨T, fun k => inIv ((w.heap.size, w'.heap.size) :: ivs) k ∧ k ∉ g :: us, fun k => k = g ∨ b k, ⟨h0, fun k hk => h1 k ⟨hk.1, fun hm => hk.2 (List.mem_cons_of_mem _ hm)⟩, rfl⟩, ⟨(· = g), b, ⟨ho, rfl⟩, hb, fun k hk hbk => ?_, fun k => Iff.rfl⟩, fun k hk hor => ?_, fun k => ?_⟩
 · have : k = g := hk
   subst this
   exact hd k ⟨hg, hn⟩ hbk
 · rcases hor with h | h
   · subst h; exact hk.2 (List.mem_cons_self ..)
   · exact hd k ⟨hk.1, fun hm => hk.2 (List.mem_cons_of_mem _ hm)⟩ h
 · rw [hs k]
   by_cases hk : k = g
   · subst hk; simp [hg, hn]
   · simp [hk]
theorem St.kp {w0 : World} (h : St w (Fz ivs us w0 :: X)) : Keep ivs us w0 w ∧ St w (Fz ivs us w :: X) := by
 obtain ⟨S, ⟨h0, h1, e⟩⟩ := h.hd
 refine ⟨⟨h0, fun g hg hn => (h1 g (by subst e; exact ⟨hg, hn⟩)).2⟩, h.as fun S ⟨h0, h1, e⟩ => ⟨Nat.le_refl _, fun k hk => ⟨(h1 k hk).1, rfl⟩, e⟩⟩
theorem St.two {A B : As} (h : St w (A :: B :: L)) : ∃ a b : Nat → Prop, A.p w a ∧ B.p w b ∧ ∀ k, a k → ¬ b k := by
 obtain ⟨S, a, b, ha, ⟨c, d, hc, hd, h1, h2⟩, h3, h4⟩ := h
 exact ⟨a, c, ha, hc, fun k hk hck => h3 k hk ((h2 k).2 (.inl hck))⟩
end
end Go.Vc
namespace Go.Vc
open Go
section
variable {w : World} {L : List As} {g : Nat} {cs : List Value} {t : TypeId}
theorem St.al (h : St w L) {P : World → Prop} (hP : ∀ w', St w' (Cs w.heap.size cs t :: L) → P w') : alC w (.cells ⟨cs⟩ t) P := hP _ (h.new cs t)
theorem St.dr (h : St w L) {P : World → Prop} (hP : ∀ w', St w' L → P w') : drC w P := hP _ h.drew
theorem St.st0 (h : St w (Cs g cs t :: L)) {v : Value} (hj : 0 < cs.length) {P : World → Prop} (hP : ∀ w', St w' (Cs g (cs.set 0 v) t :: L) → P w') : stC w (blk g) v P := ⟨h.wr0 hj, hP _ (h.set0 v)⟩
theorem St.st (h : St w (Cs g cs t :: L)) {v : Value} {j : Nat} (hj : j < cs.length) {P : World → Prop} (hP : ∀ w', St w' (Cs g (cs.set j v) t :: L) → P w') : stC w ((blk g).add j) v P := ⟨h.wr hj, hP _ (h.set j v)⟩
theorem St.fill2 {a b x y : Value} {r : List Value} (h : St w (Cs g (a :: b :: r) t :: L)) {P : World → Prop} (hP : ∀ w', St w' (Cs g (x :: y :: r) t :: L) → P w') : stC w (blk g) x fun w1 => stC w1 ((blk g).add 1) y P :=
 h.st0 (Nat.succ_pos _) fun w1 h1 => St.st (cs := x :: b :: r) h1 (by simp) hP
theorem St.fill3 {a b c x y z : Value} {r : List Value} (h : St w (Cs g (a :: b :: c :: r) t :: L)) {P : World → Prop} (hP : ∀ w', St w' (Cs g (x :: y :: z :: r) t :: L) → P w') : stC w (blk g) x fun w1 => stC w1 ((blk g).add 1) y fun w2 => stC w2 ((blk g).add 2) z P :=
 h.fill2 fun w2 h2 => St.st (cs := x :: y :: c :: r) h2 (by simp) hP
theorem St.fill4 {a b c d x y z u : Value} {r : List Value} (h : St w (Cs g (a :: b :: c :: d :: r) t :: L)) {P : World → Prop} (hP : ∀ w', St w' (Cs g (x :: y :: z :: u :: r) t :: L) → P w') : stC w (blk g) x fun w1 => stC w1 ((blk g).add 1) y fun w2 => stC w2 ((blk g).add 2) z fun w3 => stC w3 ((blk g).add 3) u P :=
 h.fill3 fun w3 h3 => St.st (cs := x :: y :: z :: d :: r) h3 (by simp) hP
end
theorem add_add (a : Addr) (i j : Nat) : (a.add i).add j = a.add (i + j) := by
 unfold Addr.add
 by_cases hi : i = 0
 · subst hi; simp
 · by_cases hj : j = 0
   · subst hj; simp
   · have : ¬ i + j = 0 := by omega
     simp [hi, hj, Nat.add_assoc]
theorem blk_add2 (g i j : Nat) : ((blk g).add i).add j = (blk g).add (i + j) := add_add _ _ _
theorem StP.mid {A : As} {L : List As} {w : World} : ∀ (l : List As) {S : Nat → Prop}, StP (l ++ A :: L) w S → StP (A :: (l ++ L)) w S
 | [], _, h => h
 | B :: l, _, h => StP.swap (StP.cons (fun _ => StP.mid l) h)
theorem St.upx {A : As} {L : List As} {w : World} (l : List As) (h : St w (l ++ A :: L)) : St w (A :: (l ++ L)) := by
 obtain ⟨S, h⟩ := h
 exact ⟨S, StP.mid l h⟩
theorem St.up7 {w : World} {A0 A1 A2 A3 A4 A5 A6 A7 : As} {L : List As} (h : St w (A0 :: A1 :: A2 :: A3 :: A4 :: A5 :: A6 :: A7 :: L)) : St w (A7 :: A0 :: A1 :: A2 :: A3 :: A4 :: A5 :: A6 :: L) := St.upx [A0, A1, A2, A3, A4, A5, A6] h
theorem St.up8 {w : World} {A0 A1 A2 A3 A4 A5 A6 A7 A8 : As} {L : List As} (h : St w (A0 :: A1 :: A2 :: A3 :: A4 :: A5 :: A6 :: A7 :: A8 :: L)) : St w (A8 :: A0 :: A1 :: A2 :: A3 :: A4 :: A5 :: A6 :: A7 :: L) := St.upx [A0, A1, A2, A3, A4, A5, A6, A7] h
theorem St.up9 {w : World} {A0 A1 A2 A3 A4 A5 A6 A7 A8 A9 : As} {L : List As} (h : St w (A0 :: A1 :: A2 :: A3 :: A4 :: A5 :: A6 :: A7 :: A8 :: A9 :: L)) : St w (A9 :: A0 :: A1 :: A2 :: A3 :: A4 :: A5 :: A6 :: A7 :: A8 :: L) := St.upx [A0, A1, A2, A3, A4, A5, A6, A7, A8] h
theorem St.up10 {w : World} {A0 A1 A2 A3 A4 A5 A6 A7 A8 A9 A10 : As} {L : List As} (h : St w (A0 :: A1 :: A2 :: A3 :: A4 :: A5 :: A6 :: A7 :: A8 :: A9 :: A10 :: L)) : St w (A10 :: A0 :: A1 :: A2 :: A3 :: A4 :: A5 :: A6 :: A7 :: A8 :: A9 :: L) := St.upx [A0, A1, A2, A3, A4, A5, A6, A7, A8, A9] h
theorem St.up11 {w : World} {A0 A1 A2 A3 A4 A5 A6 A7 A8 A9 A10 A11 : As} {L : List As} (h : St w (A0 :: A1 :: A2 :: A3 :: A4 :: A5 :: A6 :: A7 :: A8 :: A9 :: A10 :: A11 :: L)) : St w (A11 :: A0 :: A1 :: A2 :: A3 :: A4 :: A5 :: A6 :: A7 :: A8 :: A9 :: A10 :: L) := St.upx [A0, A1, A2, A3, A4, A5, A6, A7, A8, A9, A10] h
end Go.Vc
