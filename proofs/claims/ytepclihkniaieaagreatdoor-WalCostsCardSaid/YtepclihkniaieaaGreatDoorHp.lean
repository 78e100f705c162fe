/- Words on memory: what a call leaves as it was, what a slice owns, appends, single blocks. -/
import Derived.Test.YtepclihkniaieaaGreatDoorVc
import Derived.Laws.IdiomStrings
import Derived.Laws.OwnMore
import Derived.Lib.AppendStr
set_option linter.unusedVariables false
namespace Go.Vc
open Go Go.RowKit Go.Lib

/-! ### What a call leaves as it was, and what a slice owns -/

/-- of what was there, all but the blocks of S is as it was -/
structure Fr (S : Nat → Prop) (w w' : World) : Prop where
  os : w'.os = w.os
  tape : w'.tape = w.tape
  output : w'.output = w.output
  size : w.heap.size ≤ w'.heap.size
  block : ∀ k, k < w.heap.size → ¬ S k → w'.heap[k]? = w.heap[k]?

theorem Fr.refl (S : Nat → Prop) (w : World) : Fr S w w := ⟨rfl, rfl, rfl, Nat.le_refl _, fun _ _ _ => rfl⟩

theorem Fr.trans {S S' : Nat → Prop} {a b c : World} (h : Fr S a b) (k : Fr S' b c) (hS : ∀ i, i < a.heap.size → S' i → S i) : Fr S a c :=
  ⟨k.os.trans h.os, k.tape.trans h.tape, k.output.trans h.output, Nat.le_trans h.size k.size,
    fun i hi hn => (k.block i (Nat.lt_of_lt_of_le hi h.size) (fun hs => hn (hS i hi hs))).trans (h.block i hi hn)⟩

theorem Fr.mono {S S' : Nat → Prop} {w w' : World} (h : Fr S w w') (hS : ∀ i, i < w.heap.size → S i → S' i) : Fr S' w w' :=
  ⟨h.os, h.tape, h.output, h.size, fun k hk hn => h.block k hk (fun hs => hn (hS k hk hs))⟩

theorem Fr.alloc (S : Nat → Prop) (w : World) (o : Obj) : Fr S w (w.alloc o) := ⟨rfl, rfl, rfl, by simp, fun k hk _ => Below.heap_alloc w o k hk⟩
theorem Fr.drew (S : Nat → Prop) (w : World) : Fr S w w.drew := ⟨rfl, rfl, rfl, Nat.le_refl _, fun _ _ _ => rfl⟩
theorem Fr.setCell {S : Nat → Prop} (w : World) {p : Addr} (hp : S p.block) (u : Value) : Fr S w (w.setCell p u) :=
  ⟨rfl, rfl, rfl, by simp [World.setCell], fun k _ hn => Below.heap_setCell _ _ _ _ (fun h => hn (h ▸ hp))⟩
theorem Fr.grown {S : Nat → Prop} {w w' : World} {row : Option Nat} (hg : w.grownBy w' row) (hr : ∀ k, row = some k → S k) : Fr S w w' :=
  ⟨hg.os, hg.tape, hg.output, hg.size, fun k hk hn => hg.block k hk (fun h => hn (hr k h.symm))⟩
theorem Fr.below {B : Nat} {w w' : World} (h : Below B w w') : Fr (fun k => B ≤ k) w w' := ⟨h.os, h.tape, h.output, h.size, fun k _ hn => h.block k (by omega)⟩
theorem Fr.toBelow {S : Nat → Prop} {B : Nat} {w w' : World} (h : Fr S w w') (hS : ∀ k, S k → B ≤ k) (hB : B ≤ w.heap.size) : Below B w w' :=
  ⟨h.os, h.tape, h.output, h.size, fun k hk => h.block k (by omega) (fun hs => by have := hS k hs; omega)⟩
theorem Fr.cell {S : Nat → Prop} {w w' : World} (h : Fr S w w') {p : Addr} {v : Value} (hc : w.cell? p = some v) (hn : ¬ S p.block) : w'.cell? p = some v := by
  rw [World.cell?_of_block (h.block p.block (World.block_lt_of_cell? w p hc) hn)]; exact hc

/-- nothing at all is turned -/
abbrev no : Nat → Prop := fun _ => False

/-- a slice that has a row of its own, and its elements' cells -/
def Own (w : World) (t : TypeId) (size : Nat) (l : Sl) (xs : List Value) : Prop := w.ownsRow 0 t size (.slice l.a l.len l.cap) l.len xs

/-- the block of a slice -/
def Sl.bk (l : Sl) : Nat → Prop := fun k => ∃ a, l.a = some a ∧ a.block = k

/-- the new one stands where the old one stood, or in new memory -/
def Moved (w : World) (l l' : Sl) : Prop := l'.a = l.a ∨ ∃ g, l'.a = some (blk g) ∧ w.heap.size ≤ g

theorem Own.nil (w : World) (t : TypeId) (size : Nat) : Own w t size ⟨none, 0, 0⟩ [] := World.ownsRow_nil w 0 t size

theorem Own.keep {w w' : World} {t : TypeId} {size : Nat} {l : Sl} {xs : List Value} (h : Own w t size l xs) {S : Nat → Prop} (hf : Fr S w w') (hn : ∀ k, l.bk k → ¬ S k) : Own w' t size l xs := by
  refine ⟨h.1, ?_⟩
  rcases h.2 with h2 | ⟨g, cap, cur, hv, hb, hg, r⟩
  · exact .inl h2
  · refine .inr ⟨g, cap, cur, hv, hb, ?_, r⟩
    simp only [Value.slice.injEq] at hv
    rw [hf.block g (Array.getElem?_eq_some_iff.1 hg).1 (hn g ⟨_, hv.1, rfl⟩)]
    exact hg

theorem Own.lt {w : World} {t : TypeId} {size : Nat} {l : Sl} {xs : List Value} (h : Own w t size l xs) {k : Nat} (hk : l.bk k) : k < w.heap.size := by
  obtain ⟨a, ha, rfl⟩ := hk
  exact (World.ownsRow.lt h a.block (by simp [Value.ownBlock, ha])).2

theorem Own.len {w : World} {t : TypeId} {size : Nat} {l : Sl} {xs : List Value} (h : Own w t size l xs) : xs.length = l.len * size := h.1

/-- a literal of one element -/
theorem Own.lit {w : World} {g : Nat} {t : TypeId} {v : Value} (h : w.heap[g]? = some (.cells ⟨[v]⟩ t (0, 0))) : Own w t 1 ⟨some (blk g), 1, 1⟩ [v] :=
  ⟨rfl, .inr ⟨g, 1, ⟨[v]⟩, rfl, Nat.zero_le _, h, Nat.le_refl _, by simp [maxLen], rfl, rfl⟩⟩

theorem heap_new (w : World) (o : Obj) : (w.alloc o).heap[w.heap.size]? = some o := heap_alloc_new w o

theorem add_blk (g n : Nat) : (blk g).add n = ⟨g, n, none⟩ := by unfold Addr.add; split <;> simp_all

/-- the cell of an element -/
theorem Own.cell {w : World} {t : TypeId} {size : Nat} {l : Sl} {xs : List Value} (h : Own w t size l xs) {j : Nat} {u : Value} (hj : xs[j]? = some u) : ∃ a, l.a = some a ∧ w.cell? (a.add j) = some u := by
  rcases h.2 with ⟨h2, hn⟩ | ⟨g, cap, cur, hv, hb, hg, r⟩
  · exfalso
    have := h.1
    rw [hn] at this
    have : xs = [] := List.eq_nil_of_length_eq_zero (by simpa using this)
    subst this
    simp at hj
  · simp only [Value.slice.injEq] at hv
    refine ⟨blk g, hv.1, ?_⟩
    exact World.ownsRow.cells h (g := g) (by rw [hv.1]; rfl) j u hj

theorem Own.none {w : World} {t : TypeId} {size : Nat} {l : Sl} {xs : List Value} (h : Own w t size l xs) (hl : l.len ≠ 0) : ∃ g, l.a = some (blk g) := by
  rcases h.2 with ⟨h2, hn⟩ | ⟨g, cap, cur, hv, _⟩
  · exact absurd hn hl
  · simp only [Value.slice.injEq] at hv
    exact ⟨g, hv.1⟩

section
variable {P : Program} {w : World}

theorem runT_slice {s : Sem Value} {R : Sl → World → Prop} {l : Sl} {w' : World} (h : s.run P w = .ok (.slice l.a l.len l.cap) w') (hR : R l w') : RunT P s [.one .slice] w R := ⟨l, w', h, hR⟩

theorem fr_of_grown {l : Sl} {w' : World} (hg : w.grownBy w' (Value.slice l.a l.len l.cap).ownBlock) : Fr l.bk w w' := Fr.grown hg fun k hk => by
  cases ha : l.a with
  | none => simp [Value.ownBlock, ha] at hk
  | some a => simp only [Value.ownBlock, ha, Option.some.injEq] at hk; exact ⟨a, ha, hk⟩

/-- append to a slice with a row of its own -/
theorem runT_append {t ty e : TypeId} {i : TypeInfo} {z : Value} {size bytes : Nat} (ht : P.underlying t = some (.slice e)) (hi : P.info? e = some i) (hz : i.zero = some z)
    (hsize : i.size = size) (hby : i.bytes = bytes) (hzs : z.cells.size = size) (hsz : 0 < size) {l : Sl} {xs : List Value} (hown : Own w e size l xs)
    {a : Addr} {m c : Nat} {news : List Value} (hl : news.length = m * size) (hnews : ∀ j u, news[j]? = some u → w.cell? (a.add j) = some u) (h1 : ∀ u ∈ news, u.oneCell' = true)
    (h63 : l.len + m ≤ maxLen) (hbytes : (l.len + m) * bytes ≤ 140737488355328) {R : Sl → World → Prop}
    (hR : ∀ l' w', Own w' e size l' (xs ++ news) → l'.len = l.len + m → Fr l.bk w w' → Moved w l l' → R l' w') :
    RunT P (Builtin.append_ #[t, t] ty #[.slice l.a l.len l.cap, .slice (some a) m c]) [.one .slice] w R := by
  obtain ⟨v', w', hr, ho, hg, hn⟩ := run_append_own (P := P) w 0 t ty e i z size bytes ht hi hz hsize hby hzs hsz _ l.len xs hown a m c news hl hnews h1 h63 hbytes (Nat.zero_le _)
  subst hsize
  subst hby
  have hsmall : l.len + m ≤ 9223372036854775807 := by simp only [maxLen] at h63; omega
  have key : ∃ l' : Sl, v' = .slice l'.a l'.len l'.cap ∧ l'.len = l.len + m ∧ Moved w l l' := by
    rcases hown.2 with ⟨h2, h0⟩ | ⟨g, cap, cur, h2, hbg, hgg, hnc, hcm, hcs, htake⟩
    · simp only [Value.slice.injEq] at h2
      obtain ⟨ha, hl0, hc0⟩ := h2
      by_cases hm : m = 0
      · exact ⟨⟨none, 0, 0⟩, hn.2 ⟨by rw [ha, hl0, hc0], hm⟩, by simp [hl0, hm], .inl ha.symm⟩
      · have h3 := run_append_nil (P := P) w t ty e i z ht hi hz a m c news hl hnews (by omega) (by omega) (by rw [hl0] at hbytes; simp only [Nat.zero_add] at hbytes; omega)
        rw [ha, hl0, hc0] at hr
        rw [h3] at hr
        injection hr with hr _
        exact ⟨⟨some (blk w.heap.size), m, _⟩, hr.symm, by simp [hl0], .inr ⟨_, rfl, Nat.le_refl _⟩⟩
    · simp only [Value.slice.injEq] at h2
      obtain ⟨ha, _, hc0⟩ := h2
      by_cases hroom : l.len + m ≤ l.cap
      · have hfit : l.len * i.size + news.length ≤ cur.size := by rw [hl, hcs, ← Nat.add_mul, ← hc0]; exact Nat.mul_le_mul_right _ hroom
        have h3 := run_append_room (P := P) w t ty e i ht hi g l.len l.cap cur hgg a m c news hl hnews h1 hroom hfit
        rw [ha] at hr
        rw [h3] at hr
        injection hr with hr _
        exact ⟨⟨some (blk g), l.len + m, l.cap⟩, hr.symm, rfl, .inl ha.symm⟩
      · have holds : ∀ j u, xs[j]? = some u → w.cell? ((⟨g, 0, none⟩ : Addr).add j) = some u := World.ownsRow.cells hown (g := g) (by rw [ha]; rfl)
        have h3 := run_append_grow (P := P) w t ty e i z ht hi hz ⟨g, 0, none⟩ l.len l.cap xs hown.1 holds a m c news hl hnews (by omega) (by omega) (growslice_fits (by omega) hbytes)
        rw [ha] at hr
        rw [h3] at hr
        injection hr with hr _
        exact ⟨⟨some (blk w.heap.size), l.len + m, _⟩, hr.symm, rfl, .inr ⟨_, rfl, Nat.le_refl _⟩⟩
  obtain ⟨l', rfl, hlen, hmv⟩ := key
  exact runT_slice hr (hR l' w' (by unfold Own; rw [← hlen] at ho; exact ho) hlen (fr_of_grown hg) hmv)

/-- append of a string's bytes -/
theorem runT_append_str {t u ty e : TypeId} {i : TypeInfo} (ht : P.underlying t = some (.slice e)) (hu : P.underlying u = some .string) (hi : P.info? e = some i) (hz : i.zero = some (.int .u8 0))
    (hsize : i.size = 1) (hby : i.bytes = 1) {l : Sl} {xs : List Value} (hown : Own w e 1 l xs) {s : ByteArray}
    (h63 : l.len + s.size ≤ maxLen) (hbytes : l.len + s.size ≤ 140737488355328) {R : Sl → World → Prop}
    (hR : ∀ l' w', Own w' e 1 l' (xs ++ strCells s) → l'.len = l.len + s.size → Fr l.bk w w' → Moved w l l' → R l' w') :
    RunT P (Builtin.append_ #[t, u] ty #[.slice l.a l.len l.cap, .string s]) [.one .slice] w R := by
  obtain ⟨v', w', hr, ho, hg, hn⟩ := run_append_own_string (P := P) w 0 t u ty e i ht hu hi hz hsize hby _ l.len xs hown s h63 hbytes (Nat.zero_le _)
  have hsmall : l.len + s.size ≤ 9223372036854775807 := by simp only [maxLen] at h63; omega
  have key : ∃ l' : Sl, v' = .slice l'.a l'.len l'.cap ∧ l'.len = l.len + s.size ∧ Moved w l l' := by
    rcases hown.2 with ⟨h2, h0⟩ | ⟨g, cap, cur, h2, hbg, hgg, hnc, hcm, hcs, htake⟩
    · simp only [Value.slice.injEq] at h2
      obtain ⟨ha, hl0, hc0⟩ := h2
      by_cases hm : s.size = 0
      · exact ⟨⟨none, 0, 0⟩, hn.2 ⟨by rw [ha, hl0, hc0], hm⟩, by simp [hl0, hm], .inl ha.symm⟩
      · have h3 := run_append_nil_string (P := P) w t u ty e i _ ht hu hi hz s (by omega) (by omega) (by rw [hby]; omega)
        rw [ha, hl0, hc0] at hr
        rw [h3] at hr
        injection hr with hr _
        exact ⟨⟨some (blk w.heap.size), s.size, _⟩, hr.symm, by simp [hl0], .inr ⟨_, rfl, Nat.le_refl _⟩⟩
    · simp only [Value.slice.injEq] at h2
      obtain ⟨ha, _, hc0⟩ := h2
      by_cases hroom : l.len + s.size ≤ l.cap
      · have hcs' : cur.size = cap := by simpa using hcs
        have h3 := run_append_room_string (P := P) w t u ty e i ht hu hi hsize g l.len l.cap cur hgg s hroom (by omega)
        rw [ha] at hr
        rw [h3] at hr
        injection hr with hr _
        exact ⟨⟨some (blk g), l.len + s.size, l.cap⟩, hr.symm, rfl, .inl ha.symm⟩
      · have holds : ∀ j u, xs[j]? = some u → w.cell? ((⟨g, 0, none⟩ : Addr).add j) = some u := World.ownsRow.cells hown (g := g) (by rw [ha]; rfl)
        have hxl : xs.length = l.len := by simpa using hown.1
        have h3 := run_append_grow_string (P := P) w t u ty e i _ ht hu hi hz ⟨g, 0, none⟩ l.len l.cap xs (by rw [hsize]; simpa using hxl) holds s (by omega) (by omega) (by rw [hby]; exact growslice_fits (by omega) (by omega))
        rw [ha] at hr
        rw [h3] at hr
        injection hr with hr _
        exact ⟨⟨some (blk w.heap.size), l.len + s.size, _⟩, hr.symm, rfl, .inr ⟨_, rfl, Nat.le_refl _⟩⟩
  obtain ⟨l', rfl, hlen, hmv⟩ := key
  exact runT_slice hr (hR l' w' (by unfold Own; rw [← hlen] at ho; exact ho) hlen (fr_of_grown hg) hmv)
end
end Go.Vc
namespace Go.Vc
open Go Go.RowKit Go.Lib

/-! ### Numbers -/

theorem w64_id {x : Int} (h1 : -9223372036854775808 ≤ x) (h2 : x < 9223372036854775808) : w64 x = x := by
  have e : w64 x = if x % 18446744073709551616 ≥ 9223372036854775808 then x % 18446744073709551616 - 18446744073709551616 else x % 18446744073709551616 := by
    simp [w64, IntKind.wrap, IntKind.bits, IntKind.signed]
  rw [e]
  split <;> omega

theorem wr8 (x : Int) : wr .u8 x = x % 256 := by
  simp [wr, IntKind.wrap, IntKind.bits, IntKind.signed]

/-! ### A block that is known whole -/

section
variable {w : World} {g : Nat} {cs : List Value} {t : TypeId}

theorem blk_cell (h : w.heap[g]? = some (.cells ⟨cs⟩ t (0, 0))) (j : Nat) : w.cell? ((blk g).add j) = cs[j]? := by
  rw [add_blk, cell_of_row w g j ⟨cs⟩ t (0, 0) h]; simp
theorem blk_cell0 (h : w.heap[g]? = some (.cells ⟨cs⟩ t (0, 0))) : w.cell? (blk g) = cs[0]? := by
  rw [cell_of_row w g 0 ⟨cs⟩ t (0, 0) h]; simp

theorem blk_wr (h : w.heap[g]? = some (.cells ⟨cs⟩ t (0, 0))) {j : Nat} (hj : j < cs.length) : Wr w ((blk g).add j) :=
  ⟨⟨cs[j], by rw [blk_cell h]; simp [hj]⟩, by rw [add_blk]; exact frozen_of_row w g j ⟨cs⟩ t h⟩
theorem blk_wr0 (h : w.heap[g]? = some (.cells ⟨cs⟩ t (0, 0))) (hj : 0 < cs.length) : Wr w (blk g) :=
  ⟨⟨cs[0], by rw [blk_cell0 h]; simp [hj]⟩, frozen_of_row w g 0 ⟨cs⟩ t h⟩

theorem blk_set (h : w.heap[g]? = some (.cells ⟨cs⟩ t (0, 0))) (j : Nat) (v : Value) : (w.setCell ((blk g).add j) v).heap[g]? = some (.cells ⟨cs.set j v⟩ t (0, 0)) := by
  rw [add_blk, heap_setCell_same w g j ⟨cs⟩ t v h]
  simp [List.setIfInBounds_toArray]
theorem blk_set0 (h : w.heap[g]? = some (.cells ⟨cs⟩ t (0, 0))) (v : Value) : (w.setCell (blk g) v).heap[g]? = some (.cells ⟨cs.set 0 v⟩ t (0, 0)) := by
  rw [heap_setCell_same w g 0 ⟨cs⟩ t v h]
  simp [List.setIfInBounds_toArray]

theorem fr_set (w : World) (g j : Nat) (v : Value) : Fr (· = g) w (w.setCell ((blk g).add j) v) := Fr.setCell w (by rw [add_blk]) v
theorem fr_set0 (w : World) (g : Nat) (v : Value) : Fr (· = g) w (w.setCell (blk g) v) := Fr.setCell (S := (· = g)) w rfl v

theorem heap_lt {o : Obj} (h : w.heap[g]? = some o) : g < w.heap.size := (Array.getElem?_eq_some_iff.1 h).1

theorem Fr.heap {S : Nat → Prop} {w w' : World} (h : Fr S w w') {o : Obj} (ho : w.heap[g]? = some o) (hn : ¬ S g) : w'.heap[g]? = some o := by
  rw [h.block g (heap_lt ho) hn]; exact ho
end

theorem drew_heap (w : World) : w.drew.heap = w.heap := rfl
theorem drew_cell (w : World) (a : Addr) : w.drew.cell? a = w.cell? a := rfl

section
variable {P : Program} {w : World}

/-- bytes as a text -/
theorem runT_bytes_str {src dst e : TypeId} (hs : P.underlying src = some (.slice e)) (he : P.underlying e = some (.int .u8)) (hd : P.underlying dst = some .string) {l : Sl} {bs : List UInt8}
    (h : Own w e 1 l (bs.map fun b => Value.int .u8 b.toNat)) {R : ByteArray → World → Prop} (hR : R ⟨bs.toArray⟩ w) : RunT P (convert src dst (.slice l.a l.len l.cap)) [.one .str] w R := by
  have hl : bs.length = l.len := by simpa using h.1
  refine ⟨⟨bs.toArray⟩, w, ?_, hR⟩
  rcases h.2 with ⟨h2, hn⟩ | ⟨g, cap, cur, hv, hb, hg, r⟩
  · simp only [Value.slice.injEq] at h2
    obtain ⟨h1, h2, h3⟩ := h2
    rw [hn] at hl
    have : bs = [] := List.eq_nil_of_length_eq_zero hl
    subst this
    rw [h1, h2, h3, run_convert_bytes_string w src dst e none 0 0 hs he hd]
    simp [Conv.bytesToString, resV, SV.vs, packs, Sh.sv, SV.v]
    rfl
  · simp only [Value.slice.injEq] at hv
    have := run_convert_bytes_back (P := P) w src dst e (blk g) l.cap bs hs he hd (fun j hj => by
      have := World.ownsRow.cells h (g := g) (by rw [hv.1]; rfl) j (.int .u8 (bs[j].toNat : Int)) (by simp [hj])
      exact this)
    rw [hl] at this
    rw [hv.1]
    exact this

/-- a slice that is made -/
theorem runT_make {t e : TypeId} {i : TypeInfo} {z : Value} {size : Nat} (ht : P.underlying t = some (.slice e)) (hi : P.info? e = some i) (hz : i.zero = some z) (hsize : i.size = size)
    {n : Nat} (hbytes : i.bytes * n ≤ 281474976710656) (h63 : n ≤ maxLen) {R : Sl → World → Prop}
    (hR : ∀ w', Own w' e size ⟨some (blk w.heap.size), n, n⟩ (madeCells z.cells (n * size)).toList → Fr no w w' → w.heap.size < w'.heap.size → R ⟨some (blk w.heap.size), n, n⟩ w') :
    RunT P (Instr.makeSlice t (.int .i64 (n : Int)) (.int .i64 (n : Int))) [.one .slice] w R := by
  obtain ⟨w', hr, ho, hg⟩ := run_make_full (P := P) w 0 t e i z size ht hi hz hsize .i64 .i64 n hbytes h63 (Nat.zero_le _)
  exact runT_slice (l := ⟨some (blk w.heap.size), n, n⟩) hr (hR w' ho (Fr.grown hg (fun k hk => by cases hk)) (World.ownsRow.lt ho _ rfl).2)
end
/-! ### Texts as lists of bytes -/

def tx (l : List UInt8) : ByteArray := ⟨l.toArray⟩

theorem tx_self (s : ByteArray) : tx s.data.toList = s := by simp [tx]
theorem tx_data (l : List UInt8) : (tx l).data.toList = l := by simp [tx]
theorem tx_size (l : List UInt8) : (tx l).size = l.length := by simp [tx, ByteArray.size]
theorem tx_app (a b : List UInt8) : tx a ++ tx b = tx (a ++ b) := by
  apply ByteArray.ext
  simp [tx]
theorem tx_ext (l : List UInt8) (a b : Nat) : (tx l).extract a b = tx ((l.drop a).take (b - a)) := by
  apply ByteArray.ext
  simp [tx, ByteArray.data_extract]
theorem tx_nil : sNil = tx [] := rfl
theorem tx_eq (a b : List UInt8) : sEq (tx a) (tx b) = decide (a = b) := by simp [sEq, tx_data]
theorem tx_lt (a b : List UInt8) : sLt (tx a) (tx b) = Op.bytesLess a b := by simp [sLt, tx_data]
theorem tx_at (l : List UInt8) (i : Nat) : sAt (tx l) i = ((l.getD i 0).toNat : Int) := by simp [sAt, tx_data]
theorem tx_inj {a b : List UInt8} (h : tx a = tx b) : a = b := by
  have := congrArg (fun s : ByteArray => s.data.toList) h
  simpa [tx_data] using this
/-- a text's bytes as a slice -/
theorem runT_str_bytes {P : Program} {w : World} {src dst e : TypeId} (hs : P.underlying src = some .string) (hd : P.underlying dst = some (.slice e)) (he : P.underlying e = some (.int .u8)) {l : List UInt8} {R : Sl → World → Prop}
    (hR : ∀ cap w', Fr no w w' → w.heap.size < w'.heap.size → (∀ j b, l[j]? = some b → w'.cell? ((blk w.heap.size).add j) = some (.int .u8 (b.toNat : Int))) → R ⟨some (blk w.heap.size), l.length, cap⟩ w') :
    RunT P (convert src dst (.string (tx l))) [.one .slice] w R := by
  have h := run_bytes_of_string (P := P) w src dst e (tx l) hs hd he
  rw [tx_size] at h
  refine runT_slice (l := ⟨some (blk w.heap.size), l.length, _⟩) h (hR _ _ ((Fr.drew _ w).trans (Fr.alloc no _ _) (fun _ _ h => h)) (by simp) (fun j b hj => ?_))
  rw [add_blk]
  rw [cell_of_row _ w.heap.size j _ e _ (heap_alloc_new w.drew _)]
  have hlt : j < l.length := (List.getElem?_eq_some_iff.1 hj).1
  unfold bytesRow tx
  rw [Array.getElem?_append_left (by simpa using hlt)]
  simp [hj]

theorem strCells_tx (l : List UInt8) : strCells (tx l) = l.map fun b => Value.int .u8 b.toNat := by simp [strCells, tx_data]

end Go.Vc
namespace Go.Vc
open Go Go.RowKit Go.Lib
section
variable {P : Program} {w : World}

/-- append of zeros to a slice that has no room for them: a new row -/
theorem runT_append_zeros {t ti ty e : TypeId} {i : TypeInfo} {z : Value} {size bytes : Nat} (ht : P.underlying t = some (.slice e)) (hti : P.underlying ti = some (.int .i64)) (hi : P.info? e = some i) (hz : i.zero = some z)
    (hsize : i.size = size) (hby : i.bytes = bytes) (hzs : z.cells.size = size) (hsz : 0 < size) (hb0 : 0 < bytes) {l : Sl} {xs : List Value} (hown : Own w e size l xs)
    {m : Nat} (hm : 0 < m) (hbytes : (l.len + m) * bytes ≤ 140737488355328) (hno : l.cap < l.len + m) {R : Sl → World → Prop}
    (hR : ∀ cap w', Own w' e size ⟨some (blk w.heap.size), l.len + m, cap⟩ (xs ++ (Builtin.zeroCells z.cells m).toList) → Fr no w w' → w.heap.size < w'.heap.size → R ⟨some (blk w.heap.size), l.len + m, cap⟩ w') :
    RunT P (Builtin.append_ #[t, ti] ty #[.slice l.a l.len l.cap, .int .i64 (m : Int)]) [.one .slice] w R := by
  subst hsize
  subst hby
  have hle : l.len + m ≤ 140737488355328 := Nat.le_trans (Nat.le_mul_of_pos_right _ hb0) hbytes
  have h63 : l.len + m ≤ maxLen := by simp only [maxLen]; omega
  have hw : IntKind.i64.wrap (m : Int) = m := by rw [IntKind.wrap_i64]; omega
  have hneg : ¬ ((m : Int) < 0) := by omega
  have hmb : m * i.bytes ≤ 140737488355328 := Nat.le_trans (Nat.mul_le_mul_right _ (Nat.le_add_left m l.len)) hbytes
  have hbig : ¬ (281474976710656 < (m : Int) * (i.bytes : Int)) := by rw [← Int.natCast_mul]; omega
  have hsn : i.size ≠ 0 := by omega
  have hl : (Builtin.zeroCells z.cells m).toList.length = m * i.size := by rw [Array.length_toList, size_zeroCells, hzs]
  have hlen : (xs ++ (Builtin.zeroCells z.cells m).toList).length = (l.len + m) * i.size := by rw [List.length_append, hown.1, hl, Nat.add_mul]
  have hge := grownCap_ge w (l.len + m) l.cap e
  have hcm : grownCap w (l.len + m) l.cap e ≤ maxLen := grownCap_le_maxLen w (l.len + m) l.cap e h63
  have hfo : (Builtin.firstCells i.size l.len (.slice l.a l.len l.cap)).run P w.drew = .ok xs.toArray w.drew := by
    rcases hown.2 with ⟨h2, h0⟩ | ⟨g, cap, cur, h2, hbg, hg, r⟩
    · simp only [Value.slice.injEq] at h2
      have hx : xs = [] := List.eq_nil_of_length_eq_zero (by have := hown.1; rw [h0] at this; simpa using this)
      rw [h2.1, h0, hx]
      simp [Builtin.firstCells]
    · simp only [Value.slice.injEq] at h2
      have holds : ∀ j u, xs[j]? = some u → w.cell? ((⟨g, 0, none⟩ : Addr).add j) = some u := World.ownsRow.cells hown (g := g) (by rw [h2.1]; rfl)
      rw [h2.1]
      exact run_firstCells_some (P := P) w.drew i.size l.len _ l.len l.cap xs hown.1 (by simpa using holds)
  have hn : ¬ (l.len + m ≤ l.cap) := by omega
  have h63' : ¬ (9223372036854775807 < ((l.len : Int) + (m : Int))) := by omega
  have hfit := growslice_fits hno hbytes
  have h48' : ¬ (281474976710656 < Builtin.nextslicecap (l.len + m) l.cap * i.bytes) := by omega
  have hmz : ¬ (m * i.size = 0) := Nat.mul_ne_zero (by omega) hsn
  have hr : (Builtin.append_ #[t, ti] ty #[.slice l.a l.len l.cap, .int .i64 (m : Int)]).run P w =
      .ok (.slice (some ⟨w.heap.size, 0, none⟩) (l.len + m) (grownCap w (l.len + m) l.cap e)) (w.drew.alloc (.cells (xs.toArray ++ Builtin.zeroCells z.cells m ++ Builtin.zeroCells z.cells (grownCap w (l.len + m) l.cap e - (l.len + m))) e)) := by
    simp [Builtin.append_, run_underlying ht, run_underlying hti, sizeOf, typeInfo, zeroValue, hi, hz, asInt, asIntOf, hw, hneg, hbig, hn, h63', h48', Question.forced, hfo, newRow, grownCap, hmz]
  refine runT_slice (l := ⟨some (blk w.heap.size), l.len + m, _⟩) hr (hR _ _ ⟨hlen, .inr ⟨w.heap.size, _, _, rfl, Nat.zero_le _, heap_alloc_new w.drew _, hge, hcm, ?_, ?_⟩⟩ ((Fr.drew no _).trans (Fr.alloc no _ _) (fun _ _ h => h)) (by simp))
  · simp only [Array.size_append, List.size_toArray, size_zeroCells, hzs, hown.1, ← Nat.add_mul]
    congr 1
    have h2 : ∀ x y : Nat, x ≤ y → x + (y - x) = y := fun x y h => by omega
    exact h2 _ _ hge
  · simp only [Array.toList_append, List.append_assoc]
    rw [← List.append_assoc, ← hlen]
    exact List.take_left

/-- copy into a row that is known whole -/
theorem runT_copy {dT sT ty elem : TypeId} {i : TypeInfo} (hu : P.underlying dT = some (.slice elem)) (hi : P.info? elem = some i) {size : Nat} (hsize : i.size = size) {g o dLen dCap : Nat} {a : Addr} {sLen sCap : Nat} {cur : List Value} {t : TypeId} {cs : List Value}
    (hg : w.heap[g]? = some (.cells ⟨cur⟩ t (0, 0))) (hn : cs.length = Nat.min sLen dLen * size)
    (hsrc : ∀ j v, cs[j]? = some v → w.cell? (a.add j) = some v) (hfit : o + cs.length ≤ cur.length) (h1 : ∀ v ∈ cs, v.oneCell' = true) {R : Int → World → Prop}
    (hR : ∀ w', w'.heap[g]? = some (.cells ⟨cur.take o ++ cs ++ cur.drop (o + cs.length)⟩ t (0, 0)) → Fr (· = g) w w' → w'.heap.size = w.heap.size → R (Nat.min sLen dLen : Nat) w') :
    RunT P (Builtin.copy_ #[dT, sT] ty #[.slice (some ⟨g, o, none⟩) dLen dCap, .slice (some a) sLen sCap]) [.one (.int .i64)] w R := by
  subst hsize
  have hl := run_firstCells_some (P := P) w i.size (Nat.min sLen dLen) a sLen sCap cs hn hsrc
  have hst := run_storeCells_at P g o t cs 0 ⟨cur⟩ w hg (by simpa using hfit) h1
  have hr : (Builtin.copy_ #[dT, sT] ty #[.slice (some ⟨g, o, none⟩) dLen dCap, .slice (some a) sLen sCap]).run P w = .ok (goInt (Nat.min sLen dLen)) (w.setRow g (cur.take o ++ cs ++ cur.drop (o + cs.length)).toArray) := by
    simp only [Nat.add_zero] at hst
    simp [Builtin.copy_, run_underlying hu, Builtin.lenOf, sizeOf, typeInfo, hi, hl, hst]
  refine ⟨((Nat.min sLen dLen : Nat) : Int), _, hr, hR _ (setRow_heap w g ⟨cur⟩ _ t _ hg) ⟨rfl, rfl, rfl, by simp [World.setRow], fun k _ hk => setRow_other w g k _ hk⟩ (by simp [World.setRow])⟩
end
end Go.Vc
