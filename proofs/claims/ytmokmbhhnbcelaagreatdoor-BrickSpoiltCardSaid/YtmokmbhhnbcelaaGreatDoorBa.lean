/- words on numbers, texts and slices that the heads and the disk need. -/
import Derived.Test.YtmokmbhhnbcelaaGreatDoorOv
set_option linter.unusedVariables false
namespace Go.Proofs.YtmokmbhhnbcelaaGreatDoor
open Go Go.Vc Go.RowKit Go.Lib

theorem dw_nil {α : Type} {p : α → Bool} : ∀ {l : List α}, l.dropWhile p = [] ↔ ∀ x ∈ l, p x = true
  | [] => by simp
  | a :: r => by
    rw [List.dropWhile_cons]
    split
    · rename_i h
      rw [dw_nil (l := r)]
      simp [h]
    · rename_i h
      simp [h]

theorem tw_mem {α : Type} {p : α → Bool} {x : α} : ∀ {l : List α}, x ∈ l.takeWhile p → p x = true
  | [], h => by simp at h
  | a :: r, h => by
    rw [List.takeWhile_cons] at h
    split at h
    · rename_i ha
      rcases List.mem_cons.1 h with rfl | h
      · exact ha
      · exact tw_mem h
    · simp at h

theorem trim_nil {set l : List UInt8} : trim set l = [] ↔ l.all (fun b => set.contains b) = true := by
  unfold trim trimL
  rw [dw_nil]
  simp only [List.mem_reverse]
  constructor
  · intro h
    rw [List.all_eq_true]
    intro x hx
    have h3 := List.takeWhile_append_dropWhile (p := fun b => set.contains b) (l := l.reverse)
    have hx' : x ∈ l.reverse := List.mem_reverse.2 hx
    rw [← h3] at hx'
    rcases List.mem_append.1 hx' with h4 | h4
    · exact tw_mem (p := fun b => set.contains b) h4
    · exact h x h4
  · intro h x hx
    exact List.all_eq_true.1 h x (List.mem_reverse.1 ((List.dropWhile_sublist _).mem hx))

theorem lay1_ok {size : Nat} {v : Int} {bs : List UInt8} (h : fitsN size v = true) : lay1 size v (bs, 0) = (bs ++ leBytes size v, 0) := by simp [lay1, layL, h]

theorem add_add (a : Addr) (i j : Nat) : (a.add i).add j = a.add (i + j) := by
  unfold Addr.add
  by_cases hi : i = 0
  · subst hi; simp
  · by_cases hj : j = 0
    · subst hj; simp
    · have : ¬ i + j = 0 := by omega
      simp [hi, hj, Nat.add_assoc]

theorem rawIn_left (n : Int) (l : List UInt8) (e : Int) : (rawIn n l e).2.1.length ≤ l.length := by
  unfold rawIn
  split
  · exact Nat.le_refl _
  split
  · exact Nat.le_refl _
  split
  · exact Nat.le_refl _
  · simp

theorem lowIn_left (n : Nat) (l : List UInt8) (e : Int) : (lowIn n l e).2.1.length ≤ l.length := by
  unfold lowIn
  simp only
  split <;> exact rawIn_left _ _ _

theorem lowIn_bound (n : Nat) (l : List UInt8) (e : Int) (hn : n ≤ 7) : 0 ≤ (lowIn n l e).1 ∧ (lowIn n l e).1 < 256 ^ n := by
  have h1 := leVal_lt (rawIn n l e).1
  have h2 : 256 ^ (rawIn n l e).1.length ≤ 256 ^ n := Nat.pow_le_pow_right (by decide) (rawIn_len n l e)
  have h3 : (256 : Nat) ^ n ≤ 256 ^ 7 := Nat.pow_le_pow_right (by decide) hn
  have h4 : (256 : Nat) ^ 7 = 72057594037927936 := by decide
  have h5 : ((256 : Int) ^ n) = ((256 ^ n : Nat) : Int) := by rw [Int.natCast_pow]; rfl
  unfold lowIn
  simp only
  rw [if_pos (by omega), h5]
  omega

theorem slA0 (a : Option Addr) (cap size : Nat) : slA a cap 0 size = a := by
  unfold slA
  split
  · rfl
  · cases a with
    | none => rfl
    | some x => simp [Addr.add]

theorem slA_ne {g cap l size : Nat} (h : cap ≠ l) : slA (some (blk g)) cap l size = some ⟨g, l * size, none⟩ := by
  simp [slA, h, add_blk]

theorem Own.row {w : World} {t : TypeId} {size : Nat} {l : Sl} {xs : List Value} (h : Own w t size l xs) (hn : l.len ≠ 0) :
    ∃ g cur, l.a = some (blk g) ∧ w.heap[g]? = some (.cells ⟨cur⟩ t (0, 0)) ∧ cur.length = l.cap * size ∧ cur.take (l.len * size) = xs ∧ l.len ≤ l.cap ∧ l.cap ≤ maxLen := by
  rcases h.2 with ⟨h2, h0⟩ | ⟨g, cap, cur, hv, hb, hg, hnc, hcm, hcs, htk⟩
  · exact absurd h0 hn
  · simp only [Value.slice.injEq] at hv
    obtain ⟨h1, _, h3⟩ := hv
    subst h3
    exact ⟨g, cur.toList, h1, hg, by simpa using hcs, htk, hnc, hcm⟩

theorem Own.of {w : World} {t : TypeId} {size : Nat} {g n cap : Nat} {cur : List Value} (hg : w.heap[g]? = some (.cells ⟨cur⟩ t (0, 0))) (hc : cur.length = cap * size) (hn : n ≤ cap) (hm : cap ≤ maxLen) : Own w t size ⟨some (blk g), n, cap⟩ (cur.take (n * size)) :=
  ⟨by rw [List.length_take, hc]; exact Nat.min_eq_left (Nat.mul_le_mul_right _ hn), .inr ⟨g, cap, ⟨cur⟩, rfl, Nat.zero_le _, hg, hn, hm, by simpa using hc, rfl⟩⟩

theorem Own.pre {w : World} {t : TypeId} {size : Nat} {l : Sl} {xs : List Value} (h : Own w t size l xs) {i : Nat} (hi : i ≤ l.len) (hn : l.len ≠ 0) : Own w t size ⟨l.a, i, l.cap⟩ (xs.take (i * size)) := by
  obtain ⟨g, cur, ha, hg, hc, ht, hlc, hm⟩ := Own.row h hn
  rw [ha, ← ht, List.take_take, Nat.min_eq_left (Nat.mul_le_mul_right _ hi)]
  exact Own.of hg hc (Nat.le_trans hi hlc) hm

theorem Own.isNil {w : World} {t : TypeId} {size : Nat} {l : Sl} {xs : List Value} (h : Own w t size l xs) (ha : l.a = none) : l = ⟨none, 0, 0⟩ ∧ xs = [] := by
  rcases h.2 with ⟨h2, h0⟩ | ⟨g, cap, cur, hv, _⟩
  · simp only [Value.slice.injEq] at h2
    refine ⟨by cases l; simp_all, List.eq_nil_of_length_eq_zero (by have := h.1; rw [h0] at this; simpa using this)⟩
  · simp only [Value.slice.injEq] at hv
    rw [ha] at hv; cases hv.1

theorem und_int : Pg.underlying T.y_int = some (.int .i64) := by kernel_rfl

/-- the texts of a slice -/
def Texts (w : World) (sl : Sl) (ts : List (List UInt8)) : Prop := sl.len = ts.length ∧ ∀ j t, ts[j]? = some t → ∃ a, sl.a = some a ∧ w.cell? (a.add (j * 1)) = some (.string (tx t))

theorem Texts.below {w w' : World} {sl : Sl} {ts : List (List UInt8)} (h : Texts w sl ts) (hw : Below w.heap.size w w') : Texts w' sl ts :=
  ⟨h.1, fun j n hj => by
    obtain ⟨a, ha, h1⟩ := h.2 j n hj
    exact ⟨a, ha, by rw [hw.cell (World.block_lt_of_cell? w _ h1)]; exact h1⟩⟩

def textCells (ts : List (List UInt8)) : List Value := ts.map fun t => .string (tx t)

theorem textCells_one (ts : List (List UInt8)) : ∀ u ∈ textCells ts, u.oneCell' = true := by
  intro u hu
  simp only [textCells, List.mem_map] at hu
  obtain ⟨_, _, rfl⟩ := hu
  rfl

theorem und_strs : Pg.underlying T.y_sl_string = some (.slice T.y_string) := by kernel_rfl

theorem info_str : ∃ i, Pg.info? T.y_string = some i ∧ i.zero = some (.string sNil) ∧ i.size = 1 ∧ i.bytes = 16 := by
  have h : (Pg.info? T.y_string).map (fun i => (i.zero, i.size, i.bytes)) = some (some (.string sNil), 1, 16) := by kernel_rfl
  obtain ⟨i, hi, h2⟩ := Option.map_eq_some_iff.1 h
  simp only [Prod.mk.injEq] at h2
  exact ⟨i, hi, h2.1, h2.2.1, h2.2.2⟩

theorem Own.texts {w : World} {l : Sl} {ts : List (List UInt8)} (h : Own w T.y_string 1 l (textCells ts)) : Texts w l ts := by
  refine ⟨by have := h.len; simp [textCells] at this; omega, fun j t hj => ?_⟩
  obtain ⟨a, ha, hc⟩ := h.cell (j := j) (u := .string (tx t)) (by simp [textCells, hj])
  exact ⟨a, ha, by rw [Nat.mul_one]; exact hc⟩

theorem Texts.cell {w : World} {sl : Sl} {ts : List (List UInt8)} (h : Texts w sl ts) {a : Addr} (ha : sl.a = some a) : ∀ j u, (textCells ts)[j]? = some u → w.cell? (a.add j) = some u := by
  intro j u hu
  simp only [textCells, List.getElem?_map, Option.map_eq_some_iff] at hu
  obtain ⟨t, ht, rfl⟩ := hu
  obtain ⟨a', ha', hc⟩ := h.2 j t ht
  rw [ha] at ha'
  injection ha' with ha'
  subst ha'
  rwa [Nat.mul_one] at hc

/-- a nil slice is the nil slice -/
def NilOk (s : Sl) : Prop := s.a = none → s = ⟨none, 0, 0⟩

theorem bk_nil {P : Prop} {k : Nat} (h : (⟨none, 0, 0⟩ : Sl).bk k) : P := by obtain ⟨a, ha, _⟩ := h; cases ha

end Go.Proofs.YtmokmbhhnbcelaaGreatDoor
