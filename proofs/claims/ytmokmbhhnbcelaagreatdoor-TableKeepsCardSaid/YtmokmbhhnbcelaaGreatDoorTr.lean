/- table.Read: names out of bytes. -/
import Derived.Test.YtmokmbhhnbcelaaGreatDoorTf
set_option linter.unusedVariables false
namespace Go.Proofs.YtmokmbhhnbcelaaGreatDoor
open Go Go.Vc Go.RowKit Go.Lib

theorem und_names : Pg.underlying T.y_sl_table_Name = some (.slice T.y_table_Name) := by kernel_rfl
theorem info_name : ∃ i, Pg.info? T.y_table_Name = some i ∧ i.zero = some (.agg #[.string sNil, .int .i64 0]) ∧ i.size = 2 ∧ i.bytes = 24 := by
  have h : (Pg.info? T.y_table_Name).map (fun i => (i.zero, i.size, i.bytes)) = some (some (.agg #[.string sNil, .int .i64 0]), 2, 24) := by kernel_rfl
  obtain ⟨i, hi, h2⟩ := Option.map_eq_some_iff.1 h
  simp only [Prod.mk.injEq] at h2
  exact ⟨i, hi, h2.1, h2.2.1, h2.2.2⟩

def nameCells (ns : List (List UInt8 × Int)) : List Value := ns.flatMap fun n => [.string (tx n.1), .int .i64 n.2]

theorem nameCells_len (ns : List (List UInt8 × Int)) : (nameCells ns).length = ns.length * 2 := by
  induction ns with
  | nil => rfl
  | cons a r ih => simp only [nameCells, List.flatMap_cons, List.length_append, List.length_cons, List.length_nil] at ih ⊢; omega

theorem nameCells_at : ∀ (ns : List (List UInt8 × Int)) (j : Nat) (n : List UInt8 × Int), ns[j]? = some n → (nameCells ns)[j * 2]? = some (.string (tx n.1)) ∧ (nameCells ns)[j * 2 + 1]? = some (.int .i64 n.2)
  | [], j, n, h => by simp at h
  | a :: r, 0, n, h => by
    simp only [List.getElem?_cons_zero, Option.some.injEq] at h
    subst h
    exact ⟨rfl, rfl⟩
  | a :: r, j + 1, n, h => by
    have := nameCells_at r j n (by simpa using h)
    have e : nameCells (a :: r) = [.string (tx a.1), .int .i64 a.2] ++ nameCells r := rfl
    rw [e, List.getElem?_append_right (by simp; omega), List.getElem?_append_right (by simp; omega)]
    have e1 : (j + 1) * 2 - [Value.string (tx a.1), Value.int .i64 a.2].length = j * 2 := by simp; omega
    have e2 : (j + 1) * 2 + 1 - [Value.string (tx a.1), Value.int .i64 a.2].length = j * 2 + 1 := by simp; omega
    rw [e1, e2]
    exact this

theorem add_add_t (a : Addr) (i j : Nat) : (a.add i).add j = a.add (i + j) := by
  unfold Addr.add
  by_cases hi : i = 0
  · subst hi; simp
  · by_cases hj : j = 0
    · subst hj; simp
    · have : ¬ i + j = 0 := by omega
      simp [hi, hj, Nat.add_assoc]

theorem Own.names {w : World} {l : Sl} {ns : List (List UInt8 × Int)} (h : Own w T.y_table_Name 2 l (nameCells ns)) : Names w l ns := by
  refine ⟨by have := h.len; rw [nameCells_len] at this; omega, fun j n hj => ?_⟩
  obtain ⟨h1, h2⟩ := nameCells_at ns j n hj
  obtain ⟨a, ha, hc⟩ := h.cell h1
  obtain ⟨a', ha', hc'⟩ := h.cell h2
  rw [ha] at ha'
  injection ha' with ha'
  subst ha'
  exact ⟨a, ha, hc, by rw [add_add_t]; exact hc'⟩

/-- one name is read -/
def name1In (l : List UInt8) (e : Int) : (List UInt8 × Int) × List UInt8 × Int :=
  let a := lowIn 1 l e
  let b := rawIn a.1 a.2.1 a.2.2
  let c := lowIn 2 b.2.1 b.2.2
  ((b.1, c.1), c.2.1, c.2.2)

def namesIn : Nat → List UInt8 × Int → List (List UInt8 × Int) × List UInt8 × Int
  | 0, x => ([], x.1, x.2)
  | n + 1, x =>
    let a := namesIn n x
    let b := name1In a.2.1 a.2.2
    (a.1 ++ [b.1], b.2.1, b.2.2)

def readNames (b : List UInt8) : List (List UInt8 × Int) × Int :=
  let n := lowIn 1 b 0
  let r := namesIn n.1.toNat (n.2.1, n.2.2)
  let e := endIn r.2.1 r.2.2
  if e ≠ 0 then ([], e) else if (layNames r.1).2 ≠ 0 then ([], 6) else if (layNames r.1).1 ≠ b then ([], 6) else (r.1, 0)

theorem rawIn_left_t (n : Int) (l : List UInt8) (e : Int) : (rawIn n l e).2.1.length ≤ l.length := by
  unfold rawIn
  split
  · exact Nat.le_refl _
  split
  · exact Nat.le_refl _
  split
  · exact Nat.le_refl _
  · simp
theorem rawIn_len1_t (n : Int) (l : List UInt8) (e : Int) : (rawIn n l e).1.length ≤ l.length := by
  unfold rawIn
  split
  · simp
  split
  · simp
  split
  · simp
  · simp; omega
theorem lowIn_left_t (n : Nat) (l : List UInt8) (e : Int) : (lowIn n l e).2.1.length ≤ l.length := by
  unfold lowIn
  simp only
  split <;> exact rawIn_left_t _ _ _
theorem lowIn_bound_t (n : Nat) (l : List UInt8) (e : Int) (hn : n ≤ 7) : 0 ≤ (lowIn n l e).1 ∧ (lowIn n l e).1 < 256 ^ n := by
  have h1 := leVal_lt (rawIn n l e).1
  have h2 : 256 ^ (rawIn n l e).1.length ≤ 256 ^ n := Nat.pow_le_pow_right (by decide) (rawIn_len n l e)
  have h3 : (256 : Nat) ^ n ≤ 256 ^ 7 := Nat.pow_le_pow_right (by decide) hn
  have h4 : (256 : Nat) ^ 7 = 72057594037927936 := by decide
  have h5 : ((256 : Int) ^ n) = ((256 ^ n : Nat) : Int) := by rw [Int.natCast_pow]; rfl
  unfold lowIn
  simp only
  rw [if_pos (by omega), h5]
  omega

theorem namesIn_left : ∀ (n : Nat) (x : List UInt8 × Int), (namesIn n x).2.1.length ≤ x.1.length
  | 0, x => Nat.le_refl _
  | n + 1, x => by
    have := namesIn_left n x
    simp only [namesIn, name1In]
    exact Nat.le_trans (lowIn_left_t _ _ _) (Nat.le_trans (rawIn_left_t _ _ _) (Nat.le_trans (lowIn_left_t _ _ _) this))
theorem namesIn_len : ∀ (n : Nat) (x : List UInt8 × Int), (namesIn n x).1.length = n
  | 0, x => rfl
  | n + 1, x => by simp [namesIn, namesIn_len n x]
theorem namesIn_names : ∀ (n : Nat) (x : List UInt8 × Int), ∀ y ∈ (namesIn n x).1, y.1.length ≤ x.1.length
  | 0, x, y, hy => by simp [namesIn] at hy
  | n + 1, x, y, hy => by
    simp only [namesIn, List.mem_append, List.mem_singleton] at hy
    rcases hy with hy | hy
    · exact namesIn_names n x y hy
    · subst hy
      simp only [name1In]
      exact Nat.le_trans (rawIn_len1_t _ _ _) (Nat.le_trans (lowIn_left_t _ _ _) (namesIn_left n x))

theorem Read_spec {w : World} {b : List UInt8} (hb : b.length ≤ 1000000000000) {R : Sl → Int → World → Prop}
    (hR : ∀ l w', Own w' T.y_table_Name 2 l (nameCells (readNames b).1) → (∀ k, l.bk k → w.heap.size ≤ k) → Below w.heap.size w w' → R l (readNames b).2 w') : F.table_Read (tx b) w R := by
  obtain ⟨i, hi, hz, hs1, hby⟩ := info_name
  apply E.table_Read
  unfold V.table_Read
  refine On_spec fun w1 hI1 hF1 hsz1 => ?_
  have hg : w.heap.size = w.heap.size := rfl
  generalize hgg : w.heap.size = g at hI1 hsz1 hg
  have toB : ∀ {x y : World}, Fr (· = g) x y → g ≤ x.heap.size → Below w.heap.size x y := fun h hx => h.toBelow (fun k hk => by subst hk; omega) (by omega)
  have hB1 : Below w.heap.size w w1 := below_fr hF1
  refine E.bits_In_Byte (In_low (size := 1) hI1 (by omega) (by decide) fun w2 hI2 hF2 => ?_)
  have hs2 := hF2.size
  have hB2 := hB1.trans (toB hF2 (by omega))
  have hnb := lowIn_bound_t 1 b 0 (by decide)
  have hlb := lowIn_left_t 1 b 0
  have hrd : readNames b = (let n := lowIn 1 b 0
      let r := namesIn n.1.toNat (n.2.1, n.2.2)
      let e := endIn r.2.1 r.2.2
      if e ≠ 0 then ([], e) else if (layNames r.1).2 ≠ 0 then ([], 6) else if (layNames r.1).1 ≠ b then ([], 6) else (r.1, 0)) := rfl
  generalize lowIn 1 b 0 = low at hI2 hnb hlb hrd
  obtain ⟨nn, b1, e1⟩ := low
  simp only at hI2 hnb hlb hrd ⊢
  obtain ⟨N, rfl⟩ : ∃ N : Nat, nn = N := ⟨nn.toNat, by omega⟩
  have hN : N < 256 := by have : (256 : Int) ^ 1 = 256 := by decide
                          omega
  rw [Int.toNat_natCast] at hrd
  refine ⟨fun out n w' => ∃ m : Nat, n = m ∧ m ≤ N ∧ InAt w' g (namesIn m (b1, e1)).2.1 (namesIn m (b1, e1)).2.2 ∧ Own w' T.y_table_Name 2 out (nameCells (namesIn m (b1, e1)).1) ∧ (∀ k, out.bk k → g < k) ∧ Below w.heap.size w w' ∧ g < w'.heap.size,
    fun _ n _ => (N - n).toNat, ⟨0, rfl, Nat.zero_le _, hI2, Own.nil _ _ _, fun k hk => (by obtain ⟨a, ha, _⟩ := hk; cases ha), hB2, by omega⟩, ?_⟩
  rintro out n w3 ⟨m, rfl, hm, hI3, hO3, hk3, hB3, hg3⟩
  have hnl := namesIn_left m (b1, e1)
  have hnln := namesIn_len m (b1, e1)
  refine ⟨fun hlt => ?_, fun hge => ?_⟩
  · have hlt : m < N := by have := of_decide_eq_true hlt; omega
    have e1' : w64 ((m : Int) + 1) = ((m + 1 : Nat) : Int) := by rw [w64_id (by omega) (by omega)]; omega
    have hstep : namesIn (m + 1) (b1, e1) = ((namesIn m (b1, e1)).1 ++ [(name1In (namesIn m (b1, e1)).2.1 (namesIn m (b1, e1)).2.2).1], (name1In (namesIn m (b1, e1)).2.1 (namesIn m (b1, e1)).2.2).2.1, (name1In (namesIn m (b1, e1)).2.1 (namesIn m (b1, e1)).2.2).2.2) := rfl
    generalize namesIn m (b1, e1) = st at hI3 hO3 hnl hnln hstep
    obtain ⟨sn, sb, se⟩ := st
    simp only at hI3 hO3 hnl hnln hstep
    simp only [name1In] at hstep
    refine E.bits_In_Byte (In_low (size := 1) hI3 (by omega) (by decide) fun w4 hI4 hF4 => ?_)
    have hl4 := lowIn_left_t 1 sb se
    generalize lowIn 1 sb se = lo4 at hI4 hl4 hstep ⊢
    obtain ⟨v4, b4, e4⟩ := lo4
    simp only at hI4 hl4 hstep ⊢
    refine In_Raw hI4 (by omega) fun w5 hI5 hF5 => ?_
    have hl5 := rawIn_left_t v4 b4 e4
    generalize rawIn v4 b4 e4 = ra5 at hI5 hl5 hstep ⊢
    obtain ⟨s5, b5, e5⟩ := ra5
    simp only at hI5 hl5 hstep ⊢
    obtain ⟨hw6, hw7, hv8, hF8, hs8⟩ := var2 w5 T.y_table_Name (.string sNil) (.int .i64 0) (.string (tx s5)) (.int .i64 0)
    refine ⟨hw6, hw7, ?_⟩
    generalize (((w5.alloc (.cells #[.string sNil, .int .i64 0] T.y_table_Name)).setCell (blk w5.heap.size) (.string (tx s5))).setCell ((blk w5.heap.size).add 1) (.int .i64 0)) = w8 at hv8 hF8 hs8
    have hI8 := hI5.keep hF8 id
    have hs4 := hF4.size
    have hs5 := hF5.size
    refine E.bits_In_Half (In_low (size := 2) hI8 (by omega) (by decide) fun w9 hI9 hF9 => ?_)
    have hs9 := hF9.size
    have hv9 : w9.heap[w5.heap.size]? = some (.cells ⟨[.string (tx s5), .int .i64 0]⟩ T.y_table_Name (0, 0)) := hF9.heap hv8 (fun h => by omega)
    generalize lowIn 2 b5 e5 = lo9 at hI9 hstep ⊢
    obtain ⟨v9, b9, e9⟩ := lo9
    simp only at hI9 hstep ⊢
    refine ⟨blk_wr hv9 (by simp), ?_⟩
    have hv10 : (w9.setCell ((blk w5.heap.size).add 1) (.int .i64 v9)).heap[w5.heap.size]? = some (.cells ⟨[.string (tx s5), .int .i64 v9]⟩ T.y_table_Name (0, 0)) := by
      have := blk_set hv9 1 (.int .i64 v9); simpa using this
    have hF10 := fr_set w9 w5.heap.size 1 (.int .i64 v9)
    have hs10 := setCell_size_t w9 ((blk w5.heap.size).add 1) (.int .i64 v9)
    generalize w9.setCell ((blk w5.heap.size).add 1) (.int .i64 v9) = w10 at hv10 hF10 hs10
    refine ⟨tx s5, by rw [blk_cell0 hv10]; rfl, v9, by rw [blk_cell hv10]; rfl, ?_⟩
    have hI10 := hI9.keep hF10 (fun h => by omega)
    have hv11 := heap_new w10 (.cells #[.string (tx s5), .int .i64 v9] T.y_table_Name)
    have hF11 := Fr.alloc no w10 (.cells #[.string (tx s5), .int .i64 v9] T.y_table_Name)
    have hs11 : (w10.alloc (.cells #[.string (tx s5), .int .i64 v9] T.y_table_Name)).heap.size = w10.heap.size + 1 := by simp
    generalize w10.alloc (.cells #[.string (tx s5), .int .i64 v9] T.y_table_Name) = w11 at hv11 hF11 hs11
    have hO11 : Own w11 T.y_table_Name 2 out (nameCells sn) := by
      have hlt3 : ∀ k, out.bk k → k < w3.heap.size := fun k hk => hO3.lt hk
      refine ((((((hO3.keep hF4 (fun k hk h => ?_)).keep hF5 (fun k hk h => ?_)).keep hF8 (fun _ _ => id)).keep hF9 (fun k hk h => ?_)).keep hF10 (fun k hk h => ?_)).keep hF11 (fun _ _ => id))
      all_goals (have h1 := hk3 k hk; have h2 := hlt3 k hk; first | (have h3 : k = g := h; omega) | (have h3 : k = w5.heap.size := h; omega))
    have hol := hO11.len
    rw [nameCells_len] at hol
    refine runT_append und_names hi hz hs1 hby rfl (by decide) hO11 (m := 1) (news := [.string (tx s5), .int .i64 v9]) rfl ?_ ?_ (by simp only [maxLen]; omega) (by omega) ?_
    · intro j u hu
      have h := blk_cell (cs := [.string (tx s5), .int .i64 v9]) hv11 j
      rw [h]; exact hu
    · intro u hu
      simp only [List.mem_cons, List.not_mem_nil, or_false] at hu
      rcases hu with rfl | rfl <;> rfl
    intro l2 w12 ho12 hl12 hf12 hm12
    have hne : ∀ k, out.bk k → k ≠ g := fun k hk => by have := hk3 k hk; omega
    have hI12 := (hI10.keep hF11 id).keep hf12 (fun h => hne _ h rfl)
    refine ⟨⟨m + 1, e1', hlt, ?_, ?_, ?_, ?_, ?_⟩, ?_⟩
    · rw [hstep]; exact hI12
    · rw [hstep]
      have : nameCells (sn ++ [(s5, v9)]) = nameCells sn ++ [.string (tx s5), .int .i64 v9] := by simp [nameCells, List.flatMap_append]
      rw [this]; exact ho12
    · intro k hk
      rcases moved_bk hm12 hk with h | h
      · exact hk3 k h
      · omega
    · have b5 := ((hB3.trans (toB hF4 (by omega))).trans (toB hF5 (by omega)))
      have b9 := (b5.trans ((below_fr hF8).mono (by omega))).trans (toB hF9 (by omega))
      have b11 := (b9.trans (hF10.toBelow (fun k hk => by subst hk; omega) (by omega))).trans ((below_fr hF11).mono (by omega))
      exact b11.trans (hf12.toBelow (fun k hk => by have := hk3 k hk; omega) (by omega))
    · have := hf12.size; omega
    · show ((N : Int) - w64 ((m : Int) + 1)).toNat < ((N : Int) - (m : Int)).toNat
      rw [e1']; omega
  · have hge : N ≤ m := by have := of_decide_eq_false hge; omega
    have : m = N := by omega
    subst this
    have hnl' : (namesIn m (b1, e1)).2.1.length ≤ b1.length := hnl
    refine In_End hI3 (by omega) fun w4 hI4 hF4 => ?_
    have hB4 := hB3.trans (toB hF4 (by omega))
    have hO4 := hO3.keep hF4 (fun k hk h => by have := hk3 k hk; have h3 : k = g := h; omega)
    have hbk : ∀ k, out.bk k → w.heap.size ≤ k := fun k hk => by have := hk3 k hk; omega
    have hnil : ∀ w', Below w.heap.size w w' → readNames b = ([], (readNames b).2) → R ⟨none, 0, 0⟩ (readNames b).2 w' := fun w' hw' h => by
      refine hR _ w' ?_ (fun k ⟨a, ha, _⟩ => by cases ha) (by rw [hgg] at *; exact hw')
      rw [h]; exact Own.nil _ _ _
    refine ⟨fun hne => ?_, fun heq => ?_⟩
    · have hne : endIn (namesIn m (b1, e1)).2.1 (namesIn m (b1, e1)).2.2 ≠ 0 := by simpa using hne
      rw [if_pos hne] at hrd
      have := hnil w4 hB4 (by rw [hrd])
      rw [hrd] at this; exact this
    have heq : endIn (namesIn m (b1, e1)).2.1 (namesIn m (b1, e1)).2.2 = 0 := by simpa using heq
    rw [if_neg (by simp [heq])] at hrd
    refine Lay_spec (Own.names hO4) (by rw [hnln]; omega) (fun y hy => Nat.le_trans (namesIn_names m (b1, e1) y hy) (by show b1.length ≤ _; omega)) fun w5 hB5 => ?_
    have hB5' := hB4.trans (hB5.mono hB4.size)
    refine ⟨fun hne => ?_, fun heq6 => ?_⟩
    · have hne : (layNames (namesIn m (b1, e1)).1).2 ≠ 0 := by simpa using hne
      rw [if_pos hne] at hrd
      have := hnil w5 hB5' (by rw [hrd])
      rw [hrd] at this; exact this
    have heq6 : (layNames (namesIn m (b1, e1)).1).2 = 0 := by simpa using heq6
    rw [if_neg (by simp [heq6])] at hrd
    rw [tx_eq]
    refine ⟨fun hne => ?_, fun heqb => ?_⟩
    · have hne : (layNames (namesIn m (b1, e1)).1).1 ≠ b := by simpa using hne
      rw [if_pos hne] at hrd
      have := hnil w5 hB5' (by rw [hrd])
      rw [hrd] at this; exact this
    · have heqb : (layNames (namesIn m (b1, e1)).1).1 = b := by simpa using heqb
      rw [if_neg (by simp [heqb])] at hrd
      have := hR out w5 (by rw [hrd]; exact hO4.keep (fr_below hB5) (fun _ _ => id)) (by rw [hgg] at *; exact hbk) (by rw [hgg] at *; exact hB5')
      rw [hrd] at this; exact this

end Go.Proofs.YtmokmbhhnbcelaaGreatDoor
