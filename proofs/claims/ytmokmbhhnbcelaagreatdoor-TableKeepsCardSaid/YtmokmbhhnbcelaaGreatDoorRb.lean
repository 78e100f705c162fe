/- words on numbers, texts and slices that the heads and the disk need. -/
import Derived.Test.YtmokmbhhnbcelaaGreatDoorOv
import Derived.Test.YtmokmbhhnbcelaaGreatDoorTr
set_option linter.unusedVariables false
namespace Go.Proofs.YtmokmbhhnbcelaaGreatDoor
open Go Go.Vc Go.RowKit Go.Lib

theorem dw_nil {α : Type} {p : α → Bool} : ∀ {l : List α}, l.dropWhile p = [] ↔ ∀ x ∈ l, p x = true
  | [] => by simp
  | a :: r => by
    rw [List.dropWhile_cons]
    split
    · rename_i h
      rw [dw_nil (l := r)]
      simp [h]
    · rename_i h
      simp [h]

theorem tw_mem {α : Type} {p : α → Bool} {x : α} : ∀ {l : List α}, x ∈ l.takeWhile p → p x = true
  | [], h => by simp at h
  | a :: r, h => by
    rw [List.takeWhile_cons] at h
    split at h
    · rename_i ha
      rcases List.mem_cons.1 h with rfl | h
      · exact ha
      · exact tw_mem h
    · simp at h

theorem trim_nil {set l : List UInt8} : trim set l = [] ↔ l.all (fun b => set.contains b) = true := by
  unfold trim trimL
  rw [dw_nil]
  simp only [List.mem_reverse]
  constructor
  · intro h
    rw [List.all_eq_true]
    intro x hx
    have h3 := List.takeWhile_append_dropWhile (p := fun b => set.contains b) (l := l.reverse)
    have hx' : x ∈ l.reverse := List.mem_reverse.2 hx
    rw [← h3] at hx'
    rcases List.mem_append.1 hx' with h4 | h4
    · exact tw_mem (p := fun b => set.contains b) h4
    · exact h x h4
  · intro h x hx
    exact List.all_eq_true.1 h x (List.mem_reverse.1 ((List.dropWhile_sublist _).mem hx))

theorem lay1_ok {size : Nat} {v : Int} {bs : List UInt8} (h : fitsN size v = true) : lay1 size v (bs, 0) = (bs ++ leBytes size v, 0) := by simp [lay1, layL, h]

theorem add_add (a : Addr) (i j : Nat) : (a.add i).add j = a.add (i + j) := by
  unfold Addr.add
  by_cases hi : i = 0
  · subst hi; simp
  · by_cases hj : j = 0
    · subst hj; simp
    · have : ¬ i + j = 0 := by omega
      simp [hi, hj, Nat.add_assoc]

theorem rawIn_left (n : Int) (l : List UInt8) (e : Int) : (rawIn n l e).2.1.length ≤ l.length := by
  unfold rawIn
  split
  · exact Nat.le_refl _
  split
  · exact Nat.le_refl _
  split
  · exact Nat.le_refl _
  · simp

theorem lowIn_left (n : Nat) (l : List UInt8) (e : Int) : (lowIn n l e).2.1.length ≤ l.length := by
  unfold lowIn
  simp only
  split <;> exact rawIn_left _ _ _

theorem lowIn_bound (n : Nat) (l : List UInt8) (e : Int) (hn : n ≤ 7) : 0 ≤ (lowIn n l e).1 ∧ (lowIn n l e).1 < 256 ^ n := by
  have h1 := leVal_lt (rawIn n l e).1
  have h2 : 256 ^ (rawIn n l e).1.length ≤ 256 ^ n := Nat.pow_le_pow_right (by decide) (rawIn_len n l e)
  have h3 : (256 : Nat) ^ n ≤ 256 ^ 7 := Nat.pow_le_pow_right (by decide) hn
  have h4 : (256 : Nat) ^ 7 = 72057594037927936 := by decide
  have h5 : ((256 : Int) ^ n) = ((256 ^ n : Nat) : Int) := by rw [Int.natCast_pow]; rfl
  unfold lowIn
  simp only
  rw [if_pos (by omega), h5]
  omega

theorem slA0 (a : Option Addr) (cap size : Nat) : slA a cap 0 size = a := by
  unfold slA
  split
  · rfl
  · cases a with
    | none => rfl
    | some x => simp [Addr.add]

theorem slA_ne {g cap l size : Nat} (h : cap ≠ l) : slA (some (blk g)) cap l size = some ⟨g, l * size, none⟩ := by
  simp [slA, h, add_blk]

theorem Own.row {w : World} {t : TypeId} {size : Nat} {l : Sl} {xs : List Value} (h : Own w t size l xs) (hn : l.len ≠ 0) :
    ∃ g cur, l.a = some (blk g) ∧ w.heap[g]? = some (.cells ⟨cur⟩ t (0, 0)) ∧ cur.length = l.cap * size ∧ cur.take (l.len * size) = xs ∧ l.len ≤ l.cap ∧ l.cap ≤ maxLen := by
  rcases h.2 with ⟨h2, h0⟩ | ⟨g, cap, cur, hv, hb, hg, hnc, hcm, hcs, htk⟩
  · exact absurd h0 hn
  · simp only [Value.slice.injEq] at hv
    obtain ⟨h1, _, h3⟩ := hv
    subst h3
    exact ⟨g, cur.toList, h1, hg, by simpa using hcs, htk, hnc, hcm⟩

theorem Own.of {w : World} {t : TypeId} {size : Nat} {g n cap : Nat} {cur : List Value} (hg : w.heap[g]? = some (.cells ⟨cur⟩ t (0, 0))) (hc : cur.length = cap * size) (hn : n ≤ cap) (hm : cap ≤ maxLen) : Own w t size ⟨some (blk g), n, cap⟩ (cur.take (n * size)) :=
  ⟨by rw [List.length_take, hc]; exact Nat.min_eq_left (Nat.mul_le_mul_right _ hn), .inr ⟨g, cap, ⟨cur⟩, rfl, Nat.zero_le _, hg, hn, hm, by simpa using hc, rfl⟩⟩

theorem Own.pre {w : World} {t : TypeId} {size : Nat} {l : Sl} {xs : List Value} (h : Own w t size l xs) {i : Nat} (hi : i ≤ l.len) (hn : l.len ≠ 0) : Own w t size ⟨l.a, i, l.cap⟩ (xs.take (i * size)) := by
  obtain ⟨g, cur, ha, hg, hc, ht, hlc, hm⟩ := Own.row h hn
  rw [ha, ← ht, List.take_take, Nat.min_eq_left (Nat.mul_le_mul_right _ hi)]
  exact Own.of hg hc (Nat.le_trans hi hlc) hm

theorem leByte_nat (i v : Nat) : leByte i (v : Int) = UInt8.ofNat (v / 256 ^ i % 256) := by
  unfold leByte
  congr 1
  have e : ((2 : Int) ^ (8 * i)) = ((256 ^ i : Nat) : Int) := by rw [Int.natCast_pow, Int.pow_mul]; rfl
  rw [e]
  omega

theorem div256 {q : Nat} (h : q < 18446744073709551616) : wr .u64 ((q : Int).tdiv 256) = ((q / 256 : Nat) : Int) := by
  rw [Int.tdiv_eq_ediv_of_nonneg (by omega), show (q : Int) / 256 = ((q / 256 : Nat) : Int) by omega]
  exact wr64_id (by omega) (by omega)

theorem Low_spec {v n : Nat} (hv : v < 18446744073709551616) (hn : n ≤ 8) {w : World} {R : ByteArray → World → Prop} (hR : ∀ w', Below w.heap.size w w' → R (tx (leBytes n v)) w') : F.masonryref1_Low (v : Int) n w R := by
  obtain ⟨inf, hinf, hz, hs1, hby⟩ := info_byte
  apply E.masonryref1_Low
  unfold V.masonryref1_Low
  refine ⟨fun v1 b i w' => ∃ m : Nat, i = m ∧ m ≤ n ∧ v1 = ((v / 256 ^ m : Nat) : Int) ∧ Own w' T.y_uint8 1 b (bv (leBytes m v)) ∧ (∀ k, b.bk k → w.heap.size ≤ k) ∧ Below w.heap.size w w', fun _ _ i _ => (n - i).toNat,
    ⟨0, rfl, Nat.zero_le _, by simp, Own.nil _ _ _, fun k hk => (by obtain ⟨a, ha, _⟩ := hk; cases ha), Below.refl _ _⟩, ?_⟩
  rintro v1 b i w1 ⟨m, rfl, hm, rfl, hO, hbk, hB⟩
  refine ⟨fun hlt => ?_, fun hge => ?_⟩
  · have hlt : m < n := by have := of_decide_eq_true hlt; omega
    have e1 : w64 ((m : Int) + 1) = ((m + 1 : Nat) : Int) := by rw [w64_id (by omega) (by omega)]; omega
    intro w2
    have h2 : w2.heap[w1.heap.size]? = some (.cells ⟨[.int .u8 (wr .u8 ((v / 256 ^ m : Nat) : Int))]⟩ T.y_uint8 (0, 0)) := heap_new w1 _
    have hF2 : Fr no w1 w2 := Fr.alloc _ _ _
    clear_value w2
    have hb8 : wr .u8 ((v / 256 ^ m : Nat) : Int) = ((leByte m v).toNat : Int) := by
      rw [wr8, leByte_nat]
      generalize v / 256 ^ m = q
      rw [UInt8.toNat_ofNat']
      omega
    rw [hb8] at h2
    have hO2 := hO.keep hF2 (fun _ _ => id)
    have hol := hO2.len
    simp only [bv, List.length_map, leBytes_len, Nat.mul_one] at hol
    refine runT_append und_bytes hinf hz hs1 hby rfl (by decide) hO2 (m := 1) (news := bv [leByte m v]) rfl (fun j u hu => by rw [blk_cell h2 j]; exact hu) (fun u hu => by
      simp only [bv, List.map_cons, List.map_nil, List.mem_singleton] at hu
      subst hu; rfl) (by simp only [maxLen]; omega) (by omega) fun l2 w3 ho hl hf hm3 => ?_
    have hq : v / 256 ^ m < 18446744073709551616 := Nat.lt_of_le_of_lt (Nat.div_le_self _ _) hv
    have hd : wr .u64 ((((v / 256 ^ m : Nat) : Int)).tdiv 256) = ((v / 256 ^ (m + 1) : Nat) : Int) := by
      rw [div256 hq, Nat.div_div_eq_div_mul, ← Nat.pow_succ]
    refine ⟨by decide, ⟨m + 1, e1, hlt, hd, ?_, fun k hk => ?_, (hB.trans ((below_fr hF2).mono hB.size)).trans (hf.toBelow (fun k hk => hbk k hk) (by have := hB.size; have := hF2.size; omega))⟩, ?_⟩
    · rw [leBytes_succ]; simpa [bv] using ho
    · rcases moved_bk hm3 hk with h | h
      · exact hbk k h
      · have := hB.size; have := hF2.size; omega
    · show ((n : Int) - w64 ((m : Int) + 1)).toNat < ((n : Int) - (m : Int)).toNat
      rw [e1]; omega
  · have hge : n ≤ m := by have := of_decide_eq_false hge; omega
    have : m = n := by omega
    subst this
    exact runT_bytes_str und_bytes und_byte und_str hO (hR w1 hB)

theorem Own.isNil {w : World} {t : TypeId} {size : Nat} {l : Sl} {xs : List Value} (h : Own w t size l xs) (ha : l.a = none) : l = ⟨none, 0, 0⟩ ∧ xs = [] := by
  rcases h.2 with ⟨h2, h0⟩ | ⟨g, cap, cur, hv, _⟩
  · simp only [Value.slice.injEq] at h2
    refine ⟨by cases l; simp_all, List.eq_nil_of_length_eq_zero (by have := h.1; rw [h0] at this; simpa using this)⟩
  · simp only [Value.slice.injEq] at hv
    rw [ha] at hv; cases hv.1

theorem und_int : Pg.underlying T.y_int = some (.int .i64) := by kernel_rfl

/-- the texts of a slice -/
def Texts (w : World) (sl : Sl) (ts : List (List UInt8)) : Prop := sl.len = ts.length ∧ ∀ j t, ts[j]? = some t → ∃ a, sl.a = some a ∧ w.cell? (a.add (j * 1)) = some (.string (tx t))

theorem Texts.below {w w' : World} {sl : Sl} {ts : List (List UInt8)} (h : Texts w sl ts) (hw : Below w.heap.size w w') : Texts w' sl ts :=
  ⟨h.1, fun j n hj => by
    obtain ⟨a, ha, h1⟩ := h.2 j n hj
    exact ⟨a, ha, by rw [hw.cell (World.block_lt_of_cell? w _ h1)]; exact h1⟩⟩

def textCells (ts : List (List UInt8)) : List Value := ts.map fun t => .string (tx t)

theorem textCells_one (ts : List (List UInt8)) : ∀ u ∈ textCells ts, u.oneCell' = true := by
  intro u hu
  simp only [textCells, List.mem_map] at hu
  obtain ⟨_, _, rfl⟩ := hu
  rfl

theorem und_strs : Pg.underlying T.y_sl_string = some (.slice T.y_string) := by kernel_rfl

theorem info_str : ∃ i, Pg.info? T.y_string = some i ∧ i.zero = some (.string sNil) ∧ i.size = 1 ∧ i.bytes = 16 := by
  have h : (Pg.info? T.y_string).map (fun i => (i.zero, i.size, i.bytes)) = some (some (.string sNil), 1, 16) := by kernel_rfl
  obtain ⟨i, hi, h2⟩ := Option.map_eq_some_iff.1 h
  simp only [Prod.mk.injEq] at h2
  exact ⟨i, hi, h2.1, h2.2.1, h2.2.2⟩

theorem Own.texts {w : World} {l : Sl} {ts : List (List UInt8)} (h : Own w T.y_string 1 l (textCells ts)) : Texts w l ts := by
  refine ⟨by have := h.len; simp [textCells] at this; omega, fun j t hj => ?_⟩
  obtain ⟨a, ha, hc⟩ := h.cell (j := j) (u := .string (tx t)) (by simp [textCells, hj])
  exact ⟨a, ha, by rw [Nat.mul_one]; exact hc⟩

theorem Texts.cell {w : World} {sl : Sl} {ts : List (List UInt8)} (h : Texts w sl ts) {a : Addr} (ha : sl.a = some a) : ∀ j u, (textCells ts)[j]? = some u → w.cell? (a.add j) = some u := by
  intro j u hu
  simp only [textCells, List.getElem?_map, Option.map_eq_some_iff] at hu
  obtain ⟨t, ht, rfl⟩ := hu
  obtain ⟨a', ha', hc⟩ := h.2 j t ht
  rw [ha] at ha'
  injection ha' with ha'
  subst ha'
  rwa [Nat.mul_one] at hc

/-- a nil slice is the nil slice -/
def NilOk (s : Sl) : Prop := s.a = none → s = ⟨none, 0, 0⟩

theorem bk_nil {P : Prop} {k : Nat} (h : (⟨none, 0, 0⟩ : Sl).bk k) : P := by obtain ⟨a, ha, _⟩ := h; cases ha

end Go.Proofs.YtmokmbhhnbcelaaGreatDoor

/- masonryref1.LayNames: the document's answer is what table.Lay lays. -/
set_option linter.unusedVariables false
namespace Go.Proofs.YtmokmbhhnbcelaaGreatDoor
open Go Go.Vc Go.RowKit Go.Lib

abbrev Nm := List UInt8 × Int
theorem less_lt : ∀ (x y : List UInt8), Op.bytesLess x y = decide (x < y)
  | x, [] => by cases x <;> simp [Op.bytesLess]
  | [], b :: y => by simp [Op.bytesLess]
  | a :: x, b :: y => by
    rw [Op.bytesLess, less_lt x y, Bool.eq_iff_iff]
    simp [List.cons_lt_cons_iff]
theorem lt_of_not : ∀ {a b : List UInt8}, ¬ a < b → a ≠ b → b < a
  | [], [], _, h => absurd rfl h
  | [], y :: b, h, _ => absurd (by simp) h
  | x :: a, [], _, _ => by simp
  | x :: a, y :: b, h, hne => by
    rw [List.cons_lt_cons_iff] at h ⊢
    by_cases h1 : y < x
    · exact .inl h1
    · have h2 : ¬ x < y := fun hh => h (.inl hh)
      have h3 : x = y := by
        apply UInt8.toNat.inj
        rw [UInt8.lt_iff_toNat_lt] at h1 h2
        omega
      subst h3
      exact .inr ⟨rfl, lt_of_not (fun hh => h (.inr ⟨rfl, hh⟩)) (fun hh => hne (by rw [hh]))⟩

theorem ord_same (a b : List UInt8) : (Op.bytesLess b a || decide (b = a)) = !Op.bytesLess a b := by
  rw [less_lt, less_lt]
  by_cases h : a < b
  · have h1 : ¬ b < a := fun h' => List.lt_irrefl a (List.lt_trans h h')
    have h2 : b ≠ a := fun h' => by subst h'; exact List.lt_irrefl _ h
    simp [h, h1, h2]
  · by_cases h2 : b = a
    · simp [h, h2]
    · simp [h, lt_of_not h (fun hh => h2 hh.symm)]

theorem RefLay_spec {w : World} {sl : Sl} {ns : List Nm} (hN : Names w sl ns) (hb : ns.length ≤ 1000000) (hl : ∀ n ∈ ns, n.1.length ≤ 1099511627776) {R : ByteArray → Int → World → Prop}
    (hR : ∀ w', Below w.heap.size w w' → R (tx (layNames ns).1) (layNames ns).2 w') : F.masonryref1_LayNames sl w R := by
  apply E.masonryref1_LayNames
  unfold V.masonryref1_LayNames
  have hlen := hN.1
  refine ⟨fun n w' => ∃ m : Nat, n = m ∧ m ≤ ns.length ∧ (∀ j, j < m → okAt ns j = true) ∧ Below w.heap.size w w', fun n _ => (ns.length - n).toNat, ⟨0, rfl, Nat.zero_le _, fun j hj => absurd hj (Nat.not_lt_zero _), Below.refl _ _⟩, ?_⟩
  rintro n w0 ⟨m, rfl, hm, hok, hB0⟩
  refine ⟨fun hlt => ?_, fun hge => ?_⟩
  · have hlt : m < ns.length := by have := of_decide_eq_true hlt; omega
    have e1 : w64 ((m : Int) + 1) = ((m + 1 : Nat) : Int) := by rw [w64_id (by omega) (by omega)]; omega
    intro w1
    have hB : Below w.heap.size w w1 := hB0.drew
    clear_value w1
    obtain ⟨a, ha, hc1, hc2⟩ := (hN.below hB).2 m ns[m] (by simp [hlt])
    have hat : okAt ns m = (validN ns[m].1 && (decide (1 ≤ ns[m].2) && (decide (ns[m].2 < 2000) && (decide (m = 0) || !(Op.bytesLess ns[m].1 (ns.getD (m - 1) ([], 0)).1 || decide (ns[m].1 = (ns.getD (m - 1) ([], 0)).1)))))) := by
      unfold okAt
      have : ns[m]? = some ns[m] := by simp [hlt]
      rw [this]
    have bad : okAt ns m = false → R sNil 1 w1 := fun h => by
      have e2 : layNames ns = ([], 1) := by
        unfold layNames
        rw [if_neg]
        rw [List.all_eq_true]
        intro hall
        have := hall m (List.mem_range.2 hlt)
        rw [h] at this; cases this
      rw [e2] at hR
      exact hR w1 hB
    have good : okAt ns m = true → ((∃ m' : Nat, w64 ((m : Int) + 1) = m' ∧ m' ≤ ns.length ∧ (∀ j, j < m' → okAt ns j = true) ∧ Below w.heap.size w w1) ∧ ((ns.length : Int) - w64 ((m : Int) + 1)).toNat < ((ns.length : Int) - (m : Int)).toNat) :=
      fun h => ⟨⟨m + 1, e1, hlt, fun j hj => by
        rcases Nat.lt_succ_iff_lt_or_eq.1 hj with h' | h'
        · exact hok j h'
        · rw [h']; exact h, hB⟩, by rw [e1]; omega⟩
    refine ⟨a, ha, by omega, by omega, tx ns[m].1, by simpa using hc1, ValidName_spec (hl _ (List.getElem_mem _)) ⟨fun hnv => bad (by rw [hat]; simp at hnv; simp [hnv]), fun hvd => ?_⟩⟩
    have hvd : validN ns[m].1 = true := by simpa using hvd
    refine ⟨a, ha, by omega, by omega, ns[m].2, by simpa using hc2, fun h1 => bad (by rw [hat]; have := of_decide_eq_true h1; have h2 : ¬ 1 ≤ ns[m].2 := (by omega); simp [h2]), fun h1 => ⟨a, ha, by omega, by omega, ns[m].2, by simpa using hc2, fun h2 => bad (by rw [hat]; have := of_decide_eq_true h2; have h2 : ¬ ns[m].2 < 2000 := (by omega); simp [h2]), fun h2 => ?_⟩⟩
    have h1 : 1 ≤ ns[m].2 := by have := of_decide_eq_false h1; omega
    have h2 : ns[m].2 < 2000 := by have := of_decide_eq_false h2; omega
    refine ⟨fun h3 => ?_, fun h3 => ?_⟩
    · have h3 : 0 < m := by have := of_decide_eq_true h3; omega
      have e2 : w64 ((m : Int) - 1) = ((m - 1 : Nat) : Int) := by rw [w64_id (by omega) (by omega)]; omega
      have hlt' : m - 1 < ns.length := by omega
      obtain ⟨a', ha', hc1', hc2'⟩ := (hN.below hB).2 (m - 1) ns[m - 1] (by simp [hlt'])
      refine ⟨a', ha', by rw [e2]; omega, by rw [e2]; omega, tx ns[m - 1].1, by rw [e2]; simpa using hc1', a, ha, by omega, by omega, tx ns[m].1, by simpa using hc1, ?_⟩
      rw [tx_lt]
      have hg : ns.getD (m - 1) ([], 0) = ns[m - 1] := by simp [hlt']
      rw [hg, ord_same] at hat
      refine ⟨fun h4 => bad (by rw [hat]; simp at h4; simp [h4]; omega), fun h4 => good (by rw [hat]; simp at h4; simp [hvd, h1, h2, h4])⟩
    · have h3 : m = 0 := by have := of_decide_eq_false h3; omega
      have h3' : decide (m = 0) = true := by simp [h3]
      exact good (by rw [hat, hvd, h3']; simp [h1, h2])
  · have hge : ns.length ≤ m := by have := of_decide_eq_false hge; omega
    have hmm : m = ns.length := by omega
    subst hmm
    have hall : (List.range ns.length).all (okAt ns) = true := List.all_eq_true.2 fun j hj => hok j (List.mem_range.1 hj)
    refine ⟨fun h40 => ?_, fun h40 => ?_⟩
    · have h40 : 40 < ns.length := by have := of_decide_eq_true h40; omega
      have e2 : layNames ns = ([], 2) := by unfold layNames; rw [if_pos hall, if_pos h40]
      rw [e2] at hR
      exact hR w0 hB0
    have h40 : ns.length ≤ 40 := by have := of_decide_eq_false h40; omega
    have e2 : layNames ns = (leBytes 1 ns.length ++ ns.flatMap name1, 0) := by unfold layNames; rw [if_pos hall, if_neg (by omega)]
    rw [e2] at hR
    have hlenI : ((sl.len : Nat) : Int) = (ns.length : Int) := by rw [hlen]
    simp only [hlenI]
    rw [wr64_id (by omega) (by omega)]
    refine Low_spec (v := ns.length) (by omega) (by decide) fun w3 hB3 => ?_
    have hB03 := hB0.trans (hB3.mono hB0.size)
    refine ⟨fun s i w' => ∃ m : Nat, i = m ∧ m ≤ ns.length ∧ s = tx (leBytes 1 ns.length ++ (ns.take m).flatMap name1) ∧ (leBytes 1 ns.length ++ (ns.take m).flatMap name1).length ≤ 1 + 15 * m ∧ Below w.heap.size w w', fun _ i _ => (ns.length - i).toNat,
      ⟨0, rfl, Nat.zero_le _, by simp, by simp [leBytes_len], hB03⟩, ?_⟩
    rintro s i w4 ⟨m, rfl, hm', rfl, hL, hB4⟩
    refine ⟨fun hlt => ?_, fun hge => ?_⟩
    · have hlt : m < ns.length := by have := of_decide_eq_true hlt; omega
      have e1 : w64 ((m : Int) + 1) = ((m + 1 : Nat) : Int) := by rw [w64_id (by omega) (by omega)]; omega
      have hB5 : Below w.heap.size w w4.drew := hB4.drew
      generalize w4.drew = w5 at hB5 ⊢
      obtain ⟨a, ha, hc1, hc2⟩ := (hN.below hB5).2 m ns[m] (by simp [hlt])
      have hat := hok m hlt
      have hat2 : ns[m]? = some ns[m] := by simp [hlt]
      unfold okAt at hat
      rw [hat2] at hat
      simp only [Bool.and_eq_true, decide_eq_true_eq, validN] at hat
      obtain ⟨⟨hv1, hv2, _⟩, hp1, hp2, _⟩ := hat
      obtain ⟨P, hP⟩ : ∃ P : Nat, ns[m].2 = P := ⟨ns[m].2.toNat, by omega⟩
      refine ⟨a, ha, by omega, by omega, tx ns[m].1, by simpa using hc1, a, ha, by omega, by omega, tx ns[m].1, by simpa using hc1, a, ha, by omega, by omega, ns[m].2, by simpa using hc2, ?_⟩
      rw [tx_size, wr64_id (by omega) (by omega), wr64_id (x := ns[m].2) (by omega) (by omega)]
      refine Low_spec (v := ns[m].1.length) (by omega) (by decide) fun w6 hB6 => ?_
      have hB06 := hB5.trans (hB6.mono hB5.size)
      obtain ⟨a6, ha6, hd1, hd2⟩ := (hN.below hB06).2 m ns[m] (by simp [hlt])
      rw [ha] at ha6
      injection ha6 with ha6
      subst ha6
      have hsz := hL
      refine ⟨by simpa using hd2, by simpa using hd1, by simpa using hd1, by simp only [tx_size, leBytes_len]; omega, by rw [tx_app]; simp only [tx_size, List.length_append, leBytes_len] at hsz ⊢; omega, ?_⟩
      rw [hP]
      refine Low_spec (v := P) (by omega) (by decide) fun w7 hB7 => ?_
      have hB07 := hB06.trans (hB7.mono hB06.size)
      obtain ⟨a7, ha7, hx1, hx2⟩ := (hN.below hB07).2 m ns[m] (by simp [hlt])
      rw [ha] at ha7
      injection ha7 with ha7
      subst ha7
      rw [hP] at hx2
      have hbs : leBytes 1 ns.length ++ (ns.take m).flatMap name1 ++ leBytes 1 ns[m].1.length ++ ns[m].1 ++ leBytes 2 ns[m].2 = leBytes 1 ns.length ++ (ns.take (m + 1)).flatMap name1 := by
        rw [List.take_succ_eq_append_getElem hlt, List.flatMap_append, List.flatMap_cons, List.flatMap_nil, List.append_nil]
        simp only [name1, List.append_assoc]
      rw [hP] at hbs
      refine ⟨by simpa using hx2, by simpa using hx1, by simpa using hx1, ?_, ⟨m + 1, e1, hlt, ?_, ?_, hB07⟩, ?_⟩
      · rw [tx_app, tx_app]; simp only [tx_size, List.length_append, leBytes_len] at hsz ⊢; omega
      · rw [tx_app, tx_app, tx_app, hbs]
      · rw [← hbs]; simp only [List.length_append, leBytes_len] at hsz ⊢; omega
      · show ((ns.length : Int) - w64 ((m : Int) + 1)).toNat < ((ns.length : Int) - (m : Int)).toNat
        rw [e1]; omega
    · have hge : ns.length ≤ m := by have := of_decide_eq_false hge; omega
      have : m = ns.length := by omega
      subst this
      rw [List.take_length]
      exact hR w4 hB4

end Go.Proofs.YtmokmbhhnbcelaaGreatDoor
