/- masonryref1.ReadHead: the same answer as head.Read. -/
import Derived.Test.YtepclihkniaieaaGreatDoorRh
set_option linter.unusedVariables false
namespace Go.Proofs.YtepclihkniaieaaGreatDoor
open Go Go.Vc Go.RowKit Go.Lib

def num (s : List UInt8) (a n : Nat) : Nat := leVal ((s.drop a).take n)
def refHd (s : List UInt8) : Hd := ⟨((num s 2 8 : Nat) : Int), decide (s.getD 1 0 ≠ 0), (List.range (num s 10 2)).map fun i => ((num s (12 + 2 * i) 2 : Nat) : Int)⟩

theorem num_at {a b c : List UInt8} {i n : Nat} (ha : a.length = i) (hb : b.length = n) : num (a ++ (b ++ c)) i n = leVal b := by
  unfold num
  rw [← ha, List.drop_left, ← hb, List.take_left]

theorem flat2_split : ∀ (ts : List Int) (i : Nat) (hi : i < ts.length), ∃ a c, ts.flatMap (leBytes 2) = a ++ (leBytes 2 ts[i] ++ c) ∧ a.length = 2 * i := by
  intro ts i hi
  refine ⟨(ts.take i).flatMap (leBytes 2), (ts.drop (i + 1)).flatMap (leBytes 2), ?_, ?_⟩
  · have h : ts = ts.take i ++ ts[i] :: ts.drop (i + 1) := by rw [List.getElem_cons_drop, List.take_append_drop]
    have h2 := congrArg (List.flatMap (leBytes 2)) h
    rw [List.flatMap_append, List.flatMap_cons] at h2
    exact h2
  · rw [flat2_len, List.length_take]; omega

theorem pow2 : (256 : Nat) ^ 2 = 65536 := by decide
theorem pow8 : (256 : Nat) ^ 8 = 18446744073709551616 := by decide

theorem hb_num10 (seq : Int) (full : Bool) (ts : List Int) (pad : List UInt8) (h3 : ts.length ≤ 110) : num (headBytes ⟨seq, full, ts⟩ ++ pad) 10 2 = ts.length := by
  have e : headBytes ⟨seq, full, ts⟩ ++ pad = (leBytes 1 7 ++ leBytes 1 (if full then 1 else 0) ++ leBytes 8 seq) ++ (leBytes 2 ((ts.length : Nat) : Int) ++ (ts.flatMap (leBytes 2) ++ pad)) := by simp only [headBytes, List.append_assoc]
  rw [e, num_at (by simp only [List.length_append, leBytes_len]) (leBytes_len _ _), leVal_leBytes, pow2]
  exact Nat.mod_eq_of_lt (by omega)

theorem hb_num2 (n : Nat) (full : Bool) (ts : List Int) (pad : List UInt8) (h : n < 18446744073709551616) : num (headBytes ⟨(n : Int), full, ts⟩ ++ pad) 2 8 = n := by
  have e : headBytes ⟨(n : Int), full, ts⟩ ++ pad = (leBytes 1 7 ++ leBytes 1 (if full then 1 else 0)) ++ (leBytes 8 ((n : Nat) : Int) ++ (leBytes 2 ((ts.length : Nat) : Int) ++ (ts.flatMap (leBytes 2) ++ pad))) := by simp only [headBytes, List.append_assoc]
  rw [e, num_at (by simp only [List.length_append, leBytes_len]) (leBytes_len _ _), leVal_leBytes, pow8]
  exact Nat.mod_eq_of_lt h

theorem hb_full (seq : Int) (full : Bool) (ts : List Int) (pad : List UInt8) : decide ((headBytes ⟨seq, full, ts⟩ ++ pad).getD 1 0 ≠ 0) = full := by
  have e7 : leBytes 1 7 = [7] := by decide
  have e1 : leBytes 1 (if full then 1 else 0) = [if full then 1 else 0] := by cases full <;> decide
  have e : headBytes ⟨seq, full, ts⟩ ++ pad = 7 :: (if full then 1 else 0) :: (leBytes 8 seq ++ (leBytes 2 ((ts.length : Nat) : Int) ++ (ts.flatMap (leBytes 2) ++ pad))) := by
    simp only [headBytes, e7, e1, List.append_assoc]; rfl
  rw [e]
  cases full <;> rfl

theorem hb_t (seq : Int) (full : Bool) (ts : List Int) (pad : List UInt8) (i : Nat) (hi : i < ts.length) (q1 : 0 ≤ ts[i]) (q2 : ts[i] < 2000) : ((num (headBytes ⟨seq, full, ts⟩ ++ pad) (12 + 2 * i) 2 : Nat) : Int) = ts[i] := by
  obtain ⟨a, c, hs, hl⟩ := flat2_split ts i hi
  generalize hx : ts[i] = x at *
  obtain ⟨n, rfl⟩ : ∃ n : Nat, x = (n : Int) := ⟨x.toNat, by omega⟩
  have e : headBytes ⟨seq, full, ts⟩ ++ pad = (leBytes 1 7 ++ leBytes 1 (if full then 1 else 0) ++ leBytes 8 seq ++ leBytes 2 ((ts.length : Nat) : Int) ++ a) ++ (leBytes 2 (n : Int) ++ (c ++ pad)) := by
    simp only [headBytes, hs, List.append_assoc]
  rw [e, num_at (by simp only [List.length_append, leBytes_len, hl]) (leBytes_len _ _), leVal_leBytes, pow2, Nat.mod_eq_of_lt (by omega)]

/-- the fields of a head that may be, as it is laid -/
theorem refHd_lay {h : Hd} (hv : validH h = true) (pad : List UInt8) : refHd (headBytes h ++ pad) = h := by
  obtain ⟨h1, h2, h3, h4, h5⟩ := (validH_iff h).1 hv
  have hr := upTo_range h5
  obtain ⟨seq, full, ts⟩ := h
  simp only at h1 h2 h3 h4 h5 hr
  obtain ⟨n, rfl⟩ : ∃ n : Nat, seq = (n : Int) := ⟨seq.toNat, by omega⟩
  have hts : (List.range ts.length).map (fun i => ((num (headBytes ⟨(n : Int), full, ts⟩ ++ pad) (12 + 2 * i) 2 : Nat) : Int)) = ts := by
    apply List.ext_getElem
    · rw [List.length_map, List.length_range]
    · intro i hi hi2
      rw [List.getElem_map, List.getElem_range]
      obtain ⟨q1, q2⟩ := hr ts[i] (List.getElem_mem _)
      exact hb_t (n : Int) full ts pad i hi2 q1 q2
  unfold refHd
  rw [hb_num10 (n : Int) full ts pad h3, hb_num2 n full ts pad (by omega), hb_full, hts]

theorem num_lt2 (s : List UInt8) (a : Nat) : num s a 2 < 65536 := by
  have h := leVal_lt ((s.drop a).take 2)
  have h2 : 256 ^ ((s.drop a).take 2).length ≤ 256 ^ 2 := Nat.pow_le_pow_right (by decide) (by simp; omega)
  have e : (256 : Nat) ^ 2 = 65536 := by decide
  unfold num; omega
theorem num_lt8 (s : List UInt8) (a : Nat) : num s a 8 < 18446744073709551616 := by
  have h := leVal_lt ((s.drop a).take 8)
  have h2 : 256 ^ ((s.drop a).take 8).length ≤ 256 ^ 8 := Nat.pow_le_pow_right (by decide) (by simp; omega)
  have e : (256 : Nat) ^ 8 = 18446744073709551616 := by decide
  unfold num; omega

/-- what the reading answers, by the document's fields -/
theorem readHead_ref {b : List UInt8} (h256 : b.length = 256) (hz : ¬ b.all (fun x => [(0 : UInt8)].contains x) = true) (ho : (openB b).2 = 0) :
    readHead b = if validH (refHd (openB b).1) = true ∧ (layHead (refHd (openB b).1)).1 = b then (refHd (openB b).1, 0) else (⟨0, false, []⟩, 6) := by
  split
  · rename_i h
    have := read_lay h.1
    rw [h.2] at this
    exact this
  · rename_i h
    unfold readHead
    rw [if_neg (by omega), if_neg hz, if_neg (by simpa using ho)]
    split
    · rfl
    · rename_i h2
      exfalso
      rw [not_or] at h2
      obtain ⟨h3, h4⟩ := h2
      have h3 : (layHead (parseH (openB b).1)).2 = 0 := by simpa using h3
      have h4 : (layHead (parseH (openB b).1)).1 = b := by simpa using h4
      have hv : validH (parseH (openB b).1) = true := by
        unfold layHead at h3
        split at h3
        · assumption
        · simp at h3
      have hb : b = sealS 256 (headBytes (parseH (openB b).1)) := h4.symm.trans (congrArg Prod.fst (lay_ok hv).1)
      have hl3 := ((validH_iff _).1 hv).2.2.1
      have hop := openB_seal (n := 256) (l := headBytes (parseH (openB b).1)) (by decide) (by rw [headBytes_len]; omega)
      rw [← hb] at hop
      have hs : (openB b).1 = padTo (256 - 4) (headBytes (parseH (openB b).1)) := congrArg Prod.fst hop
      have hrf : refHd (openB b).1 = parseH (openB b).1 := by
        have h5 := refHd_lay hv (List.replicate (256 - 4 - (headBytes (parseH (openB b).1)).length) 0)
        have h6 : headBytes (parseH (openB b).1) ++ List.replicate (256 - 4 - (headBytes (parseH (openB b).1)).length) 0 = (openB b).1 := hs.symm
        rw [h6] at h5
        exact h5
      exact h ⟨by rw [hrf]; exact hv, by rw [hrf]; exact h4⟩

set_option maxHeartbeats 1000000 in
theorem RefRead_head {w : World} {b : List UInt8} (hb : b.length ≤ 1000000000) {R : Int → Bool → Sl → Int → World → Prop}
    (hR : ∀ l w', Own w' T.y_int 1 l (intCells (readHead b).1.ts) → (∀ k, l.bk k → w.heap.size ≤ k) → Below w.heap.size w w' → R (readHead b).1.seq (readHead b).1.full l (readHead b).2 w') : F.masonryref1_ReadHead (tx b) w R := by
  obtain ⟨i, hi, hz, hs1, hby⟩ := info_int
  apply E.masonryref1_ReadHead
  unfold V.masonryref1_ReadHead
  intro w1
  have h1 : w1.heap[w.heap.size]? = some (.cells ⟨[.int .i64 0, .bool false, .slice none 0 0]⟩ T.y_masonryref1_Head (0, 0)) := heap_new w _
  have hB1 : Below w.heap.size w w1 := below_fr (Fr.alloc no w _)
  clear_value w1
  have bad : ∀ {w' : World} {code : Int}, readHead b = (⟨0, false, []⟩, code) → Below w.heap.size w w' → ∀ w'', Fr (· = w.heap.size) w' w'' → R 0 false ⟨none, 0, 0⟩ code w'' := fun e hB w'' hF => by
    rw [e] at hR
    exact hR ⟨none, 0, 0⟩ w'' (Own.nil _ _ _) (fun k hk => bk_nil hk) (hB.trans (hF.toBelow (fun k hk => by have : k = w.heap.size := hk; omega) hB.size))
  rw [tx_size]
  refine ⟨fun hne => ?_, fun heq => ?_⟩
  · have hne : b.length ≠ 256 := fun h => by rw [h] at hne; simp at hne
    have e : readHead b = (⟨0, false, []⟩, 5) := by unfold readHead; rw [if_pos hne]
    exact ret3 h1 0 false ⟨none, 0, 0⟩ (Q := fun n f l w' => R n f l 5 w') (bad e hB1)
  have heq : b.length = 256 := by
    have h : (b.length : Int) = 256 := by simpa using heq
    omega
  refine Zeros_spec (n := 256) (by decide) fun w4 hB4 => ?_
  have hB04 := hB1.trans (hB4.mono hB1.size)
  have h4 := (fr_below hB4).heap h1 id
  have hall : b = List.replicate 256 0 ↔ b.all (fun x => [(0 : UInt8)].contains x) = true := by
    rw [List.eq_replicate_iff, List.all_eq_true]
    simp [heq]
  rw [tx_eq]
  refine ⟨fun ht => ?_, fun ht => ?_⟩
  · have ht := hall.1 (of_decide_eq_true ht)
    have e : readHead b = (⟨0, false, []⟩, 0) := by unfold readHead; rw [if_neg (by omega), if_pos ht]
    exact ret3 h4 0 false ⟨none, 0, 0⟩ (Q := fun n f l w' => R n f l 0 w') (bad e hB04)
  have ht : ¬ b.all (fun x => [(0 : UInt8)].contains x) = true := fun h => of_decide_eq_false ht (hall.2 h)
  refine RefOpen_spec hb fun w8 hB8 => ?_
  have hB08 := hB04.trans (hB8.mono hB04.size)
  have h8 := (fr_below hB8).heap h4 id
  refine ⟨fun hne => ?_, fun hok => ?_⟩
  · have hne : (openB b).2 ≠ 0 := by simpa using hne
    have e : readHead b = (⟨0, false, []⟩, (openB b).2) := by unfold readHead; rw [if_neg (by omega), if_neg ht, if_pos hne]
    exact ret3 h8 0 false ⟨none, 0, 0⟩ (Q := fun n f l w' => R n f l (openB b).2 w') (bad e hB08)
  have hok : (openB b).2 = 0 := by simpa using hok
  have er := readHead_ref heq ht hok
  have hsl : (openB b).1.length = 252 := by
    unfold openB at hok ⊢
    rw [if_neg (by omega)] at hok ⊢
    split at hok
    · rename_i h; rw [if_pos h]; simp; omega
    · simp at hok
  generalize (openB b).1 = s at er hsl
  have hn10 := num_lt2 s 10
  have hn8 := num_lt8 s 2
  refine ⟨by decide, by rw [tx_size]; omega, ?_⟩
  intro w12
  have h12 : w12.heap[w8.heap.size]? = some (.cells ⟨[.int .i64 0, .bool false, .slice none 0 0]⟩ T.y_masonryref1_Head (0, 0)) := heap_new w8 _
  have hF12 : Fr no w8 w12 := Fr.alloc no w8 _
  clear_value w12
  have ef : (sAt (tx s) (1 : Int) != 0) = decide (s.getD 1 0 ≠ 0) := by
    have := tx_at s 1
    have e1 : ((1 : Nat) : Int) = 1 := rfl
    rw [e1] at this
    rw [this, Bool.eq_iff_iff]
    simp only [bne_iff_ne, ne_eq, decide_eq_true_eq]
    constructor
    · intro h h2; exact h (by rw [h2]; rfl)
    · intro h h2
      have h3 : (s.getD 1 0).toNat = 0 := by omega
      exact h (UInt8.toNat.inj h3)
  rw [ef]
  obtain ⟨k1, k2, k3, h15, hF15⟩ := set3 h12 0 (decide (s.getD 1 0 ≠ 0)) ⟨none, 0, 0⟩
  refine ⟨k1, ?_⟩
  intro _
  refine ⟨k2, ?_⟩
  intro _
  refine ⟨k3, ?_⟩
  intro w15
  have h15 : w15.heap[w8.heap.size]? = some (.cells ⟨[.int .i64 0, .bool (decide (s.getD 1 0 ≠ 0)), .slice none 0 0]⟩ T.y_masonryref1_Head (0, 0)) := h15
  have hF15 : Fr (· = w8.heap.size) w12 w15 := hF15
  clear_value w15
  have hlt8 : w.heap.size < w8.heap.size := heap_lt h8
  have hr15 := hF15.heap (hF12.heap h8 id) (fun h => by have : w.heap.size = w8.heap.size := h; omega)
  have hB12 := hB08.trans ((below_fr hF12).mono hB08.size)
  have hB15 := hB12.trans (hF15.toBelow (B := w.heap.size) (fun k hk => by have : k = w8.heap.size := hk; omega) hB12.size)
  have s12 : w12.heap.size ≤ w15.heap.size := hF15.size
  have hlt12 : w8.heap.size < w12.heap.size := heap_lt h12
  have x1 : (tx s).extract (10 : Int).toNat (12 : Int).toNat = tx ((s.drop 10).take 2) := tx_ext s 10 12
  have x2 : (tx s).extract (2 : Int).toNat (10 : Int).toNat = tx ((s.drop 2).take 8) := tx_ext s 2 10
  rw [x1, x2]
  refine ⟨by decide, by decide, by rw [tx_size]; omega, Num_spec (by simp; omega) ?_⟩
  have e10 : leVal ((s.drop 10).take 2) = num s 10 2 := rfl
  have e28 : leVal ((s.drop 2).take 8) = num s 2 8 := rfl
  rw [e10]
  have ew : w64 ((num s 10 2 : Nat) : Int) = ((num s 10 2 : Nat) : Int) := w64_id (by omega) (by omega)
  rw [ew]
  have hts : (refHd s).ts.length = num s 10 2 := by simp [refHd]
  refine ⟨fun hbig => ?_, fun hsm => ?_⟩
  · have hbig := of_decide_eq_true hbig
    have e : readHead b = (⟨0, false, []⟩, 6) := by
      rw [er, if_neg]
      rintro ⟨hv, _⟩
      have := ((validH_iff _).1 hv).2.2.1
      omega
    exact ret3 hr15 0 false ⟨none, 0, 0⟩ (Q := fun n f l w' => R n f l 6 w') (bad e hB15)
  have hsm : num s 10 2 ≤ 110 := by have := of_decide_eq_false hsm; omega
  refine ⟨by decide, by decide, by rw [tx_size]; omega, Num_spec (by simp; omega) ?_⟩
  rw [e28]
  refine ⟨fun hbig => ?_, fun hsq => ?_⟩
  · have hbig := of_decide_eq_true hbig
    have e : readHead b = (⟨0, false, []⟩, 6) := by
      rw [er, if_neg]
      rintro ⟨hv, _⟩
      have : ((num s 2 8 : Nat) : Int) ≤ 1099511627776 := ((validH_iff _).1 hv).2.1
      omega
    exact ret3 hr15 0 false ⟨none, 0, 0⟩ (Q := fun n f l w' => R n f l 6 w') (bad e hB15)
  have hsq : num s 2 8 ≤ 1099511627776 := by have := of_decide_eq_false hsq; omega
  refine ⟨by decide, by decide, by rw [tx_size]; omega, Num_spec (by simp; omega) ?_⟩
  rw [e28]
  have ew8 : w64 ((num s 2 8 : Nat) : Int) = ((num s 2 8 : Nat) : Int) := w64_id (by omega) (by omega)
  rw [ew8]
  refine ⟨blk_wr0 h15 (by simp), ?_⟩
  intro w25
  have h25 : w25.heap[w8.heap.size]? = some (.cells ⟨[.int .i64 ((num s 2 8 : Nat) : Int), .bool (decide (s.getD 1 0 ≠ 0)), .slice none 0 0]⟩ T.y_masonryref1_Head (0, 0)) := by
    have := blk_set0 h15 (.int .i64 ((num s 2 8 : Nat) : Int))
    simpa using this
  have hF25 : Fr (· = w8.heap.size) w15 w25 := fr_set0 w15 _ _
  clear_value w25
  have hr25 := hF25.heap hr15 (fun h => by have : w.heap.size = w8.heap.size := h; omega)
  have hB25 := hB15.trans (hF25.toBelow (B := w.heap.size) (fun k hk => by have : k = w8.heap.size := hk; omega) hB15.size)
  have s25 := hF25.size
  let f : Nat → Int := fun i => ((num s (12 + 2 * i) 2 : Nat) : Int)
  refine ⟨fun n w' => ∃ (m : Nat) (l : Sl), n = m ∧ m ≤ num s 10 2 ∧ w'.heap[w8.heap.size]? = some (.cells ⟨[.int .i64 ((num s 2 8 : Nat) : Int), .bool (decide (s.getD 1 0 ≠ 0)), .slice l.a l.len l.cap]⟩ T.y_masonryref1_Head (0, 0)) ∧
      Own w' T.y_int 1 l (intCells ((List.range m).map f)) ∧ (∀ k, l.bk k → w12.heap.size ≤ k) ∧ w'.heap[w.heap.size]? = some (.cells ⟨[.int .i64 0, .bool false, .slice none 0 0]⟩ T.y_masonryref1_Head (0, 0)) ∧ w12.heap.size ≤ w'.heap.size ∧ Below w.heap.size w w', fun n _ => (num s 10 2 - n).toNat,
    ⟨0, ⟨none, 0, 0⟩, rfl, Nat.zero_le _, h25, Own.nil _ _ _, fun k hk => bk_nil hk, hr25, by omega, hB25⟩, ?_⟩
  rintro n w26 ⟨m, l, rfl, hm, h26, hO26, hbk26, hr26, hs26, hB26⟩
  refine ⟨fun hlt => ?_, fun hge => ?_⟩
  · have hlt : m < num s 10 2 := by have := of_decide_eq_true hlt; omega
    have e1 : w64 ((m : Int) + 1) = ((m + 1 : Nat) : Int) := by rw [w64_id (by omega) (by omega)]; omega
    have a1 : w64 ((2 : Int) * (m : Int)) = ((2 * m : Nat) : Int) := by rw [w64_id (by omega) (by omega)]; omega
    have a2 : w64 ((12 : Int) + ((2 * m : Nat) : Int)) = ((12 + 2 * m : Nat) : Int) := by rw [w64_id (by omega) (by omega)]; omega
    have a3 : w64 ((14 : Int) + ((2 * m : Nat) : Int)) = ((14 + 2 * m : Nat) : Int) := by rw [w64_id (by omega) (by omega)]; omega
    rw [a1, a2, a3, Int.toNat_natCast, Int.toNat_natCast]
    intro w27
    have h27 : w27.heap[w8.heap.size]? = some (.cells ⟨[.int .i64 ((num s 2 8 : Nat) : Int), .bool (decide (s.getD 1 0 ≠ 0)), .slice l.a l.len l.cap]⟩ T.y_masonryref1_Head (0, 0)) := h26
    have hF27 : Fr no w26 w27 := Fr.drew no w26
    clear_value w27
    have x3 : (tx s).extract (12 + 2 * m) (14 + 2 * m) = tx ((s.drop (12 + 2 * m)).take 2) := by
      rw [tx_ext]
      have : 14 + 2 * m - (12 + 2 * m) = 2 := by omega
      rw [this]
    refine ⟨l, by rw [blk_cell h27]; rfl, by omega, by omega, by rw [tx_size]; omega, ?_⟩
    rw [x3]
    refine Num_spec (by simp; omega) ⟨by rw [blk_cell h27]; rfl, ?_⟩
    have e12 : leVal ((s.drop (12 + 2 * m)).take 2) = num s (12 + 2 * m) 2 := rfl
    have hn12 := num_lt2 s (12 + 2 * m)
    have ew12 : w64 ((num s (12 + 2 * m) 2 : Nat) : Int) = f m := w64_id (by omega) (by omega)
    rw [e12, ew12]
    intro w29
    have hn29 : w29.heap[w27.heap.size]? = some (.cells ⟨[.int .i64 (f m)]⟩ T.y_int (0, 0)) := heap_new w27 _
    have hF29 : Fr no w27 w29 := Fr.alloc no w27 _
    clear_value w29
    have h29 := hF29.heap h27 id
    refine ⟨by rw [blk_cell h29]; rfl, ?_⟩
    have hO29 := (hO26.keep hF27 (fun _ _ => id)).keep hF29 (fun _ _ => id)
    have hll := (Own.ints hO29).1
    simp only [List.length_map, List.length_range] at hll
    refine runT_append und_ints hi hz hs1 hby rfl (by decide) hO29 (m := 1) (news := intCells [f m]) rfl (fun j u hu => by rw [blk_cell hn29 j]; exact hu) (intCells_one _) (by simp only [maxLen]; omega) (by omega) fun l4 w30 ho hl4 hf30 hm30 => ?_
    rw [← intCells_app] at ho
    have h30 := hf30.heap h29 (fun hk => by have := hbk26 _ hk; omega)
    refine ⟨blk_wr h30 (by simp), ?_⟩
    intro w31
    have h31 : w31.heap[w8.heap.size]? = some (.cells ⟨[.int .i64 ((num s 2 8 : Nat) : Int), .bool (decide (s.getD 1 0 ≠ 0)), .slice l4.a l4.len l4.cap]⟩ T.y_masonryref1_Head (0, 0)) := by
      have := blk_set h30 2 (.slice l4.a l4.len l4.cap)
      simpa using this
    have hF31 : Fr (· = w8.heap.size) w30 w31 := fr_set w30 _ 2 _
    clear_value w31
    have z27 := hF27.size
    have z29 := hF29.size
    have z30 := hf30.size
    have z31 := hF31.size
    have hbk4 : ∀ k, l4.bk k → w12.heap.size ≤ k := fun k hk => by
      rcases moved_bk hm30 hk with h | h
      · exact hbk26 k h
      · omega
    refine ⟨⟨m + 1, l4, e1, hlt, h31, ?_, hbk4, ?_, by omega, ?_⟩, ?_⟩
    · rw [List.range_succ, List.map_append]
      exact ho.keep hF31 (fun k hk h => by have := hbk4 k hk; have : k = w8.heap.size := h; omega)
    · exact hF31.heap (hf30.heap (hF29.heap (hF27.heap hr26 id) id) (fun hk => by have := hbk26 _ hk; omega)) (fun h => by have : w.heap.size = w8.heap.size := h; omega)
    · have a1 := hB26.trans ((below_fr hF27).mono hB26.size)
      have a2 := a1.trans ((below_fr hF29).mono a1.size)
      have a3 := a2.trans (hf30.toBelow (B := w.heap.size) (fun k hk => by have := hbk26 k hk; omega) a2.size)
      exact a3.trans (hF31.toBelow (B := w.heap.size) (fun k hk => by have : k = w8.heap.size := hk; omega) a3.size)
    · show (((num s 10 2 : Nat) : Int) - w64 ((m : Int) + 1)).toNat < (((num s 10 2 : Nat) : Int) - (m : Int)).toNat
      rw [e1]; omega
  · have hmm : m = num s 10 2 := by have := of_decide_eq_false hge; omega
    subst hmm
    have eh : refHd s = ⟨((num s 2 8 : Nat) : Int), decide (s.getD 1 0 ≠ 0), (List.range (num s 10 2)).map f⟩ := rfl
    obtain ⟨c0, c1, c2⟩ := head3 h26
    refine ⟨_, c0, _, c1, l, c2, RefValid_spec (Own.ints hO26) (by simp; omega) fun w32 hB32 => ?_⟩
    rw [← eh]
    have hB032 := hB26.trans (hB32.mono hB26.size)
    have hr32 := (fr_below hB32).heap hr26 id
    have h32 := (fr_below hB32).heap h26 id
    refine ⟨fun hnv => ?_, fun hv => ?_⟩
    · have hnv : ¬ validH (refHd s) = true := by simpa using hnv
      have e : readHead b = (⟨0, false, []⟩, 6) := by rw [er, if_neg (fun h => hnv h.1)]
      exact ret3 hr32 0 false ⟨none, 0, 0⟩ (Q := fun n f l w' => R n f l 6 w') (bad e hB032)
    have hv : validH (refHd s) = true := by simpa using hv
    obtain ⟨d0, d1, d2⟩ := head3 h32
    have hO32 := hO26.keep (fr_below hB32) (fun _ _ => id)
    refine ⟨_, d0, _, d1, l, d2, RefLay_head (Own.ints hO32) (by rw [← eh]; exact hv) fun w36 hB36 => ?_⟩
    rw [← eh, tx_eq]
    have hB036 := hB032.trans (hB36.mono hB032.size)
    have hr36 := (fr_below hB36).heap hr32 id
    have h36 := (fr_below hB36).heap h32 id
    refine ⟨fun hne => ?_, fun heq2 => ?_⟩
    · have hne : ¬ (layHead (refHd s)).1 = b := by simpa using hne
      have e : readHead b = (⟨0, false, []⟩, 6) := by rw [er, if_neg (fun h => hne h.2)]
      exact ret3 hr36 0 false ⟨none, 0, 0⟩ (Q := fun n f l w' => R n f l 6 w') (bad e hB036)
    have heq2 : (layHead (refHd s)).1 = b := by simpa using heq2
    rw [er, if_pos ⟨hv, heq2⟩, eh] at hR
    obtain ⟨g0, g1, g2⟩ := head3 h36
    refine ⟨_, g0, _, g1, l, g2, ?_⟩
    refine ret3 hr36 ((num s 2 8 : Nat) : Int) (decide (s.getD 1 0 ≠ 0)) l (Q := fun n f l w' => R n f l 0 w') fun w37 hF37 => ?_
    refine hR l w37 ((hO32.keep (fr_below hB36) (fun _ _ => id)).keep hF37 (fun k hk h => by have := hbk26 k hk; have : k = w.heap.size := h; omega)) (fun k hk => by have := hbk26 k hk; omega) ?_
    exact hB036.trans (hF37.toBelow (fun k hk => by have : k = w.heap.size := hk; omega) hB036.size)

end Go.Proofs.YtepclihkniaieaaGreatDoor
