/- words on numbers, texts and slices that the heads and the disk need. -/
import Derived.Test.YtmokmbhhnbcelaaGreatDoorOv
set_option linter.unusedVariables false
namespace Go.Proofs.YtmokmbhhnbcelaaGreatDoor
open Go Go.Vc Go.RowKit Go.Lib

theorem dw_nil {α : Type} {p : α → Bool} : ∀ {l : List α}, l.dropWhile p = [] ↔ ∀ x ∈ l, p x = true
  | [] => by simp
  | a :: r => by
    rw [List.dropWhile_cons]
    split
    · rename_i h
      rw [dw_nil (l := r)]
      simp [h]
    · rename_i h
      simp [h]

theorem tw_mem {α : Type} {p : α → Bool} {x : α} : ∀ {l : List α}, x ∈ l.takeWhile p → p x = true
  | [], h => by simp at h
  | a :: r, h => by
    rw [List.takeWhile_cons] at h
    split at h
    · rename_i ha
      rcases List.mem_cons.1 h with rfl | h
      · exact ha
      · exact tw_mem h
    · simp at h

theorem trim_nil {set l : List UInt8} : trim set l = [] ↔ l.all (fun b => set.contains b) = true := by
  unfold trim trimL
  rw [dw_nil]
  simp only [List.mem_reverse]
  constructor
  · intro h
    rw [List.all_eq_true]
    intro x hx
    have h3 := List.takeWhile_append_dropWhile (p := fun b => set.contains b) (l := l.reverse)
    have hx' : x ∈ l.reverse := List.mem_reverse.2 hx
    rw [← h3] at hx'
    rcases List.mem_append.1 hx' with h4 | h4
    · exact tw_mem (p := fun b => set.contains b) h4
    · exact h x h4
  · intro h x hx
    exact List.all_eq_true.1 h x (List.mem_reverse.1 ((List.dropWhile_sublist _).mem hx))

theorem setCell_size (w : World) (a : Addr) (v : Value) : (w.setCell a v).heap.size = w.heap.size := by simp [World.setCell]

theorem inIv_lt {g : Nat} : ∀ {l : List (Nat × Nat)}, inIv l g → (l.any fun p => decide (p.1 ≤ g) && decide (g < p.2)) = true
  | [], h => h.elim
  | (a, b) :: r, h => by
    rw [List.any_cons]
    rcases h with ⟨h1, h2⟩ | h
    · simp [h1, h2]
    · rw [inIv_lt h]; simp

theorem lay1_ok {size : Nat} {v : Int} {bs : List UInt8} (h : fitsN size v = true) : lay1 size v (bs, 0) = (bs ++ leBytes size v, 0) := by simp [lay1, layL, h]

theorem add_add (a : Addr) (i j : Nat) : (a.add i).add j = a.add (i + j) := by
  unfold Addr.add
  by_cases hi : i = 0
  · subst hi; simp
  · by_cases hj : j = 0
    · subst hj; simp
    · have : ¬ i + j = 0 := by omega
      simp [hi, hj, Nat.add_assoc]

theorem rawIn_left (n : Int) (l : List UInt8) (e : Int) : (rawIn n l e).2.1.length ≤ l.length := by
  unfold rawIn
  split
  · exact Nat.le_refl _
  split
  · exact Nat.le_refl _
  split
  · exact Nat.le_refl _
  · simp

theorem rawIn_len1 (n : Int) (l : List UInt8) (e : Int) : (rawIn n l e).1.length ≤ l.length := by
  unfold rawIn
  split
  · simp
  split
  · simp
  split
  · simp
  · simp; omega

theorem lowIn_left (n : Nat) (l : List UInt8) (e : Int) : (lowIn n l e).2.1.length ≤ l.length := by
  unfold lowIn
  simp only
  split <;> exact rawIn_left _ _ _

theorem lowIn_bound (n : Nat) (l : List UInt8) (e : Int) (hn : n ≤ 7) : 0 ≤ (lowIn n l e).1 ∧ (lowIn n l e).1 < 256 ^ n := by
  have h1 := leVal_lt (rawIn n l e).1
  have h2 : 256 ^ (rawIn n l e).1.length ≤ 256 ^ n := Nat.pow_le_pow_right (by decide) (rawIn_len n l e)
  have h3 : (256 : Nat) ^ n ≤ 256 ^ 7 := Nat.pow_le_pow_right (by decide) hn
  have h4 : (256 : Nat) ^ 7 = 72057594037927936 := by decide
  have h5 : ((256 : Int) ^ n) = ((256 ^ n : Nat) : Int) := by rw [Int.natCast_pow]; rfl
  unfold lowIn
  simp only
  rw [if_pos (by omega), h5]
  omega

theorem slA0 (a : Option Addr) (cap size : Nat) : slA a cap 0 size = a := by
  unfold slA
  split
  · rfl
  · cases a with
    | none => rfl
    | some x => simp [Addr.add]

theorem slA_ne {g cap l size : Nat} (h : cap ≠ l) : slA (some (blk g)) cap l size = some ⟨g, l * size, none⟩ := by
  simp [slA, h, add_blk]

theorem Own.row {w : World} {t : TypeId} {size : Nat} {l : Sl} {xs : List Value} (h : Own w t size l xs) (hn : l.len ≠ 0) :
    ∃ g cur, l.a = some (blk g) ∧ w.heap[g]? = some (.cells ⟨cur⟩ t (0, 0)) ∧ cur.length = l.cap * size ∧ cur.take (l.len * size) = xs ∧ l.len ≤ l.cap ∧ l.cap ≤ maxLen := by
  rcases h.2 with ⟨h2, h0⟩ | ⟨g, cap, cur, hv, hb, hg, hnc, hcm, hcs, htk⟩
  · exact absurd h0 hn
  · simp only [Value.slice.injEq] at hv
    obtain ⟨h1, _, h3⟩ := hv
    subst h3
    exact ⟨g, cur.toList, h1, hg, by simpa using hcs, htk, hnc, hcm⟩

theorem Own.of {w : World} {t : TypeId} {size : Nat} {g n cap : Nat} {cur : List Value} (hg : w.heap[g]? = some (.cells ⟨cur⟩ t (0, 0))) (hc : cur.length = cap * size) (hn : n ≤ cap) (hm : cap ≤ maxLen) : Own w t size ⟨some (blk g), n, cap⟩ (cur.take (n * size)) :=
  ⟨by rw [List.length_take, hc]; exact Nat.min_eq_left (Nat.mul_le_mul_right _ hn), .inr ⟨g, cap, ⟨cur⟩, rfl, Nat.zero_le _, hg, hn, hm, by simpa using hc, rfl⟩⟩

theorem Own.pre {w : World} {t : TypeId} {size : Nat} {l : Sl} {xs : List Value} (h : Own w t size l xs) {i : Nat} (hi : i ≤ l.len) (hn : l.len ≠ 0) : Own w t size ⟨l.a, i, l.cap⟩ (xs.take (i * size)) := by
  obtain ⟨g, cur, ha, hg, hc, ht, hlc, hm⟩ := Own.row h hn
  rw [ha, ← ht, List.take_take, Nat.min_eq_left (Nat.mul_le_mul_right _ hi)]
  exact Own.of hg hc (Nat.le_trans hi hlc) hm

/-- the room that is left; below 0: none -/
def roomOf (left : Int) : List Int → Int
  | [] => left
  | n :: r => if left < 0 then -1 else if left < n then -1 else roomOf (left - n) r

theorem Room_one {w : World} {h : Nat} {n left : Int} (hh : w.heap[h]? = some (.cells ⟨[.int .i64 n]⟩ T.y_int (0, 0))) (hl : -1 ≤ left) (hl2 : left < 9223372036854775808) (hn : 0 ≤ n) {R : Int → World → Prop} (hR : R (roomOf left [n]) w) :
    F.masonrybook_Room left ⟨some (blk h), 1, 1⟩ w R := by
  apply E.masonrybook_Room
  unfold V.masonrybook_Room
  refine ⟨fun x i w' => w' = w ∧ ((i = 0 ∧ x = left) ∨ (i = 1 ∧ x = roomOf left [n])), fun _ i _ => (1 - i).toNat, ⟨rfl, .inl ⟨rfl, rfl⟩⟩, ?_⟩
  rintro x i w' ⟨rfl, ⟨rfl, rfl⟩ | ⟨rfl, rfl⟩⟩
  · refine ⟨fun _ => ⟨fun hneg => ?_, fun hpos => ?_⟩, fun hf => by simp at hf⟩
    · have hneg : x < 0 := of_decide_eq_true hneg
      have e : roomOf x [n] = -1 := by simp [roomOf, hneg]
      rw [e] at hR; exact hR
    have hpos : ¬ x < 0 := of_decide_eq_false hpos
    have hc : w'.cell? ((blk h).add ((0 : Int).toNat * 1)) = some (.int .i64 n) := by have := blk_cell hh 0; simpa using this
    refine ⟨blk h, rfl, by decide, by show (0 : Int) < 1; decide, n, hc, fun hbig => ?_, fun hsm => ?_⟩
    · have hbig : x < n := by have := of_decide_eq_true hbig; omega
      have e : roomOf x [n] = -1 := by simp [roomOf, hpos, hbig]
      rw [e] at hR; exact hR
    have hsm : ¬ x < n := by have := of_decide_eq_false hsm; omega
    have e : roomOf x [n] = x - n := by simp [roomOf, hpos, hsm]
    refine ⟨blk h, rfl, by decide, by show (0 : Int) < 1; decide, n, hc, ⟨rfl, .inr ⟨by rw [w64_id (by decide) (by decide)]; rfl, by rw [w64_id (by omega) (by omega), e]⟩⟩, ?_⟩
    show ((1 : Int) - w64 (0 + 1)).toNat < ((1 : Int) - 0).toNat
    rw [w64_id (by decide) (by decide)]; decide
  · exact ⟨fun ht => by simp at ht, fun _ => hR⟩

theorem roomOf_one {left n : Int} (hl : -1 ≤ left) (hn : 0 ≤ n) : -1 ≤ roomOf left [n] ∧ (roomOf left [n] ≤ left ∨ roomOf left [n] = -1) ∧ (0 ≤ roomOf left [n] → 0 ≤ left ∧ n ≤ left) := by
  unfold roomOf roomOf
  split
  · omega
  · split
    · omega
    · omega

theorem leByte_nat (i v : Nat) : leByte i (v : Int) = UInt8.ofNat (v / 256 ^ i % 256) := by
  unfold leByte
  congr 1
  have e : ((2 : Int) ^ (8 * i)) = ((256 ^ i : Nat) : Int) := by rw [Int.natCast_pow, Int.pow_mul]; rfl
  rw [e]
  omega

theorem div256 {q : Nat} (h : q < 18446744073709551616) : wr .u64 ((q : Int).tdiv 256) = ((q / 256 : Nat) : Int) := by
  rw [Int.tdiv_eq_ediv_of_nonneg (by omega), show (q : Int) / 256 = ((q / 256 : Nat) : Int) by omega]
  exact wr64_id (by omega) (by omega)

theorem Low_spec {v n : Nat} (hv : v < 18446744073709551616) (hn : n ≤ 8) {w : World} {R : ByteArray → World → Prop} (hR : ∀ w', Below w.heap.size w w' → R (tx (leBytes n v)) w') : F.masonryref1_Low (v : Int) n w R := by
  obtain ⟨inf, hinf, hz, hs1, hby⟩ := info_byte
  apply E.masonryref1_Low
  unfold V.masonryref1_Low
  refine ⟨fun v1 b i w' => ∃ m : Nat, i = m ∧ m ≤ n ∧ v1 = ((v / 256 ^ m : Nat) : Int) ∧ Own w' T.y_uint8 1 b (bv (leBytes m v)) ∧ (∀ k, b.bk k → w.heap.size ≤ k) ∧ Below w.heap.size w w', fun _ _ i _ => (n - i).toNat,
    ⟨0, rfl, Nat.zero_le _, by simp, Own.nil _ _ _, fun k hk => (by obtain ⟨a, ha, _⟩ := hk; cases ha), Below.refl _ _⟩, ?_⟩
  rintro v1 b i w1 ⟨m, rfl, hm, rfl, hO, hbk, hB⟩
  refine ⟨fun hlt => ?_, fun hge => ?_⟩
  · have hlt : m < n := by have := of_decide_eq_true hlt; omega
    have e1 : w64 ((m : Int) + 1) = ((m + 1 : Nat) : Int) := by rw [w64_id (by omega) (by omega)]; omega
    intro w2
    have h2 : w2.heap[w1.heap.size]? = some (.cells ⟨[.int .u8 (wr .u8 ((v / 256 ^ m : Nat) : Int))]⟩ T.y_uint8 (0, 0)) := heap_new w1 _
    have hF2 : Fr no w1 w2 := Fr.alloc _ _ _
    clear_value w2
    have hb8 : wr .u8 ((v / 256 ^ m : Nat) : Int) = ((leByte m v).toNat : Int) := by
      rw [wr8, leByte_nat]
      generalize v / 256 ^ m = q
      rw [UInt8.toNat_ofNat']
      omega
    rw [hb8] at h2
    have hO2 := hO.keep hF2 (fun _ _ => id)
    have hol := hO2.len
    simp only [bv, List.length_map, leBytes_len, Nat.mul_one] at hol
    refine runT_append und_bytes hinf hz hs1 hby rfl (by decide) hO2 (m := 1) (news := bv [leByte m v]) rfl (fun j u hu => by rw [blk_cell h2 j]; exact hu) (fun u hu => by
      simp only [bv, List.map_cons, List.map_nil, List.mem_singleton] at hu
      subst hu; rfl) (by simp only [maxLen]; omega) (by omega) fun l2 w3 ho hl hf hm3 => ?_
    have hq : v / 256 ^ m < 18446744073709551616 := Nat.lt_of_le_of_lt (Nat.div_le_self _ _) hv
    have hd : wr .u64 ((((v / 256 ^ m : Nat) : Int)).tdiv 256) = ((v / 256 ^ (m + 1) : Nat) : Int) := by
      rw [div256 hq, Nat.div_div_eq_div_mul, ← Nat.pow_succ]
    refine ⟨by decide, ⟨m + 1, e1, hlt, hd, ?_, fun k hk => ?_, (hB.trans ((below_fr hF2).mono hB.size)).trans (hf.toBelow (fun k hk => hbk k hk) (by have := hB.size; have := hF2.size; omega))⟩, ?_⟩
    · rw [leBytes_succ]; simpa [bv] using ho
    · rcases moved_bk hm3 hk with h | h
      · exact hbk k h
      · have := hB.size; have := hF2.size; omega
    · show ((n : Int) - w64 ((m : Int) + 1)).toNat < ((n : Int) - (m : Int)).toNat
      rw [e1]; omega
  · have hge : n ≤ m := by have := of_decide_eq_false hge; omega
    have : m = n := by omega
    subst this
    exact runT_bytes_str und_bytes und_byte und_str hO (hR w1 hB)

theorem Num_spec {l : List UInt8} (hl : l.length ≤ 8) {w : World} {R : Int → World → Prop} (hR : R (leVal l : Nat) w) : F.masonryref1_Num (tx l) w R := by
  apply E.masonryref1_Num
  unfold V.masonryref1_Num
  rw [tx_size]
  refine ⟨fun v i w' => ∃ m : Nat, m ≤ l.length ∧ i = (m : Int) - 1 ∧ v = (leVal (l.drop m) : Int) ∧ w' = w, fun _ i _ => (i + 1).toNat, ⟨l.length, Nat.le_refl _, w64_id (by omega) (by omega), by simp [leVal], rfl⟩, ?_⟩
  rintro v i w1 ⟨m, hm, rfl, rfl, rfl⟩
  refine ⟨fun hge => ?_, fun hlt => ?_⟩
  · have hge : 1 ≤ m := by have := of_decide_eq_true hge; omega
    obtain ⟨q, rfl⟩ : ∃ q, m = q + 1 := ⟨m - 1, by omega⟩
    have hq : q < l.length := by omega
    have hdr : l.drop q = l[q] :: l.drop (q + 1) := List.drop_eq_getElem_cons hq
    have hb1 := leVal_lt (l.drop (q + 1))
    have hb2 : 256 ^ (l.drop (q + 1)).length ≤ 256 ^ 7 := Nat.pow_le_pow_right (by decide) (by simp; omega)
    have h3 : (256 : Nat) ^ 7 = 72057594037927936 := by decide
    have hbq := l[q].toNat_lt
    have ei : ((q + 1 : Nat) : Int) - 1 = (q : Int) := by omega
    rw [ei]
    have hs : sAt (tx l) (q : Int) = (l[q].toNat : Int) := by rw [tx_at]; simp [hq]
    rw [hs]
    have hv : wr .u64 ((wr .u64 ((leVal (l.drop (q + 1)) : Int) * 256)) + (wr .u64 (l[q].toNat : Int))) = (leVal (l.drop q) : Int) := by
      rw [wr64_id (x := (leVal (l.drop (q + 1)) : Int) * 256) (by omega) (by omega), wr64_id (x := (l[q].toNat : Int)) (by omega) (by omega), wr64_id (by omega) (by omega), hdr]
      simp only [leVal]
      omega
    rw [hv]
    have ew : w64 ((q : Int) - 1) = (q : Int) - 1 := w64_id (by omega) (by omega)
    refine ⟨by omega, by omega, ⟨q, by omega, ew, rfl, rfl⟩, ?_⟩
    show (w64 ((q : Int) - 1) + 1).toNat < ((q : Int) + 1).toNat
    rw [ew]; omega
  · have hlt : m = 0 := by have := of_decide_eq_false hlt; omega
    subst hlt
    exact hR

theorem rawIn_err {n : Int} {l : List UInt8} {e : Int} (h : e ≠ 0) : rawIn n l e = ([], l, e) := by simp [rawIn, h]

theorem lowIn_err {n : Nat} {l : List UInt8} {e : Int} (h : e ≠ 0) : lowIn n l e = (0, l, e) := by simp [lowIn, rawIn_err h, leVal]

/-- how much a raw read takes -/
theorem rawIn_took {n : Int} {l : List UInt8} {e : Int} (h : (rawIn n l e).2.2 = 0) : (rawIn n l e).1.length + (rawIn n l e).2.1.length = l.length ∧ e = 0 ∧ ((rawIn n l e).1.length : Int) = n := by
  unfold rawIn at h ⊢
  split at h
  · rename_i he; exact absurd h he
  · rename_i he
    have he : e = 0 := by simpa using he
    rw [if_neg (by simp [he])]
    split at h
    · cases h
    · rename_i h1
      rw [if_neg h1]
      split at h
      · cases h
      · rename_i h2
        rw [if_neg h2]
        simp only [List.length_take, List.length_drop]
        omega

theorem lowIn_took {size : Nat} (hs : size ≤ 7) {l : List UInt8} {e : Int} (h : (lowIn size l e).2.2 = 0) : size + (lowIn size l e).2.1.length = l.length ∧ e = 0 := by
  have hlen := rawIn_len size l e
  have hlt := leVal_lt (rawIn size l e).1
  have h2 : 256 ^ (rawIn size l e).1.length ≤ 256 ^ 7 := Nat.pow_le_pow_right (by decide) (by omega)
  have h4 : (256 : Nat) ^ 7 = 72057594037927936 := by decide
  have el : lowIn size l e = ((leVal (rawIn size l e).1 : Int), (rawIn size l e).2.1, (rawIn size l e).2.2) := by simp only [lowIn]; rw [if_pos (by omega)]
  rw [el] at h ⊢
  obtain ⟨a1, a2, a3⟩ := rawIn_took h
  exact ⟨by simp only; omega, a2⟩

theorem Own.isNil {w : World} {t : TypeId} {size : Nat} {l : Sl} {xs : List Value} (h : Own w t size l xs) (ha : l.a = none) : l = ⟨none, 0, 0⟩ ∧ xs = [] := by
  rcases h.2 with ⟨h2, h0⟩ | ⟨g, cap, cur, hv, _⟩
  · simp only [Value.slice.injEq] at h2
    refine ⟨by cases l; simp_all, List.eq_nil_of_length_eq_zero (by have := h.1; rw [h0] at this; simpa using this)⟩
  · simp only [Value.slice.injEq] at hv
    rw [ha] at hv; cases hv.1

theorem und_int : Pg.underlying T.y_int = some (.int .i64) := by kernel_rfl

/-- the texts of a slice -/
def Texts (w : World) (sl : Sl) (ts : List (List UInt8)) : Prop := sl.len = ts.length ∧ ∀ j t, ts[j]? = some t → ∃ a, sl.a = some a ∧ w.cell? (a.add (j * 1)) = some (.string (tx t))

theorem Texts.below {w w' : World} {sl : Sl} {ts : List (List UInt8)} (h : Texts w sl ts) (hw : Below w.heap.size w w') : Texts w' sl ts :=
  ⟨h.1, fun j n hj => by
    obtain ⟨a, ha, h1⟩ := h.2 j n hj
    exact ⟨a, ha, by rw [hw.cell (World.block_lt_of_cell? w _ h1)]; exact h1⟩⟩

/-- append of whatever slice, nil too -/
theorem app_any {P : Program} {w : World} {t ty e : TypeId} {i : TypeInfo} {z : Value} {size bytes : Nat} (ht : P.underlying t = some (.slice e)) (hi : P.info? e = some i) (hz : i.zero = some z)
    (hsize : i.size = size) (hby : i.bytes = bytes) (hzs : z.cells.size = size) (hsz : 0 < size) {l : Sl} {xs : List Value} (hown : Own w e size l xs)
    {src : Sl} {news : List Value} (hnil : src.a = none → src = ⟨none, 0, 0⟩) (hl : news.length = src.len * size) (hnews : ∀ a, src.a = some a → ∀ j u, news[j]? = some u → w.cell? (a.add j) = some u) (h1 : ∀ u ∈ news, u.oneCell' = true)
    (h63 : l.len + src.len ≤ maxLen) (hbytes : (l.len + src.len) * bytes ≤ 140737488355328) {R : Sl → World → Prop}
    (hR : ∀ l' w', Own w' e size l' (xs ++ news) → l'.len = l.len + src.len → Fr l.bk w w' → Moved w l l' → R l' w') :
    RunT P (Builtin.append_ #[t, t] ty #[.slice l.a l.len l.cap, .slice src.a src.len src.cap]) [.one .slice] w R := by
  cases ha : src.a with
  | none =>
    have hs := hnil ha
    subst hs
    have hn : news = [] := List.eq_nil_of_length_eq_zero (by rw [hl]; simp)
    subst hn
    have hr := run_append_owned_none (P := P) w 0 t ty e i size ht hi (.slice l.a l.len l.cap) l.len xs hown
    exact runT_slice hr (hR l w (by rw [List.append_nil]; exact hown) rfl (Fr.refl _ _) (moved_refl _ _))
  | some a => exact runT_append ht hi hz hsize hby hzs hsz hown hl (hnews a ha) h1 h63 hbytes hR

def textCells (ts : List (List UInt8)) : List Value := ts.map fun t => .string (tx t)

theorem textCells_one (ts : List (List UInt8)) : ∀ u ∈ textCells ts, u.oneCell' = true := by
  intro u hu
  simp only [textCells, List.mem_map] at hu
  obtain ⟨_, _, rfl⟩ := hu
  rfl

theorem und_strs : Pg.underlying T.y_sl_string = some (.slice T.y_string) := by kernel_rfl

theorem info_str : ∃ i, Pg.info? T.y_string = some i ∧ i.zero = some (.string sNil) ∧ i.size = 1 ∧ i.bytes = 16 := by
  have h : (Pg.info? T.y_string).map (fun i => (i.zero, i.size, i.bytes)) = some (some (.string sNil), 1, 16) := by kernel_rfl
  obtain ⟨i, hi, h2⟩ := Option.map_eq_some_iff.1 h
  simp only [Prod.mk.injEq] at h2
  exact ⟨i, hi, h2.1, h2.2.1, h2.2.2⟩

theorem Own.texts {w : World} {l : Sl} {ts : List (List UInt8)} (h : Own w T.y_string 1 l (textCells ts)) : Texts w l ts := by
  refine ⟨by have := h.len; simp [textCells] at this; omega, fun j t hj => ?_⟩
  obtain ⟨a, ha, hc⟩ := h.cell (j := j) (u := .string (tx t)) (by simp [textCells, hj])
  exact ⟨a, ha, by rw [Nat.mul_one]; exact hc⟩

theorem Texts.cell {w : World} {sl : Sl} {ts : List (List UInt8)} (h : Texts w sl ts) {a : Addr} (ha : sl.a = some a) : ∀ j u, (textCells ts)[j]? = some u → w.cell? (a.add j) = some u := by
  intro j u hu
  simp only [textCells, List.getElem?_map, Option.map_eq_some_iff] at hu
  obtain ⟨t, ht, rfl⟩ := hu
  obtain ⟨a', ha', hc⟩ := h.2 j t ht
  rw [ha] at ha'
  injection ha' with ha'
  subst ha'
  rwa [Nat.mul_one] at hc

/-- a nil slice is the nil slice -/
def NilOk (s : Sl) : Prop := s.a = none → s = ⟨none, 0, 0⟩

theorem bk_nil {P : Prop} {k : Nat} (h : (⟨none, 0, 0⟩ : Sl).bk k) : P := by obtain ⟨a, ha, _⟩ := h; cases ha

theorem SameTexts_spec {w : World} {al bl : Sl} {us vs : List (List UInt8)} (hA : Texts w al us) (hB : Texts w bl vs) (hb : us.length ≤ 1000000000) {R : Bool → World → Prop} (hR : ∀ w', Below w.heap.size w w' → R (decide (us = vs)) w') : F.masonrybook_SameTexts al bl w R := by
  apply E.masonrybook_SameTexts
  unfold V.masonrybook_SameTexts
  have hl1 := hA.1
  have hl2 := hB.1
  refine ⟨fun hne => ?_, fun heq => ?_⟩
  · have hne : us.length ≠ vs.length := fun h => by rw [hl1, hl2, h] at hne; simp at hne
    have : decide (us = vs) = false := decide_eq_false fun h => hne (by rw [h])
    rw [← this]; exact hR w (Below.refl _ _)
  have heq : us.length = vs.length := by rw [hl1, hl2] at heq; simp at heq; omega
  refine ⟨fun i w' => ∃ m : Nat, i = m ∧ m ≤ us.length ∧ us.take m = vs.take m ∧ Below w.heap.size w w', fun i _ => (us.length - i).toNat, ⟨0, rfl, Nat.zero_le _, rfl, Below.refl _ _⟩, ?_⟩
  rintro i w1 ⟨m, rfl, hm, htk, hBw⟩
  refine ⟨fun hlt => ?_, fun hge => ?_⟩
  · have hlt : m < us.length := by have := of_decide_eq_true hlt; omega
    have hlt2 : m < vs.length := by omega
    have e1 : w64 ((m : Int) + 1) = ((m + 1 : Nat) : Int) := by rw [w64_id (by omega) (by omega)]; omega
    intro w2
    have hBd : Below w.heap.size w w2 := hBw.drew
    clear_value w2
    obtain ⟨a, ha, hc1⟩ := (hA.below hBd).2 m us[m] (by simp [hlt])
    obtain ⟨b, hb', hd1⟩ := (hB.below hBd).2 m vs[m] (by simp [hlt2])
    refine ⟨a, ha, by omega, by omega, tx us[m], by simpa using hc1, b, hb', by omega, by omega, tx vs[m], by simpa using hd1, ?_⟩
    rw [tx_eq]
    refine ⟨fun h => ?_, fun h => ?_⟩
    · have h : us[m] ≠ vs[m] := by simpa using h
      have : decide (us = vs) = false := decide_eq_false fun h' => h (by subst h'; rfl)
      rw [← this]; exact hR _ hBd
    have h : us[m] = vs[m] := by simpa using h
    refine ⟨⟨m + 1, e1, hlt, ?_, hBd⟩, ?_⟩
    · rw [List.take_succ_eq_append_getElem hlt, List.take_succ_eq_append_getElem hlt2, htk, h]
    · show ((us.length : Int) - w64 ((m : Int) + 1)).toNat < ((us.length : Int) - (m : Int)).toNat
      rw [e1]; omega
  · have hge : us.length ≤ m := by have := of_decide_eq_false hge; omega
    have : m = us.length := by omega
    subst this
    have h : us = vs := by rw [List.take_length, heq, List.take_length] at htk; exact htk
    have : decide (us = vs) = true := decide_eq_true h
    rw [← this]; exact hR w1 hBw

end Go.Proofs.YtmokmbhhnbcelaaGreatDoor
