/- masonryref1: Low, Num, In: the document's own numbers. -/
import Derived.Test.YtepclihkniaieaaDoorSl
set_option linter.unusedVariables false
namespace Go.Proofs.YtepclihkniaieaaDoor
open Go Go.Vc Go.RowKit Go.Lib

theorem leByte_nat (i v : Nat) : leByte i (v : Int) = UInt8.ofNat (v / 256 ^ i % 256) := by
  unfold leByte
  congr 1
  have e : ((2 : Int) ^ (8 * i)) = ((256 ^ i : Nat) : Int) := by rw [Int.natCast_pow, Int.pow_mul]; rfl
  rw [e]
  omega

theorem div256 {q : Nat} (h : q < 18446744073709551616) : wr .u64 ((q : Int).tdiv 256) = ((q / 256 : Nat) : Int) := by
  rw [Int.tdiv_eq_ediv_of_nonneg (by omega), show (q : Int) / 256 = ((q / 256 : Nat) : Int) by omega]
  exact wr64_id (by omega) (by omega)

theorem Low_spec {v n : Nat} (hv : v < 18446744073709551616) (hn : n ≤ 8) {w : World} {R : ByteArray → World → Prop} (hR : ∀ w', Below w.heap.size w w' → R (tx (leBytes n v)) w') : F.masonryref1_Low (v : Int) n w R := by
  obtain ⟨inf, hinf, hz, hs1, hby⟩ := info_byte
  apply E.masonryref1_Low
  unfold V.masonryref1_Low
  refine ⟨fun v1 b i w' => ∃ m : Nat, i = m ∧ m ≤ n ∧ v1 = ((v / 256 ^ m : Nat) : Int) ∧ Own w' T.y_uint8 1 b (bv (leBytes m v)) ∧ (∀ k, b.bk k → w.heap.size ≤ k) ∧ Below w.heap.size w w', fun _ _ i _ => (n - i).toNat,
    ⟨0, rfl, Nat.zero_le _, by simp, Own.nil _ _ _, fun k hk => (by obtain ⟨a, ha, _⟩ := hk; cases ha), Below.refl _ _⟩, ?_⟩
  rintro v1 b i w1 ⟨m, rfl, hm, rfl, hO, hbk, hB⟩
  refine ⟨fun hlt => ?_, fun hge => ?_⟩
  · have hlt : m < n := by have := of_decide_eq_true hlt; omega
    have e1 : w64 ((m : Int) + 1) = ((m + 1 : Nat) : Int) := by rw [w64_id (by omega) (by omega)]; omega
    intro w2
    have h2 : w2.heap[w1.heap.size]? = some (.cells ⟨[.int .u8 (wr .u8 ((v / 256 ^ m : Nat) : Int))]⟩ T.y_uint8 (0, 0)) := heap_new w1 _
    have hF2 : Fr no w1 w2 := Fr.alloc _ _ _
    clear_value w2
    have hb8 : wr .u8 ((v / 256 ^ m : Nat) : Int) = ((leByte m v).toNat : Int) := by
      rw [wr8, leByte_nat]
      generalize v / 256 ^ m = q
      rw [UInt8.toNat_ofNat']
      omega
    rw [hb8] at h2
    have hO2 := hO.keep hF2 (fun _ _ => id)
    have hol := hO2.len
    simp only [bv, List.length_map, leBytes_len, Nat.mul_one] at hol
    refine runT_append und_bytes hinf hz hs1 hby rfl (by decide) hO2 (m := 1) (news := bv [leByte m v]) rfl (fun j u hu => by rw [blk_cell h2 j]; exact hu) (fun u hu => by
      simp only [bv, List.map_cons, List.map_nil, List.mem_singleton] at hu
      subst hu; rfl) (by simp only [maxLen]; omega) (by omega) fun l2 w3 ho hl hf hm3 => ?_
    have hq : v / 256 ^ m < 18446744073709551616 := Nat.lt_of_le_of_lt (Nat.div_le_self _ _) hv
    have hd : wr .u64 ((((v / 256 ^ m : Nat) : Int)).tdiv 256) = ((v / 256 ^ (m + 1) : Nat) : Int) := by
      rw [div256 hq, Nat.div_div_eq_div_mul, ← Nat.pow_succ]
    refine ⟨by decide, ⟨m + 1, e1, hlt, hd, ?_, fun k hk => ?_, (hB.trans ((below_fr hF2).mono hB.size)).trans (hf.toBelow (fun k hk => hbk k hk) (by have := hB.size; have := hF2.size; omega))⟩, ?_⟩
    · rw [leBytes_succ]; simpa [bv] using ho
    · rcases moved_bk hm3 hk with h | h
      · exact hbk k h
      · have := hB.size; have := hF2.size; omega
    · show ((n : Int) - w64 ((m : Int) + 1)).toNat < ((n : Int) - (m : Int)).toNat
      rw [e1]; omega
  · have hge : n ≤ m := by have := of_decide_eq_false hge; omega
    have : m = n := by omega
    subst this
    exact runT_bytes_str und_bytes und_byte und_str hO (hR w1 hB)

theorem Num_spec {l : List UInt8} (hl : l.length ≤ 8) {w : World} {R : Int → World → Prop} (hR : R (leVal l : Nat) w) : F.masonryref1_Num (tx l) w R := by
  apply E.masonryref1_Num
  unfold V.masonryref1_Num
  rw [tx_size]
  refine ⟨fun v i w' => ∃ m : Nat, m ≤ l.length ∧ i = (m : Int) - 1 ∧ v = (leVal (l.drop m) : Int) ∧ w' = w, fun _ i _ => (i + 1).toNat, ⟨l.length, Nat.le_refl _, w64_id (by omega) (by omega), by simp [leVal], rfl⟩, ?_⟩
  rintro v i w1 ⟨m, hm, rfl, rfl, rfl⟩
  refine ⟨fun hge => ?_, fun hlt => ?_⟩
  · have hge : 1 ≤ m := by have := of_decide_eq_true hge; omega
    obtain ⟨q, rfl⟩ : ∃ q, m = q + 1 := ⟨m - 1, by omega⟩
    have hq : q < l.length := by omega
    have hdr : l.drop q = l[q] :: l.drop (q + 1) := List.drop_eq_getElem_cons hq
    have hb1 := leVal_lt (l.drop (q + 1))
    have hb2 : 256 ^ (l.drop (q + 1)).length ≤ 256 ^ 7 := Nat.pow_le_pow_right (by decide) (by simp; omega)
    have h3 : (256 : Nat) ^ 7 = 72057594037927936 := by decide
    have hbq := l[q].toNat_lt
    have ei : ((q + 1 : Nat) : Int) - 1 = (q : Int) := by omega
    rw [ei]
    have hs : sAt (tx l) (q : Int) = (l[q].toNat : Int) := by rw [tx_at]; simp [hq]
    rw [hs]
    have hv : wr .u64 ((wr .u64 ((leVal (l.drop (q + 1)) : Int) * 256)) + (wr .u64 (l[q].toNat : Int))) = (leVal (l.drop q) : Int) := by
      rw [wr64_id (x := (leVal (l.drop (q + 1)) : Int) * 256) (by omega) (by omega), wr64_id (x := (l[q].toNat : Int)) (by omega) (by omega), wr64_id (by omega) (by omega), hdr]
      simp only [leVal]
      omega
    rw [hv]
    have ew : w64 ((q : Int) - 1) = (q : Int) - 1 := w64_id (by omega) (by omega)
    refine ⟨by omega, by omega, ⟨q, by omega, ew, rfl, rfl⟩, ?_⟩
    show (w64 ((q : Int) - 1) + 1).toNat < ((q : Int) + 1).toNat
    rw [ew]; omega
  · have hlt : m = 0 := by have := of_decide_eq_false hlt; omega
    subst hlt
    exact hR

end Go.Proofs.YtepclihkniaieaaDoor
