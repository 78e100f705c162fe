/- masonryref1 at heads: the sum of bytes, sealing, opening, a head that may be, is laid, is read. -/
import Derived.Test.YtepclihkniaieaaGreatDoorHy
set_option linter.unusedVariables false
namespace Go.Proofs.YtepclihkniaieaaGreatDoor
open Go Go.Vc Go.RowKit Go.Lib

def stepsN : Nat → Nat → Nat
  | 0, x => x
  | c + 1, x => step (stepsN c x)
theorem stepsN_lt : ∀ (c : Nat) {x : Nat}, x < 4294967296 → stepsN c x < 4294967296
  | 0, _, h => h
  | c + 1, _, h => step_lt (stepsN_lt c h)

theorem Crc_spec {s : List UInt8} (hs : s.length ≤ 1099511627776) {w : World} {R : Int → World → Prop} (hR : R ((crcL s : Nat) : Int) w) : F.masonryref1_Crc (tx s) w R := by
  apply E.masonryref1_Crc
  unfold V.masonryref1_Crc
  rw [tx_size]
  refine ⟨fun x n w' => w' = w ∧ ∃ m : Nat, n = m ∧ m ≤ s.length ∧ x = (((s.take m).foldl crcB 4294967295 : Nat) : Int), fun _ n _ => (s.length - n).toNat, ⟨rfl, 0, rfl, Nat.zero_le _, rfl⟩, ?_⟩
  rintro x n w1 ⟨rfl, m, rfl, hm, rfl⟩
  refine ⟨fun hlt => ?_, fun hge => ?_⟩
  · have hlt : m < s.length := by have := of_decide_eq_true hlt; omega
    have e1 : w64 ((m : Int) + 1) = ((m + 1 : Nat) : Int) := by rw [w64_id (by omega) (by omega)]; omega
    have hx := crcF_lt (s.take m) (x := 4294967295) (by decide)
    have htk : (s.take (m + 1)).foldl crcB 4294967295 = crcB ((s.take m).foldl crcB 4294967295) s[m] := by rw [List.take_succ_eq_append_getElem hlt, List.foldl_append]; rfl
    generalize hX : (s.take m).foldl crcB 4294967295 = X at hx htk
    have hbt := s[m].toNat_lt
    have ea : wr .u32 (sAt (tx s) (m : Int)) = ((s[m].toNat : Nat) : Int) := by
      rw [tx_at]
      have : s.getD m 0 = s[m] := by simp [hlt]
      rw [this]
      exact wr32_id (by omega)
    have ex : bits .xor .u32 (X : Int) (((s[m].toNat : Nat) : Int)) = ((X ^^^ s[m].toNat : Nat) : Int) := u32_xor_nat _ _ hx (by omega)
    have hy : X ^^^ s[m].toNat < 4294967296 := Nat.xor_lt_two_pow (n := 32) hx (by omega)
    rw [ea, ex]
    refine ⟨by omega, by omega, fun x k w' => w' = w1 ∧ ∃ c : Nat, k = c ∧ c ≤ 8 ∧ x = ((stepsN c (X ^^^ s[m].toNat) : Nat) : Int), fun _ k _ => (8 - k).toNat, ⟨rfl, 0, rfl, Nat.zero_le _, rfl⟩, ?_⟩
    rintro x k w2 ⟨rfl, c, rfl, hc, rfl⟩
    have hq := stepsN_lt c hy
    generalize hQ : stepsN c (X ^^^ s[m].toNat) = Q at hq
    refine ⟨fun hlt2 => ?_, fun hge2 => ?_⟩
    · have hlt2 : c < 8 := by have := of_decide_eq_true hlt2; omega
      have e2 : w64 ((c : Int) + 1) = ((c + 1 : Nat) : Int) := by rw [w64_id (by omega) (by omega)]; omega
      have hmeas : ((8 : Int) - w64 ((c : Int) + 1)).toNat < ((8 : Int) - (c : Int)).toNat := by rw [e2]; omega
      have ed : (Q : Int).tdiv 2 = ((Q / 2 : Nat) : Int) := by rw [Int.tdiv_eq_ediv_of_nonneg (by omega)]; rfl
      have em : (Q : Int).tmod 2 = ((Q % 2 : Nat) : Int) := by rw [Int.tmod_eq_emod_of_nonneg (by omega)]; rfl
      rw [ed, em, wr32_id (by omega)]
      have hst : stepsN (c + 1) (X ^^^ s[m].toNat) = step Q := by rw [← hQ]; rfl
      refine ⟨by decide, by decide, fun ho => ⟨⟨rfl, c + 1, e2, hlt2, ?_⟩, hmeas⟩, fun he => ⟨⟨rfl, c + 1, e2, hlt2, ?_⟩, hmeas⟩⟩
      · have ho : Q % 2 = 1 := by
          have : ((Q % 2 : Nat) : Int) = 1 := by simpa using ho
          omega
        rw [hst]
        have : step Q = (Q / 2) ^^^ 3988292384 := by simp [step, ho]
        rw [this]
        exact u32_xor_nat _ _ (by omega) (by decide)
      · have he : ¬ Q % 2 = 1 := fun h => by rw [h] at he; simp at he
        rw [hst]
        have : step Q = Q / 2 := by simp [step, he]
        rw [this]
    · have hc8 : c = 8 := by have := of_decide_eq_false hge2; omega
      subst hc8
      refine ⟨⟨rfl, m + 1, e1, hlt, ?_⟩, ?_⟩
      · rw [htk, ← hQ]; rfl
      · show ((s.length : Int) - w64 ((m : Int) + 1)).toNat < ((s.length : Int) - (m : Int)).toNat
        rw [e1]; omega
  · have hmm : m = s.length := by have := of_decide_eq_false hge; omega
    subst hmm
    rw [List.take_length]
    have ex : bits .xor .u32 (IntKind.max .u32) ((s.foldl crcB 4294967295 : Nat) : Int) = ((crcL s : Nat) : Int) := by
      have := u32_xor_nat 4294967295 (s.foldl crcB 4294967295) (by decide) (crcF_lt s (by decide))
      rw [Nat.xor_comm] at this
      exact this
    rw [ex]
    exact hR

theorem Zeros_spec {n : Nat} (hn : n ≤ 100000000) {w : World} {R : ByteArray → World → Prop} (hR : ∀ w', Below w.heap.size w w' → R (tx (List.replicate n 0)) w') : F.masonryref1_Zeros (n : Int) w R := by
  obtain ⟨i, hi, hz, hs1, hby⟩ := info_byte
  apply E.masonryref1_Zeros
  unfold V.masonryref1_Zeros
  refine runT_make und_bytes hi hz hs1 (by rw [hby]; omega) (by simp only [maxLen]; omega) fun w2 hO2 hF2 hs2 => ?_
  have hmk : (madeCells (Value.int .u8 0).cells (n * 1)).toList = (List.replicate n (0 : UInt8)).map fun b => Value.int .u8 (b.toNat : Int) := by
    have h := toList_madeCells_one (Value.int .u8 0) (n * 1)
    rw [show (Value.int IntKind.u8 0).cells = #[Value.int .u8 0] from rfl, h]
    simp
  rw [hmk] at hO2
  exact runT_bytes_str und_bytes und_byte und_str hO2 (hR w2 (below_fr hF2))

theorem RefSeal_spec {n : Nat} (h4 : 4 ≤ n) (hn : n ≤ 65536) {s : List UInt8} (hs : s.length ≤ 1000000000) {w : World} {R : ByteArray → Int → World → Prop}
    (hR : ∀ w', Below w.heap.size w w' → R (tx (sealL n s).1) (sealL n s).2 w') : F.masonryref1_Seal (n : Int) (tx s) w R := by
  apply E.masonryref1_Seal
  unfold V.masonryref1_Seal
  rw [tx_size]
  have e2 : w64 ((n : Int) - 4) = ((n - 4 : Nat) : Int) := by rw [w64_id (by omega) (by omega)]; omega
  rw [e2]
  refine ⟨fun h => by have := of_decide_eq_true h; omega, fun _ => ⟨fun h => by have := of_decide_eq_true h; omega, fun _ => ⟨fun hl => ?_, fun hl => ?_⟩⟩⟩
  · have hl : ¬ s.length ≤ n - 4 := by have := of_decide_eq_true hl; omega
    have es : sealL n s = ([], 2) := by simp [sealL, hl]
    rw [es] at hR
    exact hR w (Below.refl _ _)
  have hl : s.length ≤ n - 4 := by have := of_decide_eq_false hl; omega
  rw [sealL_ok hl] at hR
  have e3 : w64 (((n - 4 : Nat) : Int) - (s.length : Int)) = ((n - 4 - s.length : Nat) : Int) := by rw [w64_id (by omega) (by omega)]; omega
  rw [e3]
  refine Zeros_spec (by omega) fun w1 hB1 => ?_
  rw [tx_app]
  have hp : s ++ List.replicate (n - 4 - s.length) 0 = padTo (n - 4) s := rfl
  rw [hp]
  have hpl := padTo_len hl
  refine ⟨by rw [tx_size, List.length_replicate]; omega, Crc_spec (by omega) ?_⟩
  have hc := crcL_lt (padTo (n - 4) s)
  rw [wr64_id (by omega) (by omega)]
  refine Low_spec (n := 4) (by omega) (by decide) fun w2 hB2 => ?_
  rw [tx_app]
  refine ⟨by rw [tx_size, tx_size, leBytes_len]; omega, hR w2 (hB1.trans (hB2.mono hB1.size))⟩

theorem leBytes_leVal : ∀ (l : List UInt8), leBytes l.length ((leVal l : Nat) : Int) = l := by
  have key : ∀ (l r : List UInt8), l.length = r.length → leVal l = leVal r → l = r := by
    intro l
    induction l with
    | nil => intro r h _; exact (List.eq_nil_of_length_eq_zero h.symm).symm
    | cons a l ih =>
      intro r h hv
      cases r with
      | nil => simp at h
      | cons b r =>
        simp only [leVal] at hv
        have ha := a.toNat_lt
        have hb := b.toNat_lt
        have h1 : a.toNat = b.toNat := by omega
        have h2 : leVal l = leVal r := by omega
        rw [UInt8.toNat.inj h1, ih r (by simpa using h) h2]
  intro l
  refine key _ _ (leBytes_len _ _) ?_
  rw [leVal_leBytes]
  exact Nat.mod_eq_of_lt (leVal_lt l)

theorem RefOpen_spec {b : List UInt8} (hb : b.length ≤ 1000000000) {w : World} {R : ByteArray → Int → World → Prop} (hR : ∀ w', Below w.heap.size w w' → R (tx (openB b).1) (openB b).2 w') : F.masonryref1_Open (tx b) w R := by
  apply E.masonryref1_Open
  unfold V.masonryref1_Open
  rw [tx_size]
  refine ⟨fun h => ?_, fun h => ?_⟩
  · have h := of_decide_eq_true h
    have : openB b = ([], 5) := by unfold openB; rw [if_pos (by omega)]
    rw [this] at hR
    exact hR w (Below.refl _ _)
  have h := of_decide_eq_false h
  have e1 : w64 ((b.length : Int) - 4) = ((b.length - 4 : Nat) : Int) := by rw [w64_id (by omega) (by omega)]; omega
  rw [e1, Int.toNat_natCast]
  have hx2 : (tx b).extract 0 (b.length - 4) = tx (b.take (b.length - 4)) := by rw [tx_ext]; simp
  rw [hx2]
  have hc := crcL_lt (b.take (b.length - 4))
  refine ⟨by omega, by omega, Crc_spec (by simp; omega) ?_⟩
  rw [wr64_id (by omega) (by omega)]
  refine Low_spec (n := 4) (by omega) (by decide) fun w2 hB2 => ?_
  rw [tx_app, tx_eq]
  refine ⟨by rw [tx_size, tx_size, leBytes_len, List.length_take]; omega, ?_⟩
  have eo : openB b = if leVal (b.drop (b.length - 4)) = crcL (b.take (b.length - 4)) then (b.take (b.length - 4), 0) else ([], 7) := by
    unfold openB; rw [if_neg (by omega)]
  have hiff : b.take (b.length - 4) ++ leBytes 4 ((crcL (b.take (b.length - 4)) : Nat) : Int) = b ↔ leVal (b.drop (b.length - 4)) = crcL (b.take (b.length - 4)) := by
    have hdl : (b.drop (b.length - 4)).length = 4 := by simp; omega
    constructor
    · intro he
      have h2 : leBytes 4 ((crcL (b.take (b.length - 4)) : Nat) : Int) = b.drop (b.length - 4) := by
        have h3 : b.take (b.length - 4) ++ leBytes 4 ((crcL (b.take (b.length - 4)) : Nat) : Int) = b.take (b.length - 4) ++ b.drop (b.length - 4) := by rw [he, List.take_append_drop]
        exact List.append_cancel_left h3
      rw [← h2, leVal_leBytes]
      exact Nat.mod_eq_of_lt (by have : (256 : Nat) ^ 4 = 4294967296 := by decide
                                 omega)
    · intro he
      rw [← he]
      have := leBytes_leVal (b.drop (b.length - 4))
      rw [hdl] at this
      rw [this, List.take_append_drop]
  refine ⟨fun hne => ?_, fun heq => ?_⟩
  · have hne : ¬ leVal (b.drop (b.length - 4)) = crcL (b.take (b.length - 4)) := fun hh => by rw [decide_eq_true (hiff.2 hh)] at hne; simp at hne
    rw [eo, if_neg hne] at hR
    exact hR w2 hB2
  · have heq := hiff.1 (by simpa using heq)
    rw [eo, if_pos heq] at hR
    exact hR w2 hB2

theorem RefValid_spec {w : World} {seq : Int} {full : Bool} {tl : Sl} {ts : List Int} (hT : Ints w tl ts) (hbig : ts.length ≤ 1000000000) {R : Bool → World → Prop} (hR : ∀ w', Below w.heap.size w w' → R (validH ⟨seq, full, ts⟩) w') : F.masonryref1_ValidHead seq full tl w R := by
  apply E.masonryref1_ValidHead
  unfold V.masonryref1_ValidHead
  intro w1
  have h1 : w1.heap[w.heap.size]? = some (.cells ⟨[.int .i64 seq, .bool full, .slice tl.a tl.len tl.cap]⟩ T.y_masonryref1_Head (0, 0)) := heap_new w _
  have hB : Below w.heap.size w w1 := below_fr (Fr.alloc no w _)
  clear_value w1
  have hlen := hT.1
  obtain ⟨c0, c1, c2⟩ := head3 h1
  have vf : ¬ (validH ⟨seq, full, ts⟩ = true) → validH ⟨seq, full, ts⟩ = false := fun h => by simpa using h
  have bad : ∀ {w'}, Below w.heap.size w w' → validH ⟨seq, full, ts⟩ = false → R false w' := fun hB' h => by rw [← h]; exact hR _ hB'
  refine ⟨seq, c0, fun h => bad hB (vf fun hv => ?_), fun h0 => ⟨seq, c0, fun h => bad hB (vf fun hv => ?_), fun hS => ⟨full, c1, tl, c2, fun h => bad hB (vf fun hv => ?_), fun hF => ⟨tl, c2, fun h => bad hB (vf fun hv => ?_), fun hL => ?_⟩⟩⟩⟩
  · have := of_decide_eq_true h; have := ((validH_iff _).1 hv).1; simp only at this; omega
  · have := of_decide_eq_true h; have := ((validH_iff _).1 hv).2.1; simp only at this; omega
  · have hv := ((validH_iff _).1 hv).2.2.2.1
    simp only at hv
    have e : decide (((tl.len : Nat) : Int) > 0) = decide (0 < ts.length) := by rw [hlen, Bool.eq_iff_iff]; simp
    rw [e, ← hv] at h
    simp at h
  · have := of_decide_eq_true h; have := ((validH_iff _).1 hv).2.2.1; simp only at this; omega
  have h0 := of_decide_eq_false h0
  have hS := of_decide_eq_false hS
  have hL := of_decide_eq_false hL
  have hF : full = decide (0 < ts.length) := by
    have e : decide (((tl.len : Nat) : Int) > 0) = decide (0 < ts.length) := by rw [hlen, Bool.eq_iff_iff]; simp
    rw [e] at hF
    simpa using hF
  refine ⟨fun n w' => ∃ m : Nat, n = m ∧ m ≤ ts.length ∧ (∀ i, i < m → upTo ts i = true) ∧ Below w1.heap.size w1 w', fun n _ => (ts.length - n).toNat, ⟨0, rfl, Nat.zero_le _, fun i hi => absurd hi (Nat.not_lt_zero _), Below.refl _ _⟩, ?_⟩
  rintro n w2 ⟨m, rfl, hm, hup, hB2⟩
  obtain ⟨_, _, d2⟩ := head3 ((fr_below hB2).heap h1 id)
  refine ⟨tl, d2, fun hlt => ?_, fun hge => ?_⟩
  · have hlt : m < ts.length := by have := of_decide_eq_true hlt; omega
    have e1 : w64 ((m : Int) + 1) = ((m + 1 : Nat) : Int) := by rw [w64_id (by omega) (by omega)]; omega
    have hmeas : ((ts.length : Int) - w64 ((m : Int) + 1)).toNat < ((ts.length : Int) - (m : Int)).toNat := by rw [e1]; omega
    intro w3
    have hB3 : Below w1.heap.size w1 w3 := hB2.drew
    clear_value w3
    have hB03 := hB.trans (hB3.mono hB.size)
    have hT3 := hT.below hB03
    obtain ⟨_, _, c2⟩ := head3 ((fr_below hB3).heap h1 id)
    obtain ⟨a, ha, hc⟩ := hT3.2 m ts[m] (by simp [hlt])
    have hc : w3.cell? (a.add ((m : Int).toNat * 1)) = some (.int .i64 ts[m]) := by simpa using hc
    have hat : upTo ts m = (decide (0 ≤ ts[m]) && (decide (ts[m] < 2000) && (decide (m = 0) || decide (ts.getD (m - 1) 0 < ts[m])))) := by
      unfold upTo; rw [List.getElem?_eq_getElem hlt]
    have no' : upTo ts m = false → R false w3 := fun hf => bad hB03 (vf fun hv => by
      have := ((validH_iff _).1 hv).2.2.2.2 m hlt
      simp only at this
      rw [hf] at this; cases this)
    refine ⟨tl, c2, a, ha, by omega, by omega, ts[m], hc, fun h => no' ?_, fun hn0 => ⟨tl, c2, a, ha, by omega, by omega, ts[m], hc, fun h => no' ?_, fun hn2 => ?_⟩⟩
    · have h := of_decide_eq_true h
      rw [hat, decide_eq_false (by omega)]; rfl
    · have h := of_decide_eq_true h
      rw [hat, decide_eq_false (p := ts[m] < 2000) (by omega)]; simp
    have hn0 := of_decide_eq_false hn0
    have hn2 := of_decide_eq_false hn2
    have next : (m = 0 ∨ ts.getD (m - 1) 0 < ts[m]) → ∀ i, i < m + 1 → upTo ts i = true := fun h i hi => by
      rcases Nat.lt_succ_iff_lt_or_eq.1 hi with h' | h'
      · exact hup i h'
      · subst h'
        rw [hat]
        simp only [Bool.and_eq_true, Bool.or_eq_true, decide_eq_true_eq]
        exact ⟨by omega, by omega, h⟩
    refine ⟨fun hp => ?_, fun hz => ⟨⟨m + 1, e1, hlt, next (.inl (by have := of_decide_eq_false hz; omega)), hB3⟩, hmeas⟩⟩
    have hp : 0 < m := by have := of_decide_eq_true hp; omega
    have e2 : w64 ((m : Int) - 1) = ((m - 1 : Nat) : Int) := by rw [w64_id (by omega) (by omega)]; omega
    obtain ⟨a2, ha2, hd⟩ := hT3.2 (m - 1) (ts[m - 1]'(by omega)) (by simp)
    have eg : ts.getD (m - 1) 0 = ts[m - 1]'(by omega) := by simp [show m - 1 < ts.length by omega]
    rw [e2]
    refine ⟨tl, c2, a2, ha2, by omega, by omega, ts[m - 1]'(by omega), by simpa using hd, tl, c2, a, ha, by omega, by omega, ts[m], hc, fun h => no' ?_, fun h => ⟨⟨m + 1, e1, hlt, next (.inr ?_), hB3⟩, hmeas⟩⟩
    · have h := of_decide_eq_true h
      rw [hat, eg, decide_eq_false (p := m = 0) (by omega), decide_eq_false (p := ts[m - 1] < ts[m]) (by omega)]; simp
    · have h := of_decide_eq_false h
      rw [eg]; omega
  · have hmm : m = ts.length := by have := of_decide_eq_false hge; omega
    subst hmm
    have : validH ⟨seq, full, ts⟩ = true := (validH_iff _).2 ⟨by simp only; omega, by simp only; omega, by simp only; omega, hF, hup⟩
    rw [← this]; exact hR w2 (hB.trans (hB2.mono hB.size))

theorem RefLay_head {w : World} {seq : Int} {full : Bool} {tl : Sl} {ts : List Int} (hT : Ints w tl ts) (hv : validH ⟨seq, full, ts⟩ = true) {R : ByteArray → World → Prop}
    (hR : ∀ w', Below w.heap.size w w' → R (tx (layHead ⟨seq, full, ts⟩).1) w') : F.masonryref1_LayHead seq full tl w R := by
  apply E.masonryref1_LayHead
  unfold V.masonryref1_LayHead
  intro w1
  have h1 : w1.heap[w.heap.size]? = some (.cells ⟨[.int .i64 seq, .bool full, .slice tl.a tl.len tl.cap]⟩ T.y_masonryref1_Head (0, 0)) := heap_new w _
  have hB : Below w.heap.size w w1 := below_fr (Fr.alloc no w _)
  clear_value w1
  have hlen := hT.1
  obtain ⟨c0, c1, c2⟩ := head3 h1
  obtain ⟨v1, v2, v3, v4, v5⟩ := (validH_iff _).1 hv
  simp only at v1 v2 v3 v4 v5
  have hr := upTo_range v5
  obtain ⟨el, _⟩ := lay_ok hv
  rw [el] at hR
  refine ⟨fun f w' => f = (if full then 1 else 0) ∧ w' = w1, ⟨full, c1, fun hf => ⟨by rw [hf]; rfl, rfl⟩, fun hf => ⟨by rw [hf]; rfl, rfl⟩⟩, ?_⟩
  rintro f w1' ⟨rfl, rfl⟩
  intro w2
  have hB2 : Below w1'.heap.size w1' w2 := (Below.refl _ _).drew
  clear_value w2
  have hd : ∀ {w'}, Below w1'.heap.size w1' w' → w'.cell? (blk w.heap.size) = some (.int .i64 seq) ∧ w'.cell? ((blk w.heap.size).add 2) = some (.slice tl.a tl.len tl.cap) := fun hb => by
    obtain ⟨a, _, b⟩ := head3 ((fr_below hb).heap h1 id)
    exact ⟨a, b⟩
  have d2 := hd hB2
  refine ⟨seq, d2.1, tl, d2.2, ?_⟩
  refine Low_spec (v := 7) (n := 1) (by decide) (by decide) fun w3 hB3 => ?_
  have hB3 := hB2.trans (hB3.mono hB2.size)
  refine ⟨(hd hB3).2, (hd hB3).1, ?_⟩
  have ef : wr .u64 (if full = true then (1 : Int) else 0) = (((if full then 1 else 0 : Nat)) : Int) := by cases full <;> rfl
  have ef2 : (if full = true then (1 : Int) else 0) = (((if full then 1 else 0 : Nat)) : Int) := by cases full <;> rfl
  rw [ef2]
  refine Low_spec (n := 1) (by split <;> decide) (by decide) fun w4 hB4 => ?_
  have hB4 := hB3.trans (hB4.mono hB3.size)
  rw [tx_app]
  refine ⟨(hd hB4).2, (hd hB4).1, by simp only [tx_size, leBytes_len]; omega, ?_⟩
  have es : wr .u64 seq = ((seq.toNat : Nat) : Int) := by rw [wr64_id (by omega) (by omega)]; omega
  rw [es]
  refine Low_spec (n := 8) (by omega) (by decide) fun w5 hB5 => ?_
  have hB5 := hB4.trans (hB5.mono hB4.size)
  rw [tx_app]
  refine ⟨(hd hB5).2, (hd hB5).1, by simp only [tx_size, leBytes_len, List.length_append]; omega, ?_⟩
  have el2 : wr .u64 ((tl.len : Nat) : Int) = ((ts.length : Nat) : Int) := by rw [hlen]; exact wr64_id (by omega) (by omega)
  rw [el2]
  refine Low_spec (n := 2) (by omega) (by decide) fun w6 hB6 => ?_
  have hB6 := hB5.trans (hB6.mono hB5.size)
  rw [tx_app]
  refine ⟨(hd hB6).2, (hd hB6).1, by simp only [tx_size, leBytes_len, List.length_append]; omega, ?_⟩
  generalize hH : leBytes 1 ((7 : Nat) : Int) ++ leBytes 1 (((if full then 1 else 0 : Nat)) : Int) ++ leBytes 8 ((seq.toNat : Nat) : Int) ++ leBytes 2 ((ts.length : Nat) : Int) = hd0
  have hhl : hd0.length = 12 := by rw [← hH]; simp only [List.length_append, leBytes_len]
  have hhb : headBytes ⟨seq, full, ts⟩ = hd0 ++ ts.flatMap (leBytes 2) := by
    have e : seq = ((seq.toNat : Nat) : Int) := by omega
    rw [← hH]
    simp only [headBytes, ef2, ← e]
    rfl
  refine ⟨fun s n w' => ∃ m : Nat, n = m ∧ m ≤ ts.length ∧ s = tx (hd0 ++ (ts.take m).flatMap (leBytes 2)) ∧ Below w1'.heap.size w1' w', fun _ n _ => (ts.length - n).toNat, ⟨0, rfl, Nat.zero_le _, by simp, hB6⟩, ?_⟩
  rintro s n w7 ⟨m, rfl, hm, rfl, hB7⟩
  refine ⟨tl, (hd hB7).2, fun hlt => ?_, fun hge => ?_⟩
  · have hlt : m < ts.length := by have := of_decide_eq_true hlt; omega
    have e1 : w64 ((m : Int) + 1) = ((m + 1 : Nat) : Int) := by rw [w64_id (by omega) (by omega)]; omega
    obtain ⟨a, ha, hc⟩ := (hT.below (hB.trans (hB7.mono hB.size))).2 m ts[m] (by simp [hlt])
    obtain ⟨r1, r2⟩ := hr ts[m] (List.getElem_mem _)
    refine ⟨tl, (hd hB7).2, a, ha, by omega, by omega, ts[m], by simpa using hc, ?_⟩
    have et : wr .u64 ts[m] = ((ts[m].toNat : Nat) : Int) := by rw [wr64_id (by omega) (by omega)]; omega
    rw [et]
    refine Low_spec (n := 2) (by omega) (by decide) fun w8 hB8 => ?_
    have hB8 := hB7.trans (hB8.mono hB7.size)
    rw [tx_app]
    have hfl := flat2_len (ts.take m)
    rw [List.length_take] at hfl
    refine ⟨by simp only [tx_size, leBytes_len, List.length_append, hfl, hhl]; omega, ⟨m + 1, e1, hlt, ?_, hB8⟩, ?_⟩
    · have e : ts[m] = ((ts[m].toNat : Nat) : Int) := by omega
      rw [List.take_succ_eq_append_getElem hlt, List.flatMap_append, List.flatMap_cons, List.flatMap_nil, List.append_nil, ← e, List.append_assoc]
    · show ((ts.length : Int) - w64 ((m : Int) + 1)).toNat < ((ts.length : Int) - (m : Int)).toNat
      rw [e1]; omega
  · have hmm : m = ts.length := by have := of_decide_eq_false hge; omega
    subst hmm
    rw [List.take_length, ← hhb]
    have hbl := headBytes_len ⟨seq, full, ts⟩
    simp only at hbl
    refine RefSeal_spec (n := 256) (by decide) (by decide) (by omega) fun w8 hB8 => ?_
    rw [sealL_ok (by omega)]
    exact hR w8 ((hB.trans (hB7.mono hB.size)).trans (hB8.mono (hB.trans (hB7.mono hB.size)).size))

end Go.Proofs.YtepclihkniaieaaGreatDoor
