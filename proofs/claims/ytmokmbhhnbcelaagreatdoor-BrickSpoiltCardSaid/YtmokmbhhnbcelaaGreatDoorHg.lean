/- head.Valid, head.Lay, head.Read, head.Done. -/
import Derived.Test.YtmokmbhhnbcelaaGreatDoorCs
set_option linter.unusedVariables false
namespace Go.Proofs.YtmokmbhhnbcelaaGreatDoor
open Go Go.Vc Go.RowKit Go.Lib

def intCells (ts : List Int) : List Value := ts.map fun t => .int .i64 t
theorem intCells_one (ts : List Int) : ∀ u ∈ intCells ts, u.oneCell' = true := by
  intro u hu
  simp only [intCells, List.mem_map] at hu
  obtain ⟨_, _, rfl⟩ := hu
  rfl
theorem intCells_app (a b : List Int) : intCells (a ++ b) = intCells a ++ intCells b := by simp [intCells]
theorem und_ints : Pg.underlying T.y_sl_int = some (.slice T.y_int) := by kernel_rfl
theorem info_int : ∃ i, Pg.info? T.y_int = some i ∧ i.zero = some (.int .i64 0) ∧ i.size = 1 ∧ i.bytes = 8 := by
  have h : (Pg.info? T.y_int).map (fun i => (i.zero, i.size, i.bytes)) = some (some (.int .i64 0), 1, 8) := by kernel_rfl
  obtain ⟨i, hi, h2⟩ := Option.map_eq_some_iff.1 h
  simp only [Prod.mk.injEq] at h2
  exact ⟨i, hi, h2.1, h2.2.1, h2.2.2⟩

theorem Own.ints {w : World} {l : Sl} {ts : List Int} (h : Own w T.y_int 1 l (intCells ts)) : Ints w l ts := by
  refine ⟨by have := h.len; simp [intCells] at this; omega, fun j t hj => ?_⟩
  obtain ⟨a, ha, hc⟩ := h.cell (j := j) (u := .int .i64 t) (by simp [intCells, hj])
  exact ⟨a, ha, by rw [Nat.mul_one]; exact hc⟩

theorem Ints.cell {w : World} {sl : Sl} {ts : List Int} (h : Ints w sl ts) {a : Addr} (ha : sl.a = some a) : ∀ j u, (intCells ts)[j]? = some u → w.cell? (a.add j) = some u := by
  intro j u hu
  simp only [intCells, List.getElem?_map, Option.map_eq_some_iff] at hu
  obtain ⟨t, ht, rfl⟩ := hu
  obtain ⟨a', ha', hc⟩ := h.2 j t ht
  rw [ha] at ha'
  injection ha' with ha'
  subst ha'
  rwa [Nat.mul_one] at hc

theorem Ints.below {w w' : World} {sl : Sl} {ts : List Int} (h : Ints w sl ts) (hw : Below w.heap.size w w') : Ints w' sl ts := h.keep (fr_below hw) (fun _ _ => id)

/-- an int's slice of a row that is known whole -/
theorem Ints.row {w : World} {g : Nat} {t : TypeId} {vs : List Int} (h : w.heap[g]? = some (.cells ⟨intCells vs⟩ t (0, 0))) (n c : Nat) (hn : n = vs.length) : Ints w ⟨some (blk g), n, c⟩ vs :=
  ⟨hn, fun j u hj => ⟨blk g, rfl, by rw [Nat.mul_one, blk_cell h j]; simp [intCells, hj]⟩⟩

theorem Valid_head {w : World} {seq : Int} {full : Bool} {tl : Sl} {ts : List Int} (hT : Ints w tl ts) {R : Bool → World → Prop} (hR : ∀ w', Below w.heap.size w w' → R (validH ⟨seq, full, ts⟩) w') : F.head_Valid seq full tl w R := by
  apply E.head_Valid
  unfold V.head_Valid
  intro w1
  have h1 : w1.heap[w.heap.size]? = some (.cells ⟨[.int .i64 seq, .bool full, .slice tl.a tl.len tl.cap]⟩ T.y_head_Head (0, 0)) := heap_new w _
  have hB : Below w.heap.size w w1 := below_fr (Fr.alloc no w _)
  clear_value w1
  have hT1 := hT.below hB
  have hlen := hT.1
  have c0 : w1.cell? (blk w.heap.size) = some (.int .i64 seq) := by rw [blk_cell0 h1]; rfl
  have c1 : w1.cell? ((blk w.heap.size).add 1) = some (.bool full) := by rw [blk_cell h1]; rfl
  have c2 : w1.cell? ((blk w.heap.size).add 2) = some (.slice tl.a tl.len tl.cap) := by rw [blk_cell h1]; rfl
  have bad : validH ⟨seq, full, ts⟩ = false → R false w1 := fun h => by rw [← h]; exact hR w1 hB
  have vf : ¬ (validH ⟨seq, full, ts⟩ = true) → validH ⟨seq, full, ts⟩ = false := fun h => by simpa using h
  refine ⟨tl, c2, seq, c0, fun h => bad (vf fun hv => ?_), fun h0 => ⟨seq, c0, fun h => bad (vf fun hv => ?_), fun hS => ⟨fun h => bad (vf fun hv => ?_), fun hL => ⟨full, c1, fun h => bad (vf fun hv => ?_), fun hF => ⟨tl, c2, ?_⟩⟩⟩⟩⟩
  · have := of_decide_eq_true h; have := ((validH_iff _).1 hv).1; simp only at this; omega
  · have := of_decide_eq_true h; have := ((validH_iff _).1 hv).2.1; simp only at this; omega
  · have := of_decide_eq_true h; have := ((validH_iff _).1 hv).2.2.1; simp only at this; omega
  · have hv := ((validH_iff _).1 hv).2.2.2.1
    simp only at hv
    have e : decide (((tl.len : Nat) : Int) > 0) = decide (0 < ts.length) := by rw [hlen, Bool.eq_iff_iff]; simp
    rw [e, ← hv] at h
    simp at h
  have h0 := of_decide_eq_false h0
  have hS := of_decide_eq_false hS
  have hL := of_decide_eq_false hL
  have hF : full = decide (0 < ts.length) := by
    have e : decide (((tl.len : Nat) : Int) > 0) = decide (0 < ts.length) := by rw [hlen, Bool.eq_iff_iff]; simp
    rw [e] at hF
    simpa using hF
  refine ⟨fun n w' => w' = w1 ∧ ∃ m : Nat, n = m ∧ m ≤ ts.length ∧ ∀ i, i < m → upTo ts i = true, fun n _ => (ts.length - n).toNat, ⟨rfl, 0, rfl, Nat.zero_le _, fun i hi => absurd hi (Nat.not_lt_zero _)⟩, ?_⟩
  rintro n w2 ⟨rfl, m, rfl, hm, hup⟩
  refine ⟨fun hlt => ?_, fun hge => ?_⟩
  · have hlt : m < ts.length := by have := of_decide_eq_true hlt; omega
    have e1 : w64 ((m : Int) + 1) = ((m + 1 : Nat) : Int) := by rw [w64_id (by omega) (by omega)]; omega
    have hmeas : ((ts.length : Int) - w64 ((m : Int) + 1)).toNat < ((ts.length : Int) - (m : Int)).toNat := by rw [e1]; omega
    obtain ⟨a, ha, hc⟩ := hT1.2 m ts[m] (by simp [hlt])
    have hat : upTo ts m = (decide (0 ≤ ts[m]) && (decide (ts[m] < 2000) && (decide (m = 0) || decide (ts.getD (m - 1) 0 < ts[m])))) := by
      unfold upTo; rw [List.getElem?_eq_getElem hlt]
    have no' : upTo ts m = false → R false w2 := fun hf => bad (vf fun hv => by
      have := ((validH_iff _).1 hv).2.2.2.2 m hlt
      simp only at this
      rw [hf] at this; cases this)
    refine ⟨a, ha, by omega, by omega, ts[m], by simpa using hc, fun h => no' ?_, fun hn0 => ⟨fun h => no' ?_, fun hn2 => ?_⟩⟩
    · have h := of_decide_eq_true h
      rw [hat, decide_eq_false (by omega)]; rfl
    · have h := of_decide_eq_true h
      rw [hat, decide_eq_false (p := ts[m] < 2000) (by omega)]; simp
    have hn0 := of_decide_eq_false hn0
    have hn2 := of_decide_eq_false hn2
    have next : (m = 0 ∨ ts.getD (m - 1) 0 < ts[m]) → ∀ i, i < m + 1 → upTo ts i = true := fun h i hi => by
      rcases Nat.lt_succ_iff_lt_or_eq.1 hi with h' | h'
      · exact hup i h'
      · subst h'
        rw [hat]
        simp only [Bool.and_eq_true, Bool.or_eq_true, decide_eq_true_eq]
        exact ⟨by omega, by omega, h⟩
    refine ⟨fun hp => ?_, fun hz => ⟨⟨rfl, m + 1, e1, hlt, next (.inl (by have := of_decide_eq_false hz; omega))⟩, hmeas⟩⟩
    have hp : 0 < m := by have := of_decide_eq_true hp; omega
    have e2 : w64 ((m : Int) - 1) = ((m - 1 : Nat) : Int) := by rw [w64_id (by omega) (by omega)]; omega
    obtain ⟨a2, ha2, hd⟩ := hT1.2 (m - 1) (ts[m - 1]'(by omega)) (by simp)
    have eg : ts.getD (m - 1) 0 = ts[m - 1]'(by omega) := by simp [show m - 1 < ts.length by omega]
    rw [e2]
    refine ⟨tl, c2, a2, ha2, by omega, by omega, ts[m - 1]'(by omega), by simpa using hd, fun h => no' ?_, fun h => ⟨⟨rfl, m + 1, e1, hlt, next (.inr ?_)⟩, hmeas⟩⟩
    · have h := of_decide_eq_true h
      rw [hat, eg, decide_eq_false (p := m = 0) (by omega), decide_eq_false (p := ts[m - 1] < ts[m]) (by omega)]; simp
    · have h := of_decide_eq_false h
      rw [eg]; omega
  · have hmm : m = ts.length := by have := of_decide_eq_false hge; omega
    subst hmm
    have : validH ⟨seq, full, ts⟩ = true := (validH_iff _).2 ⟨by simp only; omega, by simp only; omega, by simp only; omega, hF, hup⟩
    rw [← this]; exact hR w2 hB

theorem layL_ok {size : Nat} : ∀ (vs : List Int) {bs : List UInt8}, (∀ v ∈ vs, fitsN size v = true) → layL size vs (bs, 0) = (bs ++ vs.flatMap (leBytes size), 0)
  | [], bs, _ => by simp [layL]
  | v :: r, bs, h => by
    rw [layL, if_neg (by simp), if_pos (h v (by simp)), layL_ok r (fun x hx => h x (by simp [hx]))]
    simp

theorem sealL_ok {n : Nat} {s : List UInt8} (h : s.length ≤ n - 4) : sealL n s = (sealS n s, 0) := by simp [sealL, h]

set_option maxHeartbeats 1000000 in
theorem Lay_head {w : World} {seq : Int} {full : Bool} {tl : Sl} {ts : List Int} (hT : Ints w tl ts) (htl : ∀ k, tl.bk k → k < w.heap.size) {R : ByteArray → Int → World → Prop}
    (hR : ∀ w', Below w.heap.size w w' → R (tx (layHead ⟨seq, full, ts⟩).1) (layHead ⟨seq, full, ts⟩).2 w') : F.head_Lay seq full tl w R := by
  apply E.head_Lay
  unfold V.head_Lay
  intro w1
  have h1 : w1.heap[w.heap.size]? = some (.cells ⟨[.int .i64 seq, .bool full, .slice tl.a tl.len tl.cap]⟩ T.y_head_Head (0, 0)) := heap_new w _
  have hB1 : Below w.heap.size w w1 := below_fr (Fr.alloc no w _)
  have hz1 : w1.heap.size = w.heap.size + 1 := by simp [w1]
  clear_value w1
  have hT1 := hT.below hB1
  have hlen := hT.1
  refine ⟨seq, by rw [blk_cell0 h1]; rfl, full, by rw [blk_cell h1]; rfl, tl, by rw [blk_cell h1]; rfl, ?_⟩
  refine Valid_head hT1 fun w2 hB2 => ?_
  have hB02 := hB1.trans (hB2.mono hB1.size)
  have h2 := (fr_below hB2).heap h1 id
  refine ⟨fun hv => ?_, fun hv => ?_⟩
  · have hv : validH ⟨seq, full, ts⟩ = false := by simpa using hv
    have : layHead ⟨seq, full, ts⟩ = ([], 1) := by simp [layHead, hv]
    rw [this] at hR
    exact hR w2 hB02
  have hv : validH ⟨seq, full, ts⟩ = true := by simpa using hv
  have el : layHead ⟨seq, full, ts⟩ = (sealS 256 (headBytes ⟨seq, full, ts⟩), 0) := by simp [layHead, hv]
  rw [el] at hR
  obtain ⟨v1, v2, v3, v4, v5⟩ := (validH_iff _).1 hv
  simp only at v1 v2 v3 v4 v5
  have hr := upTo_range v5
  refine ⟨fun f w' => f = (if full then 1 else 0) ∧ w' = w2, ⟨full, by rw [blk_cell h2]; rfl, fun hf => ⟨by rw [hf]; rfl, rfl⟩, fun hf => ⟨by rw [hf]; rfl, rfl⟩⟩, ?_⟩
  rintro f w2' ⟨rfl, rfl⟩
  intro w3
  have h3 : w3.heap[w.heap.size]? = some (.cells ⟨[.int .i64 seq, .bool full, .slice tl.a tl.len tl.cap]⟩ T.y_head_Head (0, 0)) := h2
  have hB3 : Below w.heap.size w w3 := hB02.drew
  clear_value w3
  have hz3 := heap_lt h3
  have cs : ∀ {w' : World}, Below w3.heap.size w3 w' → w'.cell? (blk w.heap.size) = some (.int .i64 seq) ∧ w'.cell? ((blk w.heap.size).add 2) = some (.slice tl.a tl.len tl.cap) := fun hb => by
    have h := (fr_below hb).heap h3 id
    exact ⟨by rw [blk_cell0 h]; rfl, by rw [blk_cell h]; rfl⟩
  have c3 := cs (Below.refl _ _)
  refine ⟨seq, c3.1, tl, c3.2, tl, c3.2, fun w4 g hB4 hg _ hgo w5 g1 hB5 hg1 hg1n hg1o w6 hB6 => ?_⟩
  have s4 := hB4.size
  have s5 := hB5.size
  have s6 := hB6.size
  simp only [inIv, or_false, List.mem_singleton] at hg hg1 hg1n
  have hO4 : OutB w3 w4 g ⟨none, 0, 0⟩ [] 0 := ⟨⟨hgo, Own.nil _ _ _, fun hk => bk_nil hk⟩, hg.1, fun k hk => bk_nil hk, hB4⟩
  have hO6 := (hO4.no (fr_below hB5)).no (fr_below hB6)
  have hg1o6 := (fr_below hB6).heap hg1o id
  -- the kind, full
  have p7 : Ints w6 ⟨some (blk g1), 2, 2⟩ [7, if full then 1 else 0] := Ints.row (vs := [7, if full then 1 else 0]) hg1o6 2 2 rfl
  apply E.bits_Out_Byte
  refine Out_lay hO6.out (size := 1) (by decide) p7 (fun k hk hs => by
    obtain ⟨a, ha, rfl⟩ := hk
    injection ha with ha
    subst ha
    rcases hs with hs | hs
    · exact hg1n hs
    · exact bk_nil hs) (fun v hv => by
      simp only [List.mem_cons, List.not_mem_nil, or_false] at hv
      rcases hv with rfl | rfl
      · decide
      · split <;> decide) (by simp) fun l7 w7 hO7 hF7 hM7 => ?_
  rw [layL_ok _ (fun v hv => by
      simp only [List.mem_cons, List.not_mem_nil, or_false] at hv
      rcases hv with rfl | rfl
      · decide
      · split <;> decide)] at hO7
  have hM7' := hM7
  have hF7' := hF7
  have hO7 := hO6.step hO7 hF7 hM7
  have s7 := hF7.size
  have r7 : ∀ k, l7.bk k → w6.heap.size ≤ k ∧ k < w7.heap.size := fun k hk => ⟨by
    rcases moved_bk hM7' hk with h | h
    · exact bk_nil h
    · exact h, hO7.out.own.lt hk⟩
  have b7 : (([] : List UInt8) ++ List.flatMap (leBytes 1) [7, if full then 1 else 0]).length = 2 := by simp [leBytes_len]
  generalize hb7 : (([] : List UInt8) ++ List.flatMap (leBytes 1) [7, if full then 1 else 0]) = bs7 at hO7 b7
  have c7 := cs hO7.below
  refine ⟨Keep.of hF7' (fun g' hg' hu => ⟨fun hs => by
      simp only [List.mem_cons, List.not_mem_nil, or_false, not_or] at hu
      rcases hs with hs | hs
      · exact hu.2 hs
      · exact bk_nil hs, by simp only [inIv, or_false] at hg'; omega⟩), c7.2, c7.2, c7.1, fun w8 g2 hB8 hg2 hg2n hg2o w9 hB9 => ?_⟩
  have s8 := hB8.size
  have s9 := hB9.size
  simp only [inIv, or_false, List.mem_cons, List.not_mem_nil, not_or] at hg2 hg2n
  have hO9 := (hO7.no (fr_below hB8)).no (fr_below hB9)
  have hg2o9 := (fr_below hB9).heap hg2o id
  -- the number
  refine Out_Long hO9.out hg2o9 (by omega) (by simp only; omega) fun l10 w10 hO10 hF10 hM10 => ?_
  have hfit : fitsN 8 seq = true := by simp [fitsN]; omega
  rw [lay1_ok hfit] at hO10
  have hO10 := hO9.step hO10 hF10 hM10
  have s10 := hF10.size
  have r10 : ∀ k, l10.bk k → (w6.heap.size ≤ k ∧ k < w7.heap.size) ∨ (w9.heap.size ≤ k ∧ k < w10.heap.size) := fun k hk => by
    rcases moved_bk hM10 hk with h | h
    · exact .inl (r7 k h)
    · exact .inr ⟨h, hO10.out.own.lt hk⟩
  have c10 := cs hO10.below
  refine ⟨Keep.of hF10 (fun g' hg' hu => ⟨fun hs => by
      simp only [List.mem_cons, List.not_mem_nil, or_false, not_or] at hu
      rcases hs with hs | hs
      · exact hu.2.2 hs
      · have := r7 _ hs; simp only [inIv, or_false] at hg'; omega, by simp only [inIv, or_false] at hg'; omega⟩), c10.2, c10.2, c10.1, fun w11 g3 hB11 hg3 hg3n hg3o w12 hB12 => ?_⟩
  have s11 := hB11.size
  have s12 := hB12.size
  simp only [inIv, or_false, List.mem_cons, List.not_mem_nil, not_or] at hg3 hg3n
  have hO12 := (hO10.no (fr_below hB11)).no (fr_below hB12)
  have hg3o12 := (fr_below hB12).heap hg3o id
  rw [hlen] at hg3o12
  -- how many
  refine Out_Half hO12.out hg3o12 (by omega) (by simp only [List.length_append, leBytes_len]; omega) fun l13 w13 hO13 hF13 hM13 => ?_
  have hfit2 : fitsN 2 ((ts.length : Nat) : Int) = true := by simp [fitsN]; omega
  rw [lay1_ok hfit2] at hO13
  have hO13 := hO12.step hO13 hF13 hM13
  have s13 := hF13.size
  have r13 : ∀ k, l13.bk k → (w6.heap.size ≤ k ∧ k < w7.heap.size) ∨ (w9.heap.size ≤ k ∧ k < w10.heap.size) ∨ (w12.heap.size ≤ k ∧ k < w13.heap.size) := fun k hk => by
    rcases moved_bk hM13 hk with h | h
    · rcases r10 k h with h | h
      · exact .inl h
      · exact .inr (.inl h)
    · exact .inr (.inr ⟨h, hO13.out.own.lt hk⟩)
  have c13 := cs hO13.below
  refine ⟨Keep.of hF13 (fun g' hg' hu => ⟨fun hs => by
      simp only [List.mem_cons, List.not_mem_nil, or_false, not_or] at hu
      rcases hs with hs | hs
      · exact hu.2.2.2 hs
      · have := r10 _ hs; simp only [inIv, or_false] at hg'; omega, by simp only [inIv, or_false] at hg'; omega⟩), c13.2, c13.2, c13.1, fun w14 hB14 => ?_⟩
  have s14 := hB14.size
  have hO14 := hO13.no (fr_below hB14)
  have hT14 : Ints w14 tl ts := hT.below (hB3.trans (hO14.below.mono hB3.size))
  -- the targets
  apply E.bits_Out_Half
  have hlo14 := hO14.row
  refine Out_lay hO14.out (size := 2) (by decide) hT14 (fun k hk hs => by
      have h := htl k hk
      have s3 := hB3.size
      rcases hs with hs | hs
      · have := hO14.lo; omega
      · have := hlo14 k hs; omega) (fun v hv => by have := hr v hv; omega) (by simp only [List.length_append, leBytes_len]; omega) fun l15 w15 hO15 hF15 hM15 => ?_
  rw [layL_ok _ (fun v hv => by have := hr v hv; simp [fitsN]; omega)] at hO15
  have hO15 := hO14.step hO15 hF15 hM15
  have s15 := hF15.size
  have c15 := cs hO15.below
  refine ⟨Keep.of hF15 (fun g' hg' hu => ⟨fun hs => by
      simp only [List.mem_cons, List.not_mem_nil, or_false, not_or] at hu
      rcases hs with hs | hs
      · exact hu.2.2.2 hs
      · have := r13 _ hs; simp only [inIv, or_false] at hg'; omega, by simp only [inIv, or_false] at hg'; omega⟩), c15.2, c15.1, fun w16 hB16 => ?_⟩
  have hO16 := hO15.no (fr_below hB16)
  refine Out_End hO16.out fun w17 hF17 => ?_
  have hO17 := hO16.no hF17
  have c17 := cs hO17.below
  have s16 := hB16.size
  have s17 := hF17.size
  refine ⟨Keep.of hF17 (fun g' hg' hu => ⟨id, by simp only [inIv, or_false] at hg'; omega⟩), c17.2, c17.1, fun w18 hB18 => ?_⟩
  have hO18 := hO17.no (fr_below hB18)
  refine ⟨fun h => by simp at h, fun _ => ?_⟩
  have eb : (if (0 : Int) ≠ 0 then ([] : List UInt8) else bs7 ++ leBytes 8 seq ++ leBytes 2 ((ts.length : Nat) : Int) ++ ts.flatMap (leBytes 2)) = headBytes ⟨seq, full, ts⟩ := by
    rw [if_neg (by simp), ← hb7]
    simp [headBytes]
  rw [eb]
  have hbl := headBytes_len ⟨seq, full, ts⟩
  simp only at hbl
  have hB18' := hB3.trans (hO18.below.mono hB3.size)
  intro w19
  have h19 : w19.heap[w18.heap.size]? = some (.cells ⟨[.string (tx (headBytes ⟨seq, full, ts⟩))]⟩ T.y_string (0, 0)) := heap_new w18 _
  have hB19 : Below w.heap.size w w19 := hB18'.trans ((below_fr (Fr.alloc no w18 _)).mono hB18'.size)
  clear_value w19
  refine Seal_spec (n := 256) (by decide) (by decide) h19 (by omega) fun w20 hB20 => ?_
  rw [sealL_ok (by omega)]
  exact hR w20 (hB19.trans (hB20.mono hB19.size))

/-- three cells that are set, and read -/
theorem ret3 {w : World} {g : Nat} {a b c : Value} {t : TypeId} (h : w.heap[g]? = some (.cells ⟨[a, b, c]⟩ t (0, 0))) (n : Int) (f : Bool) (l : Sl) {Q : Int → Bool → Sl → World → Prop} (hQ : ∀ w', Fr (· = g) w w' → Q n f l w') :
    Wr w (blk g) ∧ Wr (w.setCell (blk g) (.int .i64 n)) ((blk g).add 1) ∧ Wr ((w.setCell (blk g) (.int .i64 n)).setCell ((blk g).add 1) (.bool f)) ((blk g).add 2) ∧
      ∃ n', (((w.setCell (blk g) (.int .i64 n)).setCell ((blk g).add 1) (.bool f)).setCell ((blk g).add 2) (.slice l.a l.len l.cap)).cell? (blk g) = some (.int .i64 n') ∧
      ∃ f', (((w.setCell (blk g) (.int .i64 n)).setCell ((blk g).add 1) (.bool f)).setCell ((blk g).add 2) (.slice l.a l.len l.cap)).cell? ((blk g).add 1) = some (.bool f') ∧
      ∃ l' : Sl, (((w.setCell (blk g) (.int .i64 n)).setCell ((blk g).add 1) (.bool f)).setCell ((blk g).add 2) (.slice l.a l.len l.cap)).cell? ((blk g).add 2) = some (.slice l'.a l'.len l'.cap) ∧
        Q n' f' l' (((w.setCell (blk g) (.int .i64 n)).setCell ((blk g).add 1) (.bool f)).setCell ((blk g).add 2) (.slice l.a l.len l.cap)) := by
  have h1 := blk_set0 h (.int .i64 n)
  have h2 := blk_set h1 1 (.bool f)
  have h3 := blk_set h2 2 (.slice l.a l.len l.cap)
  have f1 := fr_set0 w g (.int .i64 n)
  have f2 := f1.trans (S := (· = g)) (fr_set _ g 1 (.bool f)) (fun _ _ h => h)
  have f3 := f2.trans (S := (· = g)) (fr_set _ g 2 (.slice l.a l.len l.cap)) (fun _ _ h => h)
  exact ⟨blk_wr0 h (by simp), blk_wr h1 (by simp), blk_wr h2 (by simp), n, by rw [blk_cell0 h3]; rfl, f, by rw [blk_cell h3]; rfl, l, by rw [blk_cell h3]; rfl, hQ _ f3⟩

/-- three cells that are set -/
theorem set3 {w : World} {g : Nat} {a b c : Value} {t : TypeId} (h : w.heap[g]? = some (.cells ⟨[a, b, c]⟩ t (0, 0))) (n : Int) (f : Bool) (l : Sl) :
    Wr w (blk g) ∧ Wr (w.setCell (blk g) (.int .i64 n)) ((blk g).add 1) ∧ Wr ((w.setCell (blk g) (.int .i64 n)).setCell ((blk g).add 1) (.bool f)) ((blk g).add 2) ∧
      (((w.setCell (blk g) (.int .i64 n)).setCell ((blk g).add 1) (.bool f)).setCell ((blk g).add 2) (.slice l.a l.len l.cap)).heap[g]? = some (.cells ⟨[.int .i64 n, .bool f, .slice l.a l.len l.cap]⟩ t (0, 0)) ∧
      Fr (· = g) w (((w.setCell (blk g) (.int .i64 n)).setCell ((blk g).add 1) (.bool f)).setCell ((blk g).add 2) (.slice l.a l.len l.cap)) := by
  have h1 := blk_set0 h (.int .i64 n)
  have h2 := blk_set h1 1 (.bool f)
  have h3 := blk_set h2 2 (.slice l.a l.len l.cap)
  have f1 := fr_set0 w g (.int .i64 n)
  have f2 := f1.trans (S := (· = g)) (fr_set _ g 1 (.bool f)) (fun _ _ h => h)
  have f3 := f2.trans (S := (· = g)) (fr_set _ g 2 (.slice l.a l.len l.cap)) (fun _ _ h => h)
  exact ⟨blk_wr0 h (by simp), blk_wr h1 (by simp), blk_wr h2 (by simp), h3, f3⟩

end Go.Proofs.YtmokmbhhnbcelaaGreatDoor

/- head.Read, head.Done. -/
set_option linter.unusedVariables false
namespace Go.Proofs.YtmokmbhhnbcelaaGreatDoor
open Go Go.Vc Go.RowKit Go.Lib

theorem openB_len (b : List UInt8) : (openB b).1.length ≤ b.length := by
  unfold openB
  split
  · simp
  · split <;> simp

theorem targetsIn_len : ∀ (n : Nat) (x : List UInt8 × Int), (targetsIn n x).1.length = n
  | 0, x => rfl
  | n + 1, x => by simp [targetsIn, targetsIn_len n x]
theorem targetsIn_left : ∀ (n : Nat) (x : List UInt8 × Int), (targetsIn n x).2.1.length ≤ x.1.length
  | 0, x => Nat.le_refl _
  | n + 1, x => by
    simp only [targetsIn]
    exact Nat.le_trans (lowIn_left _ _ _) (targetsIn_left n x)

theorem beq_dec (x y : Int) : (x == y) = decide (x = y) := by rw [Bool.eq_iff_iff]; simp

set_option maxHeartbeats 1000000 in
theorem Read_head {w : World} {b : List UInt8} (hb : b.length ≤ 1000000000) {R : Int → Bool → Sl → Int → World → Prop}
    (hR : ∀ l w', Own w' T.y_int 1 l (intCells (readHead b).1.ts) → (∀ k, l.bk k → w.heap.size ≤ k) → Below w.heap.size w w' → R (readHead b).1.seq (readHead b).1.full l (readHead b).2 w') : F.head_Read (tx b) w R := by
  obtain ⟨i, hi, hz, hs1, hby⟩ := info_int
  apply E.head_Read
  unfold V.head_Read
  intro w1
  have h1 : w1.heap[w.heap.size]? = some (.cells ⟨[.int .i64 0, .bool false, .slice none 0 0]⟩ T.y_head_Head (0, 0)) := heap_new w _
  have hB1 : Below w.heap.size w w1 := below_fr (Fr.alloc no w _)
  clear_value w1
  have bad : ∀ {w' : World} {code : Int}, readHead b = (⟨0, false, []⟩, code) → Below w.heap.size w w' → ∀ w'', Fr (· = w.heap.size) w' w'' → R 0 false ⟨none, 0, 0⟩ code w'' := fun e hB w'' hF => by
    rw [e] at hR
    exact hR ⟨none, 0, 0⟩ w'' (Own.nil _ _ _) (fun k hk => bk_nil hk) (hB.trans (hF.toBelow (fun k hk => by have : k = w.heap.size := hk; omega) hB.size))
  rw [tx_size]
  refine ⟨fun hne => ?_, fun heq => ?_⟩
  · have hne : b.length ≠ 256 := fun h => by rw [h] at hne; simp at hne
    have e : readHead b = (⟨0, false, []⟩, 5) := by unfold readHead; rw [if_pos hne]
    exact ret3 h1 0 false ⟨none, 0, 0⟩ (Q := fun n f l w' => R n f l 5 w') (bad e hB1)
  have heq : b.length = 256 := by
    have h : (b.length : Int) = 256 := by simpa using heq
    omega
  refine Trim_zero (by omega) fun w4 hB4 => ?_
  have hB04 := hB1.trans (hB4.mono hB1.size)
  have h4 := (fr_below hB4).heap h1 id
  rw [tx_nil, tx_eq]
  refine ⟨fun ht => ?_, fun ht => ?_⟩
  · have ht := trim_nil.1 (of_decide_eq_true ht)
    have e : readHead b = (⟨0, false, []⟩, 0) := by unfold readHead; rw [if_neg (by omega), if_pos ht]
    exact ret3 h4 0 false ⟨none, 0, 0⟩ (Q := fun n f l w' => R n f l 0 w') (bad e hB04)
  have ht : ¬ b.all (fun x => [(0 : UInt8)].contains x) = true := fun h => of_decide_eq_false ht (trim_nil.2 h)
  refine Open_spec hb fun w8 hB8 => ?_
  have hB08 := hB04.trans (hB8.mono hB04.size)
  have h8 := (fr_below hB8).heap h4 id
  refine ⟨fun hne => ?_, fun hok => ?_⟩
  · have hne : (openB b).2 ≠ 0 := by simpa using hne
    have e : readHead b = (⟨0, false, []⟩, (openB b).2) := by unfold readHead; rw [if_neg (by omega), if_neg ht, if_pos hne]
    exact ret3 h8 0 false ⟨none, 0, 0⟩ (Q := fun n f l w' => R n f l (openB b).2 w') (bad e hB08)
  have hok : (openB b).2 = 0 := by simpa using hok
  have er : readHead b = if (layHead (parseH (openB b).1)).2 ≠ 0 ∨ (layHead (parseH (openB b).1)).1 ≠ b then (⟨0, false, []⟩, 6) else (parseH (openB b).1, 0) := by
    unfold readHead; rw [if_neg (by omega), if_neg ht, if_neg (by simpa using hok)]
  have hsl := openB_len b
  generalize hS : (openB b).1 = s at er hsl
  have ep : parseH s = ⟨(lowIn 8 (lowIn 1 (lowIn 1 s 0).2.1 (lowIn 1 s 0).2.2).2.1 (lowIn 1 (lowIn 1 s 0).2.1 (lowIn 1 s 0).2.2).2.2).1, decide ((lowIn 1 (lowIn 1 s 0).2.1 (lowIn 1 s 0).2.2).1 = 1),
      (targetsIn (min (lowIn 2 (lowIn 8 (lowIn 1 (lowIn 1 s 0).2.1 (lowIn 1 s 0).2.2).2.1 (lowIn 1 (lowIn 1 s 0).2.1 (lowIn 1 s 0).2.2).2.2).2.1 (lowIn 8 (lowIn 1 (lowIn 1 s 0).2.1 (lowIn 1 s 0).2.2).2.1 (lowIn 1 (lowIn 1 s 0).2.1 (lowIn 1 s 0).2.2).2.2).2.2).1 110).toNat
        (lowIn 2 (lowIn 8 (lowIn 1 (lowIn 1 s 0).2.1 (lowIn 1 s 0).2.2).2.1 (lowIn 1 (lowIn 1 s 0).2.1 (lowIn 1 s 0).2.2).2.2).2.1 (lowIn 8 (lowIn 1 (lowIn 1 s 0).2.1 (lowIn 1 s 0).2.2).2.1 (lowIn 1 (lowIn 1 s 0).2.1 (lowIn 1 s 0).2.2).2.2).2.2).2).1⟩ := rfl
  have la := lowIn_left 1 s 0
  refine On_spec fun w12 hI12 hF12 hlt12 => ?_
  refine In_Byte hI12 (by omega) fun w13 hI13 hF13 => ?_
  generalize hA : lowIn 1 s 0 = A at ep hI13 la
  have lb := lowIn_left 1 A.2.1 A.2.2
  refine In_Byte hI13 (by omega) fun w14 hI14 hF14 => ?_
  generalize hBv : lowIn 1 A.2.1 A.2.2 = Bv at ep hI14 lb
  have lc := lowIn_left 8 Bv.2.1 Bv.2.2
  refine In_Long hI14 (by omega) fun w15 hI15 hF15 => ?_
  generalize hCv : lowIn 8 Bv.2.1 Bv.2.2 = Cv at ep hI15 lc
  have ld := lowIn_left 2 Cv.2.1 Cv.2.2
  have lbd := lowIn_bound 2 Cv.2.1 Cv.2.2 (by decide)
  have s8 := hB08.size
  have s13 := hF13.size
  have s14 := hF14.size
  have s15 := hF15.size
  have hF815 : Fr no w8 w15 := by
    refine ⟨?_, ?_, ?_, by omega, fun k hk _ => ?_⟩
    · rw [hF15.os, hF14.os, hF13.os, hF12.os]
    · rw [hF15.tape, hF14.tape, hF13.tape, hF12.tape]
    · rw [hF15.output, hF14.output, hF13.output, hF12.output]
    · rw [hF15.block k (by omega) (by omega), hF14.block k (by omega) (by omega), hF13.block k (by omega) (by omega), hF12.block k hk id]
  have hB15 := hB08.trans ((below_fr hF815).mono s8)
  have h15 := hF815.heap h8 id
  intro w16
  have h16 : w16.heap[w15.heap.size]? = some (.cells ⟨[.int .i64 0, .bool false, .slice none 0 0]⟩ T.y_head_Head (0, 0)) := heap_new w15 _
  have hF16 : Fr no w15 w16 := Fr.alloc no w15 _
  have hz16 : w16.heap.size = w15.heap.size + 1 := by simp [w16]
  clear_value w16
  obtain ⟨k1, k2, k3, h19, hF19⟩ := set3 h16 Cv.1 (Bv.1 == 1) ⟨none, 0, 0⟩
  refine ⟨k1, ?_⟩
  intro w17
  refine ⟨k2, ?_⟩
  intro w18
  refine ⟨k3, ?_⟩
  intro w19
  have h19 : w19.heap[w15.heap.size]? = some (.cells ⟨[.int .i64 Cv.1, .bool (Bv.1 == 1), .slice none 0 0]⟩ T.y_head_Head (0, 0)) := h19
  have hF19 : Fr (· = w15.heap.size) w16 w19 := hF19
  clear_value w19
  clear w17 w18
  have s19 := hF19.size
  have hI19 := (hI15.keep hF16 id).keep hF19 (fun h => by have : w8.heap.size = w15.heap.size := h; have := heap_lt hI15.obj; omega)
  have hB16 := hB15.trans ((below_fr hF16).mono hB15.size)
  have hB19 := hB16.trans (hF19.toBelow (B := w.heap.size) (fun k hk => by have : k = w15.heap.size := hk; have := hB15.size; omega) hB16.size)
  have hr19 := hF19.heap (hF16.heap h15 id) (fun h => by have : w.heap.size = w15.heap.size := h; have := heap_lt h15; omega)
  refine In_Half hI19 (by omega) fun w20 hI20 hF20 => ?_
  generalize hDv : lowIn 2 Cv.2.1 Cv.2.2 = Dv at ep hI20 ld lbd
  have h20 := hF20.heap h19 (fun h => by have : w15.heap.size = w8.heap.size := h; have := heap_lt hI15.obj; omega)
  have hr20 := hF20.heap hr19 (fun h => by have : w.heap.size = w8.heap.size := h; have := heap_lt h8; omega)
  have hB20 := hB19.trans (hF20.toBelow (B := w.heap.size) (fun k hk => by have : k = w8.heap.size := hk; omega) hB19.size)
  have s20 := hF20.size
  have hlt815 : w8.heap.size < w15.heap.size := heap_lt hI15.obj
  have hlt0 : w.heap.size < w8.heap.size := heap_lt h8
  have h256 : (256 : Int) ^ 2 = 65536 := by decide
  have ecnt : (imin Dv.1 110) = (((min Dv.1 110).toNat : Nat) : Int) := by
    have : imin Dv.1 110 = min Dv.1 110 := by unfold imin; omega
    rw [this]; omega
  rw [ecnt]
  have hcnt : (min Dv.1 110).toNat ≤ 110 := by omega
  generalize hN : (min Dv.1 110).toNat = cnt at ep hcnt
  refine ⟨fun n w' => ∃ (m : Nat) (l : Sl), n = m ∧ m ≤ cnt ∧ InAt w' w8.heap.size (targetsIn m Dv.2).2.1 (targetsIn m Dv.2).2.2 ∧ w'.heap[w15.heap.size]? = some (.cells ⟨[.int .i64 Cv.1, .bool (Bv.1 == 1), .slice l.a l.len l.cap]⟩ T.y_head_Head (0, 0)) ∧
      Own w' T.y_int 1 l (intCells (targetsIn m Dv.2).1) ∧ (∀ k, l.bk k → w16.heap.size ≤ k) ∧ w'.heap[w.heap.size]? = some (.cells ⟨[.int .i64 0, .bool false, .slice none 0 0]⟩ T.y_head_Head (0, 0)) ∧ w16.heap.size ≤ w'.heap.size ∧ Below w.heap.size w w', fun n _ => (cnt - n).toNat,
    ⟨0, ⟨none, 0, 0⟩, rfl, Nat.zero_le _, hI20, h20, Own.nil _ _ _, fun k hk => bk_nil hk, hr20, by omega, hB20⟩, ?_⟩
  rintro n w21 ⟨m, l, rfl, hm, hI21, h21, hO21, hbk21, hr21, hs21, hB21⟩
  have tl := targetsIn_left m Dv.2
  have tn := targetsIn_len m Dv.2
  refine ⟨fun hlt => ?_, fun hge => ?_⟩
  · have hlt : m < cnt := by have := of_decide_eq_true hlt; omega
    have e1 : w64 ((m : Int) + 1) = ((m + 1 : Nat) : Int) := by rw [w64_id (by omega) (by omega)]; omega
    intro w22
    have h22 : w22.heap[w15.heap.size]? = some (.cells ⟨[.int .i64 Cv.1, .bool (Bv.1 == 1), .slice l.a l.len l.cap]⟩ T.y_head_Head (0, 0)) := h21
    have hF22 : Fr no w21 w22 := Fr.drew no w21
    clear_value w22
    have hI22 := hI21.keep hF22 id
    refine ⟨l, by rw [blk_cell h22]; rfl, In_Half hI22 (by omega) fun w23 hI23 hF23 => ?_⟩
    have h23 := hF23.heap h22 (fun h => by have : w15.heap.size = w8.heap.size := h; omega)
    refine ⟨by rw [blk_cell h23]; rfl, ?_⟩
    intro w24
    have hn24 : w24.heap[w23.heap.size]? = some (.cells ⟨[.int .i64 (lowIn 2 (targetsIn m Dv.2).2.1 (targetsIn m Dv.2).2.2).1]⟩ T.y_int (0, 0)) := heap_new w23 _
    have hF24 : Fr no w23 w24 := Fr.alloc no w23 _
    clear_value w24
    have h24 := hF24.heap h23 id
    refine ⟨by rw [blk_cell h24]; rfl, ?_⟩
    have hO24 := ((hO21.keep hF22 (fun _ _ => id)).keep hF23 (fun k hk h => by have := hbk21 k hk; have : k = w8.heap.size := h; omega)).keep hF24 (fun _ _ => id)
    have hll := (Own.ints hO24).1
    refine runT_append und_ints hi hz hs1 hby rfl (by decide) hO24 (m := 1) (news := intCells [(lowIn 2 (targetsIn m Dv.2).2.1 (targetsIn m Dv.2).2.2).1]) rfl (fun j u hu => by rw [blk_cell hn24 j]; exact hu) (intCells_one _) (by simp only [maxLen]; omega) (by omega) fun l4 w25 ho hl4 hf25 hm25 => ?_
    rw [← intCells_app] at ho
    have h25 := hf25.heap h24 (fun hk => by have := hbk21 _ hk; omega)
    refine ⟨blk_wr h25 (by simp), ?_⟩
    intro w26
    have h26 : w26.heap[w15.heap.size]? = some (.cells ⟨[.int .i64 Cv.1, .bool (Bv.1 == 1), .slice l4.a l4.len l4.cap]⟩ T.y_head_Head (0, 0)) := by
      have := blk_set h25 2 (.slice l4.a l4.len l4.cap)
      simpa using this
    have hF26 : Fr (· = w15.heap.size) w25 w26 := fr_set w25 _ 2 _
    clear_value w26
    have z22 := hF22.size
    have z23 := hF23.size
    have z24 := hF24.size
    have z25 := hf25.size
    have z26 := hF26.size
    have hbk4 : ∀ k, l4.bk k → w16.heap.size ≤ k := fun k hk => by
      rcases moved_bk hm25 hk with h | h
      · exact hbk21 k h
      · omega
    refine ⟨⟨m + 1, l4, e1, hlt, ?_, h26, ?_, hbk4, ?_, by omega, ?_⟩, ?_⟩
    · exact ((hI23.keep hF24 id).keep hf25 (fun hk => by have := hbk21 _ hk; omega)).keep hF26 (fun h => by have : w8.heap.size = w15.heap.size := h; omega)
    · exact ho.keep hF26 (fun k hk h => by have := hbk4 k hk; have : k = w15.heap.size := h; omega)
    · exact hF26.heap (hf25.heap (hF24.heap (hF23.heap (hF22.heap hr21 id) (fun h => by have : w.heap.size = w8.heap.size := h; omega)) id) (fun hk => by have := hbk21 _ hk; omega)) (fun h => by have : w.heap.size = w15.heap.size := h; omega)
    · have a1 := hB21.trans ((below_fr hF22).mono hB21.size)
      have a2 := a1.trans (hF23.toBelow (B := w.heap.size) (fun k hk => by have : k = w8.heap.size := hk; omega) a1.size)
      have a3 := a2.trans ((below_fr hF24).mono a2.size)
      have a4 := a3.trans (hf25.toBelow (B := w.heap.size) (fun k hk => by have := hbk21 k hk; omega) a3.size)
      exact a4.trans (hF26.toBelow (B := w.heap.size) (fun k hk => by have : k = w15.heap.size := hk; omega) a4.size)
    · show ((cnt : Int) - w64 ((m : Int) + 1)).toNat < ((cnt : Int) - (m : Int)).toNat
      rw [e1]; omega
  · have hmm : m = cnt := by have := of_decide_eq_false hge; omega
    subst hmm
    have ep' : parseH s = ⟨Cv.1, Bv.1 == 1, (targetsIn m Dv.2).1⟩ := by rw [ep, beq_dec]
    refine ⟨Cv.1, by rw [blk_cell0 h21]; rfl, (Bv.1 == 1), by rw [blk_cell h21]; rfl, l, by rw [blk_cell h21]; rfl, ?_⟩
    refine Lay_head (Own.ints hO21) (fun k hk => hO21.lt hk) fun w27 hB27 => ?_
    rw [← ep']
    have hB027 := hB21.trans (hB27.mono hB21.size)
    have hr27 := (fr_below hB27).heap hr21 id
    have h27 := (fr_below hB27).heap h21 id
    refine ⟨fun hne => ?_, fun hok2 => ?_⟩
    · have hne : (layHead (parseH s)).2 ≠ 0 := by simpa using hne
      have e : readHead b = (⟨0, false, []⟩, 6) := by rw [er, if_pos (.inl hne)]
      exact ret3 hr27 0 false ⟨none, 0, 0⟩ (Q := fun n f l w' => R n f l 6 w') (bad e hB027)
    have hok2 : (layHead (parseH s)).2 = 0 := by simpa using hok2
    rw [tx_eq]
    refine ⟨fun hne => ?_, fun heq2 => ?_⟩
    · have hne : (layHead (parseH s)).1 ≠ b := by simpa using hne
      have e : readHead b = (⟨0, false, []⟩, 6) := by rw [er, if_pos (.inr hne)]
      exact ret3 hr27 0 false ⟨none, 0, 0⟩ (Q := fun n f l w' => R n f l 6 w') (bad e hB027)
    have heq2 : (layHead (parseH s)).1 = b := by simpa using heq2
    have e : readHead b = (parseH s, 0) := by
      rw [er, if_neg]
      rintro (h | h)
      · exact h hok2
      · exact h heq2
    rw [e, ep'] at hR
    refine ⟨Cv.1, by rw [blk_cell0 h27]; rfl, (Bv.1 == 1), by rw [blk_cell h27]; rfl, l, by rw [blk_cell h27]; rfl, ?_⟩
    refine ret3 hr27 Cv.1 (Bv.1 == 1) l (Q := fun n f l w' => R n f l 0 w') fun w28 hF28 => ?_
    refine hR l w28 ((hO21.keep (fr_below hB27) (fun _ _ => id)).keep hF28 (fun k hk h => by have := hbk21 k hk; have : k = w.heap.size := h; omega)) (fun k hk => by have := hbk21 k hk; omega) ?_
    exact hB027.trans (hF28.toBelow (fun k hk => by have : k = w.heap.size := hk; omega) hB027.size)

theorem Done_head {w : World} {seq : Int} {full : Bool} {tl : Sl} {R : Int → Bool → Sl → World → Prop} (hR : ∀ w', Below w.heap.size w w' → R seq false ⟨none, 0, 0⟩ w') : F.head_Done seq full tl w R := by
  apply E.head_Done
  unfold V.head_Done
  intro w1 w2
  have h1 : w2.heap[w.heap.size]? = some (.cells ⟨[.int .i64 seq, .bool full, .slice tl.a tl.len tl.cap]⟩ T.y_head_Head (0, 0)) := (Fr.alloc no w1 _).heap (heap_new w _) id
  have h2 : w2.heap[w1.heap.size]? = some (.cells ⟨[.int .i64 0, .bool false, .slice none 0 0]⟩ T.y_head_Head (0, 0)) := heap_new w1 _
  have hs1 : w1.heap.size = w.heap.size + 1 := by simp [w1]
  have hB : Below w.heap.size w w2 := (below_fr (Fr.alloc no w _)).trans ((below_fr (Fr.alloc no w1 _)).mono (by omega))
  clear_value w2
  refine ⟨seq, by rw [blk_cell0 h1]; rfl, ?_⟩
  exact ret3 h2 seq false ⟨none, 0, 0⟩ (Q := fun n f l w' => R n f l w') fun w' hF => hR w' (hB.trans (hF.toBelow (fun k hk => by have : k = w1.heap.size := hk; omega) hB.size))

end Go.Proofs.YtmokmbhhnbcelaaGreatDoor
