/- head.Valid, head.Lay, head.Read, head.Done. -/
import Derived.Test.YtggachhkcmfijaaGreatDoorCs
set_option linter.unusedVariables false
namespace Go.Proofs.YtggachhkcmfijaaGreatDoor
open Go Go.Vc Go.RowKit Go.Lib
def intCells (ts : List Int) : List Value := ts.map fun t => .int .i64 t
theorem intCells_one (ts : List Int) : ∀ u ∈ intCells ts, u.oneCell' = true := by
 intro u hu
 simp only [intCells, List.mem_map] at hu
 obtain ⟨_, _, rfl⟩ := hu
 rfl
theorem intCells_app (a b : List Int) : intCells (a ++ b) = intCells a ++ intCells b := by simp [intCells]
theorem und_ints : Pg.underlying T.y_sl_int = some (.slice T.y_int) := by kernel_rfl
theorem info_int : ∃ i, Pg.info? T.y_int = some i ∧ i.zero = some (.int .i64 0) ∧ i.size = 1 ∧ i.bytes = 8 := by
 have h : (Pg.info? T.y_int).map (fun i => (i.zero, i.size, i.bytes)) = some (some (.int .i64 0), 1, 8) := by kernel_rfl
 obtain ⟨i, hi, h2⟩ := Option.map_eq_some_iff.1 h
 simp only [Prod.mk.injEq] at h2
 exact ⟨i, hi, h2.1, h2.2.1, h2.2.2⟩
theorem Own.ints {w : World} {l : Sl} {ts : List Int} (h : Own w T.y_int 1 l (intCells ts)) : Ints w l ts := by
 refine ⟨by have := h.len; simp [intCells] at this; omega, fun j t hj => ?_⟩
 obtain ⟨a, ha, hc⟩ := h.cell (j := j) (u := .int .i64 t) (by simp [intCells, hj])
 exact ⟨a, ha, by rw [Nat.mul_one]; exact hc⟩
theorem Ints.cell {w : World} {sl : Sl} {ts : List Int} (h : Ints w sl ts) {a : Addr} (ha : sl.a = some a) : ∀ j u, (intCells ts)[j]? = some u → w.cell? (a.add j) = some u := by
 intro j u hu
 simp only [intCells, List.getElem?_map, Option.map_eq_some_iff] at hu
 obtain ⟨t, ht, rfl⟩ := hu
 obtain ⟨a', ha', hc⟩ := h.2 j t ht
 rw [ha] at ha'
 injection ha' with ha'
 subst ha'
 rwa [Nat.mul_one] at hc
theorem Ints.below {w w' : World} {sl : Sl} {ts : List Int} (h : Ints w sl ts) (hw : Below w.heap.size w w') : Ints w' sl ts := h.keep (fr_below hw) (fun _ _ => id)
/-- an int's slice of a row that is known whole -/
theorem Ints.row {w : World} {g : Nat} {t : TypeId} {vs : List Int} (h : w.heap[g]? = some (.cells ⟨intCells vs⟩ t (0, 0))) (n c : Nat) (hn : n = vs.length) : Ints w ⟨some (blk g), n, c⟩ vs :=
 ⟨hn, fun j u hj => ⟨blk g, rfl, by rw [Nat.mul_one, blk_cell h j]; simp [intCells, hj]⟩⟩
theorem Valid_head {w : World} {seq : Int} {full : Bool} {tl : Sl} {ts : List Int} (hT : Ints w tl ts) {R : Bool → World → Prop} (hR : ∀ w', Below w.heap.size w w' → R (validH ⟨seq, full, ts⟩) w') : F.head_Valid seq full tl w R := by
 apply E.head_Valid
 unfold V.head_Valid
 try simp -zeta only [ldC, soC, brC, bkA, slC, stC, alC, drC]
 intro w1
 have h1 : w1.heap[w.heap.size]? = some (.cells ⟨[.int .i64 seq, .bool full, .slice tl.a tl.len tl.cap]⟩ T.y_head_Head (0, 0)) := heap_new w _
 have hB : Below w.heap.size w w1 := below_fr (Fr.alloc no w _)
 clear_value w1
 have hT1 := hT.below hB
 have hlen := hT.1
 have c0 : w1.cell? (blk w.heap.size) = some (.int .i64 seq) := by rw [blk_cell0 h1]; rfl
 have c1 : w1.cell? ((blk w.heap.size).add 1) = some (.bool full) := by rw [blk_cell h1]; rfl
 have c2 : w1.cell? ((blk w.heap.size).add 2) = some (.slice tl.a tl.len tl.cap) := by rw [blk_cell h1]; rfl
 have bad : validH ⟨seq, full, ts⟩ = false → R false w1 := fun h => by rw [← h]; exact hR w1 hB
 have vf : ¬ (validH ⟨seq, full, ts⟩ = true) → validH ⟨seq, full, ts⟩ = false := fun h => by simpa using h
 refine ⟨tl, c2, seq, c0, fun h => bad (vf fun hv => ?_), fun h0 => ⟨seq, c0, fun h => bad (vf fun hv => ?_), fun hS => ⟨fun h => bad (vf fun hv => ?_), fun hL => ⟨full, c1, fun h => bad (vf fun hv => ?_), fun hF => ⟨tl, c2, ?_⟩⟩⟩⟩⟩
 · have := of_decide_eq_true h; have := ((validH_iff _).1 hv).1; simp only at this; omega
 · have := of_decide_eq_true h; have := ((validH_iff _).1 hv).2.1; simp only at this; omega
 · have := of_decide_eq_true h; have := ((validH_iff _).1 hv).2.2.1; simp only at this; omega
 · have hv := ((validH_iff _).1 hv).2.2.2.1
   simp only at hv
   have e : decide (((tl.len : Nat) : Int) > 0) = decide (0 < ts.length) := by rw [hlen, Bool.eq_iff_iff]; simp
   rw [e, ← hv] at h
   simp at h
 have h0 := of_decide_eq_false h0
 have hS := of_decide_eq_false hS
 have hL := of_decide_eq_false hL
 have hF : full = decide (0 < ts.length) := by
   have e : decide (((tl.len : Nat) : Int) > 0) = decide (0 < ts.length) := by rw [hlen, Bool.eq_iff_iff]; simp
   rw [e] at hF
   simpa using hF
 refine ⟨fun n w' => w' = w1 ∧ ∃ m : Nat, n = m ∧ m ≤ ts.length ∧ ∀ i, i < m → upTo ts i = true, fun n _ => (ts.length - n).toNat, ⟨rfl, 0, rfl, Nat.zero_le _, fun i hi => absurd hi (Nat.not_lt_zero _)⟩, ?_⟩
 rintro n w2 ⟨rfl, m, rfl, hm, hup⟩
 refine ⟨fun hlt => ?_, fun hge => ?_⟩
 · have hlt : m < ts.length := by have := of_decide_eq_true hlt; omega
   have e1 : w64 ((m : Int) + 1) = ((m + 1 : Nat) : Int) := by rw [w64_id (by omega) (by omega)]; omega
   have hmeas : ((ts.length : Int) - w64 ((m : Int) + 1)).toNat < ((ts.length : Int) - (m : Int)).toNat := by rw [e1]; omega
   obtain ⟨a, ha, hc⟩ := hT1.2 m ts[m] (by simp [hlt])
   have hat : upTo ts m = (decide (0 ≤ ts[m]) && (decide (ts[m] < 2000) && (decide (m = 0) || decide (ts.getD (m - 1) 0 < ts[m])))) := by
     unfold upTo; rw [List.getElem?_eq_getElem hlt]
   have no' : upTo ts m = false → R false w2 := fun hf => bad (vf fun hv => by
     have := ((validH_iff _).1 hv).2.2.2.2 m hlt
     simp only at this
     rw [hf] at this; cases this)
   refine ⟨a, ha, by omega, by omega, ts[m], by simpa using hc, fun h => no' ?_, fun hn0 => ⟨fun h => no' ?_, fun hn2 => ?_⟩⟩
   · have h := of_decide_eq_true h
     rw [hat, decide_eq_false (by omega)]; rfl
   · have h := of_decide_eq_true h
     rw [hat, decide_eq_false (p := ts[m] < 2000) (by omega)]; simp
   have hn0 := of_decide_eq_false hn0
   have hn2 := of_decide_eq_false hn2
   have next : (m = 0 ∨ ts.getD (m - 1) 0 < ts[m]) → ∀ i, i < m + 1 → upTo ts i = true := fun h i hi => by
     rcases Nat.lt_succ_iff_lt_or_eq.1 hi with h' | h'
     · exact hup i h'
     · subst h'
       rw [hat]
       simp only [Bool.and_eq_true, Bool.or_eq_true, decide_eq_true_eq]
       exact ⟨by omega, by omega, h⟩
   refine ⟨fun hp => ?_, fun hz => ⟨⟨rfl, m + 1, e1, hlt, next (.inl (by have := of_decide_eq_false hz; omega))⟩, hmeas⟩⟩
   have hp : 0 < m := by have := of_decide_eq_true hp; omega
   have e2 : w64 ((m : Int) - 1) = ((m - 1 : Nat) : Int) := by rw [w64_id (by omega) (by omega)]; omega
   obtain ⟨a2, ha2, hd⟩ := hT1.2 (m - 1) (ts[m - 1]'(by omega)) (by simp)
   have eg : ts.getD (m - 1) 0 = ts[m - 1]'(by omega) := by simp [show m - 1 < ts.length by omega]
   rw [e2]
   refine ⟨tl, c2, a2, ha2, by omega, by omega, ts[m - 1]'(by omega), by simpa using hd, fun h => no' ?_, fun h => ⟨⟨rfl, m + 1, e1, hlt, next (.inr ?_)⟩, hmeas⟩⟩
   · have h := of_decide_eq_true h
     rw [hat, eg, decide_eq_false (p := m = 0) (by omega), decide_eq_false (p := ts[m - 1] < ts[m]) (by omega)]; simp
   · have h := of_decide_eq_false h
     rw [eg]; omega
 · have hmm : m = ts.length := by have := of_decide_eq_false hge; omega
   subst hmm
   have : validH ⟨seq, full, ts⟩ = true := (validH_iff _).2 ⟨by simp only; omega, by simp only; omega, by simp only; omega, hF, hup⟩
   rw [← this]; exact hR w2 hB
theorem layL_ok {size : Nat} : ∀ (vs : List Int) {bs : List UInt8}, (∀ v ∈ vs, fitsN size v = true) → layL size vs (bs, 0) = (bs ++ vs.flatMap (leBytes size), 0)
 | [], bs, _ => by simp [layL]
 | v :: r, bs, h => by
   rw [layL, if_neg (by simp), if_pos (h v (by simp)), layL_ok r (fun x hx => h x (by simp [hx]))]
   simp
theorem sealL_ok {n : Nat} {s : List UInt8} (h : s.length ≤ n - 4) : sealL n s = (sealS n s, 0) := by simp [sealL, h]
set_option maxHeartbeats 1000000 in
theorem Lay_head {w : World} {seq : Int} {full : Bool} {tl : Sl} {ts : List Int} (hT : Ints w tl ts) (htl : ∀ k, tl.bk k → k < w.heap.size) {R : ByteArray → Int → World → Prop}
   (hR : ∀ w', Below w.heap.size w w' → R (tx (layHead ⟨seq, full, ts⟩).1) (layHead ⟨seq, full, ts⟩).2 w') : F.head_Lay seq full tl w R := by
 apply E.head_Lay
 unfold V.head_Lay
 try simp -zeta only [ldC, soC, brC, bkA, slC, stC, alC, drC]
 intro w1
 have h1 : w1.heap[w.heap.size]? = some (.cells ⟨[.int .i64 seq, .bool full, .slice tl.a tl.len tl.cap]⟩ T.y_head_Head (0, 0)) := heap_new w _
 have hB1 : Below w.heap.size w w1 := below_fr (Fr.alloc no w _)
 have hz1 : w1.heap.size = w.heap.size + 1 := by simp [w1]
 clear_value w1
 have hT1 := hT.below hB1
 have hlen := hT.1
 refine ⟨seq, by rw [blk_cell0 h1]; rfl, full, by rw [blk_cell h1]; rfl, tl, by rw [blk_cell h1]; rfl, ?_⟩
 refine Valid_head hT1 fun w2 hB2 => ?_
 have hB02 := hB1.trans (hB2.mono hB1.size)
 have h2 := (fr_below hB2).heap h1 id
 refine ⟨fun hv => ?_, fun hv => ?_⟩
 · have hv : validH ⟨seq, full, ts⟩ = false := by simpa using hv
   have : layHead ⟨seq, full, ts⟩ = ([], 1) := by simp [layHead, hv]
   rw [this] at hR
   exact hR w2 hB02
 have hv : validH ⟨seq, full, ts⟩ = true := by simpa using hv
 have el : layHead ⟨seq, full, ts⟩ = (sealS 256 (headBytes ⟨seq, full, ts⟩), 0) := by simp [layHead, hv]
 rw [el] at hR
 obtain ⟨v1, v2, v3, v4, v5⟩ := (validH_iff _).1 hv
 simp only at v1 v2 v3 v4 v5
 have hr := upTo_range v5
 refine ⟨fun f w' => f = (if full then 1 else 0) ∧ w' = w2, ⟨full, by rw [blk_cell h2]; rfl, fun hf => ⟨by rw [hf]; rfl, rfl⟩, fun hf => ⟨by rw [hf]; rfl, rfl⟩⟩, ?_⟩
 rintro f w2' ⟨rfl, rfl⟩
 intro w3
 have h3 : w3.heap[w.heap.size]? = some (.cells ⟨[.int .i64 seq, .bool full, .slice tl.a tl.len tl.cap]⟩ T.y_head_Head (0, 0)) := h2
 have hB3 : Below w.heap.size w w3 := hB02.drew
 clear_value w3
 have hz3 := heap_lt h3
 have cs : ∀ {w' : World}, Below w3.heap.size w3 w' → w'.cell? (blk w.heap.size) = some (.int .i64 seq) ∧ w'.cell? ((blk w.heap.size).add 2) = some (.slice tl.a tl.len tl.cap) := fun hb => by
   have h := (fr_below hb).heap h3 id
   exact ⟨by rw [blk_cell0 h]; rfl, by rw [blk_cell h]; rfl⟩
 have c3 := cs (Below.refl _ _)
 refine ⟨seq, c3.1, tl, c3.2, tl, c3.2, fun w4 g hB4 hg _ hgo w5 g1 hB5 hg1 hg1n hg1o w6 hB6 => ?_⟩
 have s4 := hB4.size
 have s5 := hB5.size
 have s6 := hB6.size
 simp only [inIv, or_false, List.mem_singleton] at hg hg1 hg1n
 have hO4 : OutB w3 w4 g ⟨none, 0, 0⟩ [] 0 := ⟨⟨hgo, Own.nil _ _ _, fun hk => bk_nil hk⟩, hg.1, fun k hk => bk_nil hk, hB4⟩
 have hO6 := (hO4.no (fr_below hB5)).no (fr_below hB6)
 have hg1o6 := (fr_below hB6).heap hg1o id
 -- the kind, full
 have p7 : Ints w6 ⟨some (blk g1), 2, 2⟩ [7, if full then 1 else 0] := Ints.row (vs := [7, if full then 1 else 0]) hg1o6 2 2 rfl
 apply E.bits_Out_Byte
 refine Out_lay hO6.out (size := 1) (by decide) p7 (fun k hk hs => by
   obtain ⟨a, ha, rfl⟩ := hk
   injection ha with ha
   subst ha
   rcases hs with hs | hs
   · exact hg1n hs
   · exact bk_nil hs) (fun v hv => by
     simp only [List.mem_cons, List.not_mem_nil, or_false] at hv
     rcases hv with rfl | rfl
     · decide
     · split <;> decide) (by simp) fun l7 w7 hO7 hF7 hM7 => ?_
 rw [layL_ok _ (fun v hv => by
     simp only [List.mem_cons, List.not_mem_nil, or_false] at hv
     rcases hv with rfl | rfl
     · decide
     · split <;> decide)] at hO7
 have hM7' := hM7
 have hF7' := hF7
 have hO7 := hO6.step hO7 hF7 hM7
 have s7 := hF7.size
 have r7 : ∀ k, l7.bk k → w6.heap.size ≤ k ∧ k < w7.heap.size := fun k hk => ⟨by
   rcases moved_bk hM7' hk with h | h
   · exact bk_nil h
   · exact h, hO7.out.own.lt hk⟩
 have b7 : (([] : List UInt8) ++ List.flatMap (leBytes 1) [7, if full then 1 else 0]).length = 2 := by simp [leBytes_len]
 generalize hb7 : (([] : List UInt8) ++ List.flatMap (leBytes 1) [7, if full then 1 else 0]) = bs7 at hO7 b7
 have c7 := cs hO7.below
 refine ⟨Keep.of hF7' (fun g' hg' hu => ⟨fun hs => by
     simp only [List.mem_cons, List.not_mem_nil, or_false, not_or] at hu
     rcases hs with hs | hs
     · exact hu.2 hs
     · exact bk_nil hs, by simp only [inIv, or_false] at hg'; omega⟩), c7.2, c7.2, c7.1, fun w8 g2 hB8 hg2 hg2n hg2o w9 hB9 => ?_⟩
 have s8 := hB8.size
 have s9 := hB9.size
 simp only [inIv, or_false, List.mem_cons, List.not_mem_nil, not_or] at hg2 hg2n
 have hO9 := (hO7.no (fr_below hB8)).no (fr_below hB9)
 have hg2o9 := (fr_below hB9).heap hg2o id
 -- the number
 refine Out_Long hO9.out hg2o9 (by omega) (by simp only; omega) fun l10 w10 hO10 hF10 hM10 => ?_
 have hfit : fitsN 8 seq = true := by simp [fitsN]; omega
 rw [lay1_ok hfit] at hO10
 have hO10 := hO9.step hO10 hF10 hM10
 have s10 := hF10.size
 have r10 : ∀ k, l10.bk k → (w6.heap.size ≤ k ∧ k < w7.heap.size) ∨ (w9.heap.size ≤ k ∧ k < w10.heap.size) := fun k hk => by
   rcases moved_bk hM10 hk with h | h
   · exact .inl (r7 k h)
   · exact .inr ⟨h, hO10.out.own.lt hk⟩
 have c10 := cs hO10.below
 refine ⟨Keep.of hF10 (fun g' hg' hu => ⟨fun hs => by
     simp only [List.mem_cons, List.not_mem_nil, or_false, not_or] at hu
     rcases hs with hs | hs
     · exact hu.2.2 hs
     · have := r7 _ hs; simp only [inIv, or_false] at hg'; omega, by simp only [inIv, or_false] at hg'; omega⟩), c10.2, c10.2, c10.1, fun w11 g3 hB11 hg3 hg3n hg3o w12 hB12 => ?_⟩
 have s11 := hB11.size
 have s12 := hB12.size
 simp only [inIv, or_false, List.mem_cons, List.not_mem_nil, not_or] at hg3 hg3n
 have hO12 := (hO10.no (fr_below hB11)).no (fr_below hB12)
 have hg3o12 := (fr_below hB12).heap hg3o id
 rw [hlen] at hg3o12
 -- how many
 refine Out_Half hO12.out hg3o12 (by omega) (by simp only [List.length_append, leBytes_len]; omega) fun l13 w13 hO13 hF13 hM13 => ?_
 have hfit2 : fitsN 2 ((ts.length : Nat) : Int) = true := by simp [fitsN]; omega
 rw [lay1_ok hfit2] at hO13
 have hO13 := hO12.step hO13 hF13 hM13
 have s13 := hF13.size
 have r13 : ∀ k, l13.bk k → (w6.heap.size ≤ k ∧ k < w7.heap.size) ∨ (w9.heap.size ≤ k ∧ k < w10.heap.size) ∨ (w12.heap.size ≤ k ∧ k < w13.heap.size) := fun k hk => by
   rcases moved_bk hM13 hk with h | h
   · rcases r10 k h with h | h
     · exact .inl h
     · exact .inr (.inl h)
   · exact .inr (.inr ⟨h, hO13.out.own.lt hk⟩)
 have c13 := cs hO13.below
 refine ⟨Keep.of hF13 (fun g' hg' hu => ⟨fun hs => by
     simp only [List.mem_cons, List.not_mem_nil, or_false, not_or] at hu
     rcases hs with hs | hs
     · exact hu.2.2.2 hs
     · have := r10 _ hs; simp only [inIv, or_false] at hg'; omega, by simp only [inIv, or_false] at hg'; omega⟩), c13.2, c13.2, c13.1, fun w14 hB14 => ?_⟩
 have s14 := hB14.size
 have hO14 := hO13.no (fr_below hB14)
 have hT14 : Ints w14 tl ts := hT.below (hB3.trans (hO14.below.mono hB3.size))
 -- the targets
 apply E.bits_Out_Half
 have hlo14 := hO14.row
 refine Out_lay hO14.out (size := 2) (by decide) hT14 (fun k hk hs => by
     have h := htl k hk
     have s3 := hB3.size
     rcases hs with hs | hs
     · have := hO14.lo; omega
     · have := hlo14 k hs; omega) (fun v hv => by have := hr v hv; omega) (by simp only [List.length_append, leBytes_len]; omega) fun l15 w15 hO15 hF15 hM15 => ?_
 rw [layL_ok _ (fun v hv => by have := hr v hv; simp [fitsN]; omega)] at hO15
 have hO15 := hO14.step hO15 hF15 hM15
 have s15 := hF15.size
 have c15 := cs hO15.below
 refine ⟨Keep.of hF15 (fun g' hg' hu => ⟨fun hs => by
     simp only [List.mem_cons, List.not_mem_nil, or_false, not_or] at hu
     rcases hs with hs | hs
     · exact hu.2.2.2 hs
     · have := r13 _ hs; simp only [inIv, or_false] at hg'; omega, by simp only [inIv, or_false] at hg'; omega⟩), c15.2, c15.1, fun w16 hB16 => ?_⟩
 have hO16 := hO15.no (fr_below hB16)
 refine Out_End hO16.out fun w17 hF17 => ?_
 have hO17 := hO16.no hF17
 have c17 := cs hO17.below
 have s16 := hB16.size
 have s17 := hF17.size
 refine ⟨Keep.of hF17 (fun g' hg' hu => ⟨id, by simp only [inIv, or_false] at hg'; omega⟩), c17.2, c17.1, fun w18 hB18 => ?_⟩
 have hO18 := hO17.no (fr_below hB18)
 refine ⟨fun h => by simp at h, fun _ => ?_⟩
 have eb : (if (0 : Int) ≠ 0 then ([] : List UInt8) else bs7 ++ leBytes 8 seq ++ leBytes 2 ((ts.length : Nat) : Int) ++ ts.flatMap (leBytes 2)) = headBytes ⟨seq, full, ts⟩ := by
   rw [if_neg (by simp), ← hb7]
   simp [headBytes]
 rw [eb]
 have hbl := headBytes_len ⟨seq, full, ts⟩
 simp only at hbl
 have hB18' := hB3.trans (hO18.below.mono hB3.size)
 intro w19
 have h19 : w19.heap[w18.heap.size]? = some (.cells ⟨[.string (tx (headBytes ⟨seq, full, ts⟩))]⟩ T.y_string (0, 0)) := heap_new w18 _
 have hB19 : Below w.heap.size w w19 := hB18'.trans ((below_fr (Fr.alloc no w18 _)).mono hB18'.size)
 clear_value w19
 refine Seal_spec (n := 256) (by decide) (by decide) h19 (by omega) fun w20 hB20 => ?_
 rw [sealL_ok (by omega)]
 exact hR w20 (hB19.trans (hB20.mono hB19.size))
/-- three cells that are set, and read -/
theorem ret3 {w : World} {g : Nat} {a b c : Value} {t : TypeId} (h : w.heap[g]? = some (.cells ⟨[a, b, c]⟩ t (0, 0))) (n : Int) (f : Bool) (l : Sl) {Q : Int → Bool → Sl → World → Prop} (hQ : ∀ w', Fr (· = g) w w' → Q n f l w') :
   Wr w (blk g) ∧ Wr (w.setCell (blk g) (.int .i64 n)) ((blk g).add 1) ∧ Wr ((w.setCell (blk g) (.int .i64 n)).setCell ((blk g).add 1) (.bool f)) ((blk g).add 2) ∧
     ∃ n', (((w.setCell (blk g) (.int .i64 n)).setCell ((blk g).add 1) (.bool f)).setCell ((blk g).add 2) (.slice l.a l.len l.cap)).cell? (blk g) = some (.int .i64 n') ∧
     ∃ f', (((w.setCell (blk g) (.int .i64 n)).setCell ((blk g).add 1) (.bool f)).setCell ((blk g).add 2) (.slice l.a l.len l.cap)).cell? ((blk g).add 1) = some (.bool f') ∧
     ∃ l' : Sl, (((w.setCell (blk g) (.int .i64 n)).setCell ((blk g).add 1) (.bool f)).setCell ((blk g).add 2) (.slice l.a l.len l.cap)).cell? ((blk g).add 2) = some (.slice l'.a l'.len l'.cap) ∧
       Q n' f' l' (((w.setCell (blk g) (.int .i64 n)).setCell ((blk g).add 1) (.bool f)).setCell ((blk g).add 2) (.slice l.a l.len l.cap)) := by
 have h1 := blk_set0 h (.int .i64 n)
 have h2 := blk_set h1 1 (.bool f)
 have h3 := blk_set h2 2 (.slice l.a l.len l.cap)
 have f1 := fr_set0 w g (.int .i64 n)
 have f2 := f1.trans (S := (· = g)) (fr_set _ g 1 (.bool f)) (fun _ _ h => h)
 have f3 := f2.trans (S := (· = g)) (fr_set _ g 2 (.slice l.a l.len l.cap)) (fun _ _ h => h)
 exact ⟨blk_wr0 h (by simp), blk_wr h1 (by simp), blk_wr h2 (by simp), n, by rw [blk_cell0 h3]; rfl, f, by rw [blk_cell h3]; rfl, l, by rw [blk_cell h3]; rfl, hQ _ f3⟩
/-- three cells that are set -/
theorem set3 {w : World} {g : Nat} {a b c : Value} {t : TypeId} (h : w.heap[g]? = some (.cells ⟨[a, b, c]⟩ t (0, 0))) (n : Int) (f : Bool) (l : Sl) :
   Wr w (blk g) ∧ Wr (w.setCell (blk g) (.int .i64 n)) ((blk g).add 1) ∧ Wr ((w.setCell (blk g) (.int .i64 n)).setCell ((blk g).add 1) (.bool f)) ((blk g).add 2) ∧
     (((w.setCell (blk g) (.int .i64 n)).setCell ((blk g).add 1) (.bool f)).setCell ((blk g).add 2) (.slice l.a l.len l.cap)).heap[g]? = some (.cells ⟨[.int .i64 n, .bool f, .slice l.a l.len l.cap]⟩ t (0, 0)) ∧
     Fr (· = g) w (((w.setCell (blk g) (.int .i64 n)).setCell ((blk g).add 1) (.bool f)).setCell ((blk g).add 2) (.slice l.a l.len l.cap)) := by
 have h1 := blk_set0 h (.int .i64 n)
 have h2 := blk_set h1 1 (.bool f)
 have h3 := blk_set h2 2 (.slice l.a l.len l.cap)
 have f1 := fr_set0 w g (.int .i64 n)
 have f2 := f1.trans (S := (· = g)) (fr_set _ g 1 (.bool f)) (fun _ _ h => h)
 have f3 := f2.trans (S := (· = g)) (fr_set _ g 2 (.slice l.a l.len l.cap)) (fun _ _ h => h)
 exact ⟨blk_wr0 h (by simp), blk_wr h1 (by simp), blk_wr h2 (by simp), h3, f3⟩
end Go.Proofs.YtggachhkcmfijaaGreatDoor
