/- head.Read, head.Done. -/
import Derived.Test.YtggachhkcmfijaaGreatDoorHe
import Derived.Test.YtggachhkcmfijaaGreatDoorHn
import Derived.Lib.SlicesCompact
set_option linter.unusedVariables false
namespace Go.Proofs.YtggachhkcmfijaaGreatDoor
open Go Go.Vc Go.RowKit Go.Lib
theorem openB_len (b : List UInt8) : (openB b).1.length ≤ b.length := by
 unfold openB
 split
 · simp
 · split <;> simp
theorem targetsIn_len : ∀ (n : Nat) (x : List UInt8 × Int), (targetsIn n x).1.length = n
 | 0, x => rfl
 | n + 1, x => by simp [targetsIn, targetsIn_len n x]
theorem targetsIn_left : ∀ (n : Nat) (x : List UInt8 × Int), (targetsIn n x).2.1.length ≤ x.1.length
 | 0, x => Nat.le_refl _
 | n + 1, x => by
   simp only [targetsIn]
   exact Nat.le_trans (lowIn_left _ _ _) (targetsIn_left n x)
theorem beq_dec (x y : Int) : (x == y) = decide (x = y) := by rw [Bool.eq_iff_iff]; simp
set_option maxHeartbeats 1000000 in
theorem Read_head {w : World} {b : List UInt8} (hb : b.length ≤ 1000000000) {R : Int → Bool → Sl → Int → World → Prop}
   (hR : ∀ l w', Own w' T.y_int 1 l (intCells (readHead b).1.ts) → (∀ k, l.bk k → w.heap.size ≤ k) → Below w.heap.size w w' → R (readHead b).1.seq (readHead b).1.full l (readHead b).2 w') : F.head_Read (tx b) w R := by
 obtain ⟨i, hi, hz, hs1, hby⟩ := info_int
 apply E.head_Read
 unfold V.head_Read
 try simp -zeta only [ldC, soC, brC, bkA, slC, stC, alC, drC]
 intro w1
 have h1 : w1.heap[w.heap.size]? = some (.cells ⟨[.int .i64 0, .bool false, .slice none 0 0]⟩ T.y_head_Head (0, 0)) := heap_new w _
 have hB1 : Below w.heap.size w w1 := below_fr (Fr.alloc no w _)
 clear_value w1
 have bad : ∀ {w' : World} {code : Int}, readHead b = (⟨0, false, []⟩, code) → Below w.heap.size w w' → ∀ w'', Fr (· = w.heap.size) w' w'' → R 0 false ⟨none, 0, 0⟩ code w'' := fun e hB w'' hF => by
   rw [e] at hR
   exact hR ⟨none, 0, 0⟩ w'' (Own.nil _ _ _) (fun k hk => bk_nil hk) (hB.trans (hF.toBelow (fun k hk => by have : k = w.heap.size := hk; omega) hB.size))
 rw [tx_size]
 refine ⟨fun hne => ?_, fun heq => ?_⟩
 · have hne : b.length ≠ 256 := fun h => by rw [h] at hne; simp at hne
   have e : readHead b = (⟨0, false, []⟩, 5) := by unfold readHead; rw [if_pos hne]
   exact ret3 h1 0 false ⟨none, 0, 0⟩ (Q := fun n f l w' => R n f l 5 w') (bad e hB1)
 have heq : b.length = 256 := by
   have h : (b.length : Int) = 256 := by simpa using heq
   omega
 refine Trim_zero (by omega) fun w4 hB4 => ?_
 have hB04 := hB1.trans (hB4.mono hB1.size)
 have h4 := (fr_below hB4).heap h1 id
 rw [tx_nil, tx_eq]
 refine ⟨fun ht => ?_, fun ht => ?_⟩
 · have ht := trim_nil.1 (of_decide_eq_true ht)
   have e : readHead b = (⟨0, false, []⟩, 0) := by unfold readHead; rw [if_neg (by omega), if_pos ht]
   exact ret3 h4 0 false ⟨none, 0, 0⟩ (Q := fun n f l w' => R n f l 0 w') (bad e hB04)
 have ht : ¬ b.all (fun x => [(0 : UInt8)].contains x) = true := fun h => of_decide_eq_false ht (trim_nil.2 h)
 refine Open_spec hb fun w8 hB8 => ?_
 have hB08 := hB04.trans (hB8.mono hB04.size)
 have h8 := (fr_below hB8).heap h4 id
 refine ⟨fun hne => ?_, fun hok => ?_⟩
 · have hne : (openB b).2 ≠ 0 := by simpa using hne
   have e : readHead b = (⟨0, false, []⟩, (openB b).2) := by unfold readHead; rw [if_neg (by omega), if_neg ht, if_pos hne]
   exact ret3 h8 0 false ⟨none, 0, 0⟩ (Q := fun n f l w' => R n f l (openB b).2 w') (bad e hB08)
 have hok : (openB b).2 = 0 := by simpa using hok
 have er : readHead b = if (layHead (parseH (openB b).1)).2 ≠ 0 ∨ (layHead (parseH (openB b).1)).1 ≠ b then (⟨0, false, []⟩, 6) else (parseH (openB b).1, 0) := by
   unfold readHead; rw [if_neg (by omega), if_neg ht, if_neg (by simpa using hok)]
 have hsl := openB_len b
 generalize hS : (openB b).1 = s at er hsl
 have ep : parseH s = ⟨(lowIn 8 (lowIn 1 (lowIn 1 s 0).2.1 (lowIn 1 s 0).2.2).2.1 (lowIn 1 (lowIn 1 s 0).2.1 (lowIn 1 s 0).2.2).2.2).1, decide ((lowIn 1 (lowIn 1 s 0).2.1 (lowIn 1 s 0).2.2).1 = 1),
     (targetsIn (min (lowIn 2 (lowIn 8 (lowIn 1 (lowIn 1 s 0).2.1 (lowIn 1 s 0).2.2).2.1 (lowIn 1 (lowIn 1 s 0).2.1 (lowIn 1 s 0).2.2).2.2).2.1 (lowIn 8 (lowIn 1 (lowIn 1 s 0).2.1 (lowIn 1 s 0).2.2).2.1 (lowIn 1 (lowIn 1 s 0).2.1 (lowIn 1 s 0).2.2).2.2).2.2).1 110).toNat
       (lowIn 2 (lowIn 8 (lowIn 1 (lowIn 1 s 0).2.1 (lowIn 1 s 0).2.2).2.1 (lowIn 1 (lowIn 1 s 0).2.1 (lowIn 1 s 0).2.2).2.2).2.1 (lowIn 8 (lowIn 1 (lowIn 1 s 0).2.1 (lowIn 1 s 0).2.2).2.1 (lowIn 1 (lowIn 1 s 0).2.1 (lowIn 1 s 0).2.2).2.2).2.2).2).1⟩ := rfl
 have la := lowIn_left 1 s 0
 refine On_spec fun w12 hI12 hF12 hlt12 => ?_
 refine In_Byte hI12 (by omega) fun w13 hI13 hF13 => ?_
 generalize hA : lowIn 1 s 0 = A at ep hI13 la
 have lb := lowIn_left 1 A.2.1 A.2.2
 refine In_Byte hI13 (by omega) fun w14 hI14 hF14 => ?_
 generalize hBv : lowIn 1 A.2.1 A.2.2 = Bv at ep hI14 lb
 have lc := lowIn_left 8 Bv.2.1 Bv.2.2
 refine In_Long hI14 (by omega) fun w15 hI15 hF15 => ?_
 generalize hCv : lowIn 8 Bv.2.1 Bv.2.2 = Cv at ep hI15 lc
 have ld := lowIn_left 2 Cv.2.1 Cv.2.2
 have lbd := lowIn_bound 2 Cv.2.1 Cv.2.2 (by decide)
 have s8 := hB08.size
 have s13 := hF13.size
 have s14 := hF14.size
 have s15 := hF15.size
 have hF815 : Fr no w8 w15 := by
   refine ⟨?_, ?_, ?_, by omega, fun k hk _ => ?_⟩
   · rw [hF15.os, hF14.os, hF13.os, hF12.os]
   · rw [hF15.tape, hF14.tape, hF13.tape, hF12.tape]
   · rw [hF15.output, hF14.output, hF13.output, hF12.output]
   · rw [hF15.block k (by omega) (by omega), hF14.block k (by omega) (by omega), hF13.block k (by omega) (by omega), hF12.block k hk id]
 have hB15 := hB08.trans ((below_fr hF815).mono s8)
 have h15 := hF815.heap h8 id
 intro w16
 have h16 : w16.heap[w15.heap.size]? = some (.cells ⟨[.int .i64 0, .bool false, .slice none 0 0]⟩ T.y_head_Head (0, 0)) := heap_new w15 _
 have hF16 : Fr no w15 w16 := Fr.alloc no w15 _
 have hz16 : w16.heap.size = w15.heap.size + 1 := by simp [w16]
 clear_value w16
 obtain ⟨k1, k2, k3, h19, hF19⟩ := set3 h16 Cv.1 (Bv.1 == 1) ⟨none, 0, 0⟩
 refine ⟨k1, ?_⟩
 intro w17
 refine ⟨k2, ?_⟩
 intro w18
 refine ⟨k3, ?_⟩
 intro w19
 have h19 : w19.heap[w15.heap.size]? = some (.cells ⟨[.int .i64 Cv.1, .bool (Bv.1 == 1), .slice none 0 0]⟩ T.y_head_Head (0, 0)) := h19
 have hF19 : Fr (· = w15.heap.size) w16 w19 := hF19
 clear_value w19
 clear w17 w18
 have s19 := hF19.size
 have hI19 := (hI15.keep hF16 id).keep hF19 (fun h => by have : w8.heap.size = w15.heap.size := h; have := heap_lt hI15.obj; omega)
 have hB16 := hB15.trans ((below_fr hF16).mono hB15.size)
 have hB19 := hB16.trans (hF19.toBelow (B := w.heap.size) (fun k hk => by have : k = w15.heap.size := hk; have := hB15.size; omega) hB16.size)
 have hr19 := hF19.heap (hF16.heap h15 id) (fun h => by have : w.heap.size = w15.heap.size := h; have := heap_lt h15; omega)
 refine In_Half hI19 (by omega) fun w20 hI20 hF20 => ?_
 generalize hDv : lowIn 2 Cv.2.1 Cv.2.2 = Dv at ep hI20 ld lbd
 have h20 := hF20.heap h19 (fun h => by have : w15.heap.size = w8.heap.size := h; have := heap_lt hI15.obj; omega)
 have hr20 := hF20.heap hr19 (fun h => by have : w.heap.size = w8.heap.size := h; have := heap_lt h8; omega)
 have hB20 := hB19.trans (hF20.toBelow (B := w.heap.size) (fun k hk => by have : k = w8.heap.size := hk; omega) hB19.size)
 have s20 := hF20.size
 have hlt815 : w8.heap.size < w15.heap.size := heap_lt hI15.obj
 have hlt0 : w.heap.size < w8.heap.size := heap_lt h8
 have h256 : (256 : Int) ^ 2 = 65536 := by decide
 have ecnt : (imin Dv.1 110) = (((min Dv.1 110).toNat : Nat) : Int) := by
   have : imin Dv.1 110 = min Dv.1 110 := by unfold imin; omega
   rw [this]; omega
 rw [ecnt]
 have hcnt : (min Dv.1 110).toNat ≤ 110 := by omega
 generalize hN : (min Dv.1 110).toNat = cnt at ep hcnt
 refine ⟨fun n w' => ∃ (m : Nat) (l : Sl), n = m ∧ m ≤ cnt ∧ InAt w' w8.heap.size (targetsIn m Dv.2).2.1 (targetsIn m Dv.2).2.2 ∧ w'.heap[w15.heap.size]? = some (.cells ⟨[.int .i64 Cv.1, .bool (Bv.1 == 1), .slice l.a l.len l.cap]⟩ T.y_head_Head (0, 0)) ∧
     Own w' T.y_int 1 l (intCells (targetsIn m Dv.2).1) ∧ (∀ k, l.bk k → w16.heap.size ≤ k) ∧ w'.heap[w.heap.size]? = some (.cells ⟨[.int .i64 0, .bool false, .slice none 0 0]⟩ T.y_head_Head (0, 0)) ∧ w16.heap.size ≤ w'.heap.size ∧ Below w.heap.size w w', fun n _ => (cnt - n).toNat,
   ⟨0, ⟨none, 0, 0⟩, rfl, Nat.zero_le _, hI20, h20, Own.nil _ _ _, fun k hk => bk_nil hk, hr20, by omega, hB20⟩, ?_⟩
 rintro n w21 ⟨m, l, rfl, hm, hI21, h21, hO21, hbk21, hr21, hs21, hB21⟩
 have tl := targetsIn_left m Dv.2
 have tn := targetsIn_len m Dv.2
 refine ⟨fun hlt => ?_, fun hge => ?_⟩
 · have hlt : m < cnt := by have := of_decide_eq_true hlt; omega
   have e1 : w64 ((m : Int) + 1) = ((m + 1 : Nat) : Int) := by rw [w64_id (by omega) (by omega)]; omega
   intro w22
   have h22 : w22.heap[w15.heap.size]? = some (.cells ⟨[.int .i64 Cv.1, .bool (Bv.1 == 1), .slice l.a l.len l.cap]⟩ T.y_head_Head (0, 0)) := h21
   have hF22 : Fr no w21 w22 := Fr.drew no w21
   clear_value w22
   have hI22 := hI21.keep hF22 id
   refine ⟨l, by rw [blk_cell h22]; rfl, In_Half hI22 (by omega) fun w23 hI23 hF23 => ?_⟩
   have h23 := hF23.heap h22 (fun h => by have : w15.heap.size = w8.heap.size := h; omega)
   refine ⟨by rw [blk_cell h23]; rfl, ?_⟩
   intro w24
   have hn24 : w24.heap[w23.heap.size]? = some (.cells ⟨[.int .i64 (lowIn 2 (targetsIn m Dv.2).2.1 (targetsIn m Dv.2).2.2).1]⟩ T.y_int (0, 0)) := heap_new w23 _
   have hF24 : Fr no w23 w24 := Fr.alloc no w23 _
   clear_value w24
   have h24 := hF24.heap h23 id
   refine ⟨by rw [blk_cell h24]; rfl, ?_⟩
   have hO24 := ((hO21.keep hF22 (fun _ _ => id)).keep hF23 (fun k hk h => by have := hbk21 k hk; have : k = w8.heap.size := h; omega)).keep hF24 (fun _ _ => id)
   have hll := (Own.ints hO24).1
   refine runT_append und_ints hi hz hs1 hby rfl (by decide) hO24 (m := 1) (news := intCells [(lowIn 2 (targetsIn m Dv.2).2.1 (targetsIn m Dv.2).2.2).1]) rfl (fun j u hu => by rw [blk_cell hn24 j]; exact hu) (intCells_one _) (by simp only [maxLen]; omega) (by omega) fun l4 w25 ho hl4 hf25 hm25 => ?_
   rw [← intCells_app] at ho
   have h25 := hf25.heap h24 (fun hk => by have := hbk21 _ hk; omega)
   refine ⟨blk_wr h25 (by simp), ?_⟩
   intro w26
   have h26 : w26.heap[w15.heap.size]? = some (.cells ⟨[.int .i64 Cv.1, .bool (Bv.1 == 1), .slice l4.a l4.len l4.cap]⟩ T.y_head_Head (0, 0)) := by
     have := blk_set h25 2 (.slice l4.a l4.len l4.cap)
     simpa using this
   have hF26 : Fr (· = w15.heap.size) w25 w26 := fr_set w25 _ 2 _
   clear_value w26
   have z22 := hF22.size
   have z23 := hF23.size
   have z24 := hF24.size
   have z25 := hf25.size
   have z26 := hF26.size
   have hbk4 : ∀ k, l4.bk k → w16.heap.size ≤ k := fun k hk => by
     rcases moved_bk hm25 hk with h | h
     · exact hbk21 k h
     · omega
   refine ⟨⟨m + 1, l4, e1, hlt, ?_, h26, ?_, hbk4, ?_, by omega, ?_⟩, ?_⟩
   · exact ((hI23.keep hF24 id).keep hf25 (fun hk => by have := hbk21 _ hk; omega)).keep hF26 (fun h => by have : w8.heap.size = w15.heap.size := h; omega)
   · exact ho.keep hF26 (fun k hk h => by have := hbk4 k hk; have : k = w15.heap.size := h; omega)
   · exact hF26.heap (hf25.heap (hF24.heap (hF23.heap (hF22.heap hr21 id) (fun h => by have : w.heap.size = w8.heap.size := h; omega)) id) (fun hk => by have := hbk21 _ hk; omega)) (fun h => by have : w.heap.size = w15.heap.size := h; omega)
   · have a1 := hB21.trans ((below_fr hF22).mono hB21.size)
     have a2 := a1.trans (hF23.toBelow (B := w.heap.size) (fun k hk => by have : k = w8.heap.size := hk; omega) a1.size)
     have a3 := a2.trans ((below_fr hF24).mono a2.size)
     have a4 := a3.trans (hf25.toBelow (B := w.heap.size) (fun k hk => by have := hbk21 k hk; omega) a3.size)
     exact a4.trans (hF26.toBelow (B := w.heap.size) (fun k hk => by have : k = w15.heap.size := hk; omega) a4.size)
   · show ((cnt : Int) - w64 ((m : Int) + 1)).toNat < ((cnt : Int) - (m : Int)).toNat
     rw [e1]; omega
 · have hmm : m = cnt := by have := of_decide_eq_false hge; omega
   subst hmm
   have ep' : parseH s = ⟨Cv.1, Bv.1 == 1, (targetsIn m Dv.2).1⟩ := by rw [ep, beq_dec]
   refine ⟨Cv.1, by rw [blk_cell0 h21]; rfl, (Bv.1 == 1), by rw [blk_cell h21]; rfl, l, by rw [blk_cell h21]; rfl, ?_⟩
   refine Lay_head (Own.ints hO21) (fun k hk => hO21.lt hk) fun w27 hB27 => ?_
   rw [← ep']
   have hB027 := hB21.trans (hB27.mono hB21.size)
   have hr27 := (fr_below hB27).heap hr21 id
   have h27 := (fr_below hB27).heap h21 id
   refine ⟨fun hne => ?_, fun hok2 => ?_⟩
   · have hne : (layHead (parseH s)).2 ≠ 0 := by simpa using hne
     have e : readHead b = (⟨0, false, []⟩, 6) := by rw [er, if_pos (.inl hne)]
     exact ret3 hr27 0 false ⟨none, 0, 0⟩ (Q := fun n f l w' => R n f l 6 w') (bad e hB027)
   have hok2 : (layHead (parseH s)).2 = 0 := by simpa using hok2
   rw [tx_eq]
   refine ⟨fun hne => ?_, fun heq2 => ?_⟩
   · have hne : (layHead (parseH s)).1 ≠ b := by simpa using hne
     have e : readHead b = (⟨0, false, []⟩, 6) := by rw [er, if_pos (.inr hne)]
     exact ret3 hr27 0 false ⟨none, 0, 0⟩ (Q := fun n f l w' => R n f l 6 w') (bad e hB027)
   have heq2 : (layHead (parseH s)).1 = b := by simpa using heq2
   have e : readHead b = (parseH s, 0) := by
     rw [er, if_neg]
     rintro (h | h)
     · exact h hok2
     · exact h heq2
   rw [e, ep'] at hR
   refine ⟨Cv.1, by rw [blk_cell0 h27]; rfl, (Bv.1 == 1), by rw [blk_cell h27]; rfl, l, by rw [blk_cell h27]; rfl, ?_⟩
   refine ret3 hr27 Cv.1 (Bv.1 == 1) l (Q := fun n f l w' => R n f l 0 w') fun w28 hF28 => ?_
   refine hR l w28 ((hO21.keep (fr_below hB27) (fun _ _ => id)).keep hF28 (fun k hk h => by have := hbk21 k hk; have : k = w.heap.size := h; omega)) (fun k hk => by have := hbk21 k hk; omega) ?_
   exact hB027.trans (hF28.toBelow (fun k hk => by have : k = w.heap.size := hk; omega) hB027.size)
theorem Done_head {w : World} {seq : Int} {full : Bool} {tl : Sl} {R : Int → Bool → Sl → World → Prop} (hR : ∀ w', Below w.heap.size w w' → R seq false ⟨none, 0, 0⟩ w') : F.head_Done seq full tl w R := by
 apply E.head_Done
 unfold V.head_Done
 try simp -zeta only [ldC, soC, brC, bkA, slC, stC, alC, drC]
 intro w1 w2
 have h1 : w2.heap[w.heap.size]? = some (.cells ⟨[.int .i64 seq, .bool full, .slice tl.a tl.len tl.cap]⟩ T.y_head_Head (0, 0)) := (Fr.alloc no w1 _).heap (heap_new w _) id
 have h2 : w2.heap[w1.heap.size]? = some (.cells ⟨[.int .i64 0, .bool false, .slice none 0 0]⟩ T.y_head_Head (0, 0)) := heap_new w1 _
 have hs1 : w1.heap.size = w.heap.size + 1 := by simp [w1]
 have hB : Below w.heap.size w w2 := (below_fr (Fr.alloc no w _)).trans ((below_fr (Fr.alloc no w1 _)).mono (by omega))
 clear_value w2
 refine ⟨seq, by rw [blk_cell0 h1]; rfl, ?_⟩
 exact ret3 h2 seq false ⟨none, 0, 0⟩ (Q := fun n f l w' => R n f l w') fun w' hF => hR w' (hB.trans (hF.toBelow (fun k hk => by have : k = w1.heap.size := hk; omega) hB.size))
end Go.Proofs.YtggachhkcmfijaaGreatDoor

/- numbers in order, each once: sorting and compacting is the same as putting one by one. -/
set_option linter.unusedVariables false
namespace Go.Proofs.YtggachhkcmfijaaGreatDoor
open Go Go.Vc Go.RowKit Go.Lib
abbrev Up (l : List Int) : Prop := l.Pairwise fun a b => a < b
theorem up_ext : ∀ {a b : List Int}, Up a → Up b → (∀ x, x ∈ a ↔ x ∈ b) → a = b
 | [], [], _, _, _ => rfl
 | [], y :: b, _, _, h => by have := (h y).2 (by simp); simp at this
 | x :: a, [], _, _, h => by have := (h x).1 (by simp); simp at this
 | x :: a, y :: b, ha, hb, h => by
   obtain ⟨a1, a2⟩ := List.pairwise_cons.1 ha
   obtain ⟨b1, b2⟩ := List.pairwise_cons.1 hb
   have hxy : x = y := by
     have h1 := (h x).1 (by simp)
     have h2 := (h y).2 (by simp)
     rcases List.mem_cons.1 h1 with h1 | h1
     · exact h1
     · rcases List.mem_cons.1 h2 with h2 | h2
       · exact h2.symm
       · have := a1 y h2; have := b1 x h1; omega
   subst hxy
   have : a = b := up_ext a2 b2 fun z => ⟨fun hz => by
     rcases List.mem_cons.1 ((h z).1 (by simp [hz])) with h1 | h1
     · subst h1; have := a1 z hz; omega
     · exact h1, fun hz => by
     rcases List.mem_cons.1 ((h z).2 (by simp [hz])) with h1 | h1
     · subst h1; have := b1 z hz; omega
     · exact h1⟩
   rw [this]
theorem compactUpTo_up (zs : List Int) (h : zs.Pairwise fun a b => a ≤ b) : ∀ m, m ≤ zs.length →
   Up (compactUpTo zs.toArray m) ∧ (∀ x, x ∈ compactUpTo zs.toArray m ↔ x ∈ zs.take m)
 | 0, _ => by simp [compactUpTo]
 | m + 1, hm => by
   obtain ⟨h1, h2⟩ := compactUpTo_up zs h m (by omega)
   have hlt : m < zs.length := by omega
   have e : zs.toArray[m]! = zs[m] := by simp [hlt]
   have ord : ∀ i j, (hi : i < zs.length) → (hj : j < zs.length) → i < j → zs[i] ≤ zs[j] := fun i j hi hj hij => List.pairwise_iff_getElem.1 h i j hi hj hij
   rw [compactUpTo_succ, List.take_succ_eq_append_getElem hlt, e]
   by_cases hk : keeps zs.toArray m = true
   · rw [if_pos hk]
     refine ⟨List.pairwise_append.2 ⟨h1, List.pairwise_singleton _ _, fun a ha b hb => ?_⟩, fun x => by rw [List.mem_append, List.mem_append, h2]⟩
     rw [List.mem_singleton] at hb
     subst hb
     obtain ⟨i, hi, rfl⟩ := List.mem_iff_getElem.1 ((h2 a).1 ha)
     simp only [List.length_take] at hi
     rw [List.getElem_take]
     have hne : zs[m - 1]'(by omega) ≠ zs[m] := by
       have e2 : zs.toArray[m - 1]! = zs[m - 1]'(by omega) := by simp [show m - 1 < zs.length by omega]
       intro hc
       rw [keeps_neg (by omega) (by rw [e, e2, hc])] at hk
       cases hk
     have h3 := ord (m - 1) m (by omega) hlt (by omega)
     rcases Nat.lt_or_ge i (m - 1) with h4 | h4
     · have := ord i (m - 1) (by omega) (by omega) h4; omega
     · have : i = m - 1 := by omega
       subst this; omega
   · have hk' : keeps zs.toArray m = false := by simpa using hk
     rw [if_neg hk, List.append_nil]
     refine ⟨h1, fun x => ?_⟩
     rw [h2, List.mem_append, List.mem_singleton]
     refine ⟨.inl, ?_⟩
     rintro (hx | rfl)
     · exact hx
     · have hm0 : 0 < m := by
         rcases Nat.eq_zero_or_pos m with h0 | h0
         · subst h0; exact absurd (keeps_lt_one zs.toArray 0 (by decide)) hk
         · exact h0
       have e2 : zs.toArray[m - 1]! = zs[m - 1]'(by omega) := by simp [show m - 1 < zs.length by omega]
       have heq : zs[m] = zs[m - 1]'(by omega) := by
         by_cases hc : zs[m] = zs[m - 1]'(by omega)
         · exact hc
         · exact absurd (keeps_pos (d := zs.toArray) (m := m) (by rw [e, e2]; exact hc)) hk
       rw [heq, List.mem_iff_getElem]
       exact ⟨m - 1, by simp; omega, by rw [List.getElem_take]⟩
theorem compact_up {zs : List Int} (h : zs.Pairwise fun a b => a ≤ b) : Up (compact zs) ∧ ∀ x, x ∈ compact zs ↔ x ∈ zs := by
 obtain ⟨h1, h2⟩ := compactUpTo_up zs h zs.length (Nat.le_refl _)
 refine ⟨h1, fun x => ?_⟩
 have := h2 x
 rwa [List.take_length] at this
/-- the targets of the next head -/
def nextT (zs : List Int) : List Int := compact (zs.mergeSort fun x y => decide (x ≤ y))
theorem nextT_up (zs : List Int) : Up (nextT zs) ∧ ∀ x, x ∈ nextT zs ↔ x ∈ zs := by
 have hs : (zs.mergeSort fun x y => decide (x ≤ y)).Pairwise fun a b => a ≤ b := by
   have := List.pairwise_mergeSort (le := fun x y : Int => decide (x ≤ y)) (fun a b c h1 h2 => by simp only [decide_eq_true_eq] at *; omega) (fun a b => by simp only [Bool.or_eq_true, decide_eq_true_eq]; omega) zs
   exact this.imp fun h => by simpa using h
 obtain ⟨h1, h2⟩ := compact_up hs
 exact ⟨h1, fun x => by rw [nextT, h2, (List.mergeSort_perm zs _).mem_iff]⟩
theorem nextT_len (zs : List Int) : (nextT zs).length ≤ zs.length := by
 have h : ∀ m, (compactUpTo (zs.mergeSort fun x y => decide (x ≤ y)).toArray m).length ≤ m := by
   intro m
   unfold compactUpTo
   rw [List.length_map]
   have := List.length_filter_le (keeps (zs.mergeSort fun x y => decide (x ≤ y)).toArray) (List.range m)
   simpa using this
 have := h (zs.mergeSort fun x y => decide (x ≤ y)).length
 rw [List.length_mergeSort] at this
 simpa [nextT, compact] using this
end Go.Proofs.YtggachhkcmfijaaGreatDoor
