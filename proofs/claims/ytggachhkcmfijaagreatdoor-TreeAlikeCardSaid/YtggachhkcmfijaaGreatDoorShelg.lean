/- room: Take, Give, Copy, All, Free, Lay. -/
import Derived.Test.YtggachhkcmfijaaGreatDoorRm
import Derived.Lib.Overlaps
import Derived.Shelf.SlGeneric
import Derived.Shelf.SlMaps.Clone
import Derived.Ground.SlmcProg
import Derived.Test.YtggachhkcmfijaaGreatDoorProg
set_option linter.unusedVariables false
namespace Go.Proofs.YtggachhkcmfijaaGreatDoor
open Go Go.Vc Go.RowKit Go.Lib
section
variable {w : World} {r : Nat} {fp : Nat → Prop} {bs : List Bool}
theorem Take_room (h : Room w r fp bs) (hn : bs.length ≤ 1000000) {R : Int → Int → World → Prop} (hF : freeAt bs = bs.length → R 0 20 w)
   (hR : ∀ w', freeAt bs < bs.length → Room w' r fp (bs.set (freeAt bs) true) → Fr fp w w' → R (freeAt bs : Int) 0 w') : F.room_Room_Take (some (blk r)) w R := by
 apply E.room_Room_Take
 unfold V.room_Room_Take
 try simp -zeta only [ldC, soC, brC, bkA, slC, stC, alC, drC]
 obtain ⟨L, h, rfl⟩ := h
 have hlen := h.len
 refine ⟨fun h => by simp at h, fun _ => ⟨blk r, rfl, L, h.c0, ?_⟩⟩
 apply E.slices_Index_sl_bool_bool
 unfold V.slices_Index_sl_bool_bool
 try simp -zeta only [ldC, soC, brC, bkA, slC, stC, alC, drC]
 refine ⟨fun n w' => w' = w ∧ ∃ m : Nat, n = m ∧ m ≤ bs.length ∧ ∀ i, i < m → bs[i]? = some true, fun n _ => (bs.length - n).toNat, ⟨rfl, 0, rfl, Nat.zero_le _, fun i hi => absurd hi (Nat.not_lt_zero _)⟩, ?_⟩
 rintro n w1 ⟨rfl, m, rfl, hm, hpre⟩
 refine ⟨fun hlt => ?_, fun hge => ?_⟩
 · have hlt : m < bs.length := by have := of_decide_eq_true hlt; omega
   have e1 : w64 ((m : Int) + 1) = ((m + 1 : Nat) : Int) := by rw [w64_id (by omega) (by omega)]; omega
   obtain ⟨a, ha, hc⟩ := h.at hlt
   refine ⟨a, ha, by omega, by omega, bs[m], by simpa using hc, fun hb => ?_, fun hb => ?_⟩
   · have hb : bs[m] = false := by simpa using hb
     have hfa : freeAt bs = m := freeAt_eq hpre (by rw [List.getElem?_eq_getElem hlt, hb])
     refine ⟨fun hneg => by have := of_decide_eq_true hneg; omega, fun _ => ?_⟩
     obtain ⟨q1, q2, q3⟩ := h.set (i := m) hlt true ha
     refine ⟨blk r, rfl, L, h.c0, a, ha, by omega, by omega, by simpa using q1, ?_⟩
     have := hR _ (by omega) ⟨L, by rw [hfa]; exact q2, rfl⟩ q3
     rw [hfa] at this
     simpa using this
   · have hb : bs[m] = true := by simpa using hb
     rw [e1]
     refine ⟨⟨rfl, m + 1, rfl, hlt, fun i hi => ?_⟩, ?_⟩
     · rcases Nat.lt_succ_iff_lt_or_eq.1 hi with h' | h'
       · exact hpre i h'
       · subst h'; rw [List.getElem?_eq_getElem hlt, hb]
     · show ((bs.length : Int) - ((m + 1 : Nat) : Int)).toNat < ((bs.length : Int) - (m : Int)).toNat
       omega
 · have hmm : m = bs.length := by have := of_decide_eq_false hge; omega
   subst hmm
   exact ⟨fun _ => hF (freeAt_all hpre), fun h => by simp at h⟩
theorem CloneB_spec {sl : Sl} {ts : List Bool} (hO : Own w T.y_bool 1 sl (boolC ts)) (hb : ts.length ≤ 1000000000) {R : Sl → World → Prop}
   (hR : ∀ l w', Own w' T.y_bool 1 l (boolC ts) → (∀ k, l.bk k → w.heap.size ≤ k) → Below w.heap.size w w' → R l w') : F.slices_Clone_sl_bool_bool sl w R := by
 obtain ⟨i, hi, hz, hs1, hby⟩ := info_bool
 apply E.slices_Clone_sl_bool_bool
 unfold V.slices_Clone_sl_bool_bool
 try simp -zeta only [ldC, soC, brC, bkA, slC, stC, alC, drC]
 have hlen : sl.len = ts.length := by have := hO.len; simp only [boolC, List.length_map] at this; omega
 refine ⟨fun h => ?_, fun h => ?_⟩
 · have hnil : boolC ts = [] := (Own.isNil hO (by cases ha : sl.a with | none => rfl | some a => rw [ha] at h; cases h)).2
   refine hR _ w ?_ (fun k hk => bk_nil hk) (Below.refl _ _)
   rw [hnil]; exact Own.nil _ _ _
 · obtain ⟨a, ha⟩ : ∃ a, sl.a = some a := by
     cases ha : sl.a with
     | none => rw [ha] at h; cases h
     | some a => exact ⟨a, rfl⟩
   intro w1
   have hO1 : Own w1 T.y_bool 1 ⟨some (blk w.heap.size), 0, 0⟩ [] := World.ownsRow_made (base := 0) (size := 1) (e := T.y_bool) w #[] 0 (Nat.zero_le _) (Nat.zero_le _) rfl
   have hB1 : Below w.heap.size w w1 := below_fr (Fr.alloc no w _)
   have hz1 : w1.heap.size = w.heap.size + 1 := by simp [w1]
   clear_value w1
   have hOs := hO.keep (fr_below hB1) (fun _ _ => id)
   rw [ha]
   refine runT_append (l := ⟨some (blk w.heap.size), 0, 0⟩) und_bools hi hz hs1 hby rfl (by decide) hO1 (m := sl.len) (news := boolC ts) (by simp [boolC, hlen]) (fun j u hu => by
     obtain ⟨a', ha', hc⟩ := hOs.cell hu
     have e : a = a' := Option.some.inj (ha.symm.trans ha')
     rw [e]
     exact hc) (boolC_one ts) (by simp only [maxLen]; omega) (by simp only; omega) fun l2 w2 ho hl hf hm => ?_
   have hlo : ∀ k, (⟨some (blk w.heap.size), 0, 0⟩ : Sl).bk k → w.heap.size ≤ k := fun k hk => by
     obtain ⟨x, hx, rfl⟩ := hk
     injection hx with hx
     subst hx
     exact Nat.le_refl _
   refine hR l2 w2 (by simpa using ho) (fun k hk => ?_) (hB1.trans (hf.toBelow hlo (by omega)))
   rcases moved_bk hm hk with h | h
   · exact hlo k h
   · omega
theorem Copy_room (h : Room w r fp bs) (hn : bs.length ≤ 1000000) {R : Option Addr → World → Prop} (hR : ∀ r' fp' w', Room w' r' fp' bs → (∀ k, fp' k → w.heap.size ≤ k) → Below w.heap.size w w' → R (some (blk r')) w') : F.room_Room_Copy (some (blk r)) w R := by
 apply E.room_Room_Copy
 unfold V.room_Room_Copy
 try simp -zeta only [ldC, soC, brC, bkA, slC, stC, alC, drC]
 obtain ⟨L, h, rfl⟩ := h
 refine ⟨fun h => by simp at h, fun _ => ⟨blk r, rfl, L, h.c0, CloneB_spec h.ow (by omega) fun l1 w1 hO1 hbk1 hB1 => ?_⟩⟩
 intro w2
 have h2 : w2.heap[w1.heap.size]? = some (.cells ⟨[slV l1]⟩ T.y_room_Room (0, 0)) := heap_new w1 _
 have hF2 : Fr no w1 w2 := Fr.alloc no w1 _
 clear_value w2
 have s1 := hB1.size
 refine hR w1.heap.size _ w2 ⟨l1, ⟨h2, hO1.keep hF2 (fun _ _ => id)⟩, rfl⟩ (fun k hk => ?_) (hB1.trans ((below_fr hF2).mono s1))
 rcases hk with rfl | hk
 · exact s1
 · exact hbk1 k hk
def allL (bs : List Bool) (m : Nat) : List Int := ((List.range m).filter fun i => bs.getD i false).map fun (i : Nat) => (i : Int)
theorem allL_succ (bs : List Bool) (m : Nat) : allL bs (m + 1) = if bs.getD m false then allL bs m ++ [(m : Int)] else allL bs m := by
 unfold allL
 rw [List.range_succ, List.filter_append]
 by_cases h : bs.getD m false = true
 · rw [if_pos h]; simp only [List.filter_cons, h, if_true, List.filter_nil, List.map_append, List.map_cons, List.map_nil]
 · rw [if_neg h]; simp only [List.filter_cons, h, List.filter_nil, List.map_append]; simp
theorem allL_len (bs : List Bool) (m : Nat) : (allL bs m).length ≤ m := by
 unfold allL
 rw [List.length_map]
 exact Nat.le_trans (List.length_filter_le _ _) (by rw [List.length_range]; exact Nat.le_refl _)
def giveL (bs : List Bool) (zs : List Int) : List Bool := zs.foldl (fun l x => if usedB l x then l.set x.toNat false else l) bs
theorem giveL_app (bs : List Bool) (zs : List Int) (x : Int) : giveL bs (zs ++ [x]) = if usedB (giveL bs zs) x then (giveL bs zs).set x.toNat false else giveL bs zs := by unfold giveL; rw [List.foldl_append]; rfl
theorem giveL_len (bs : List Bool) : ∀ zs : List Int, (giveL bs zs).length = bs.length := by
 refine snoc_ind rfl fun zs x ih => ?_
 rw [giveL_app]
 split
 · rw [List.length_set, ih]
 · exact ih
end
/-! ### Lay -/
def packTo (bs : List Bool) (m : Nat) : List UInt8 := (List.range m).foldl (fun l i => if bs.getD i false then l.set (i / 8) (UInt8.ofNat ((l.getD (i / 8) 0).toNat ||| 2 ^ (i % 8))) else l) (List.replicate ((bs.length + 7) / 8) 0)
theorem packTo_succ (bs : List Bool) (m : Nat) : packTo bs (m + 1) = if bs.getD m false then (packTo bs m).set (m / 8) (UInt8.ofNat (((packTo bs m).getD (m / 8) 0).toNat ||| 2 ^ (m % 8))) else packTo bs m := by
 simp [packTo, List.range_succ, List.foldl_append]
theorem packTo_len (bs : List Bool) (m : Nat) : (packTo bs m).length = (bs.length + 7) / 8 := by
 induction m with
 | zero => simp [packTo]
 | succ m ih =>
   rw [packTo_succ]
   split
   · rw [List.length_set, ih]
   · exact ih
def roomBytes (bs : List Bool) : List UInt8 := leBytes 1 6 ++ leBytes 2 bs.length ++ packTo bs bs.length
theorem roomBytes_len (bs : List Bool) : (roomBytes bs).length = 3 + (bs.length + 7) / 8 := by simp [roomBytes, leBytes_len, packTo_len]; omega
def layRoom (bs : List Bool) : Bs := sealS 256 (roomBytes bs)
theorem or8 (a k : Nat) (ha : a < 256) (hk : k < 8) : bits .or .u8 (a : Int) (shl .u8 (1 : Int) (k : Int)) = (((UInt8.ofNat (a ||| 2 ^ k)).toNat : Nat) : Int) := by
 have h : ∀ a : Fin 256, ∀ k : Fin 8, bits .or .u8 ((a.val : Nat) : Int) (shl .u8 (1 : Int) ((k.val : Nat) : Int)) = (((UInt8.ofNat (a.val ||| 2 ^ k.val)).toNat : Nat) : Int) := by decide +kernel
 exact h ⟨a, ha⟩ ⟨k, hk⟩
theorem stab1_mk {w : World} {p : Prop} : ∀ (cs : List (Addr × Value)), Facts cs w → p → stab1 w cs p
 | [], _, h => h
 | (a, v) :: r, hf, h => ⟨hf (a, v) List.mem_cons_self, stab1_mk r (fun x hx => hf x (List.mem_cons_of_mem _ hx)) h⟩
theorem Own.cv {w : World} {l : Sl} {bs : List UInt8} (h : Own w T.y_uint8 1 l (bv bs)) : CvAt l.a l.len (tx bs) w := by
 have hl : l.len = bs.length := by have := h.len; simp only [bv, List.length_map] at this; omega
 refine ⟨by rw [tx_size, hl], fun ha => ?_, fun p hp => ?_⟩
 · have h2 := (Own.isNil h (by cases hh : l.a with | none => rfl | some a => rw [hh] at ha; cases ha)).1
   rw [h2]
 · unfold cvCells at hp
   split at hp
   · cases hp
   · rename_i a ha
     obtain ⟨j, hj, rfl⟩ := List.mem_map.1 hp
     rw [tx_size] at hj
     have hj := List.mem_range.1 hj
     obtain ⟨a', ha', hc⟩ := h.cell (j := j) (u := .int .u8 (bs[j].toNat : Int)) (by simp [bv, hj])
     rw [ha] at ha'
     injection ha' with ha'
     subst ha'
     simp only
     rw [hc, tx_data]
     have : bs.getD j 0 = bs[j] := by simp [hj]
     rw [this]
end Go.Proofs.YtggachhkcmfijaaGreatDoor

/- room.Lay. -/
set_option linter.unusedVariables false
namespace Go.Proofs.YtggachhkcmfijaaGreatDoor
open Go Go.Vc Go.RowKit Go.Lib
set_option maxHeartbeats 2000000 in
theorem Lay_room {w : World} {r : Nat} {fp : Nat → Prop} {bs : List Bool} (h : Room w r fp bs) (h1 : 1 ≤ bs.length) (hn : bs.length ≤ 1900) {R : ByteArray → Int → World → Prop}
   (hR : ∀ w', Below w.heap.size w w' → R (tx (layRoom bs)) 0 w') : F.room_Room_Lay (some (blk r)) w R := by
 obtain ⟨inf, hi, hz, hs1, hby⟩ := info_byte
 apply E.room_Room_Lay
 unfold V.room_Room_Lay
 try simp -zeta only [ldC, soC, brC, bkA, slC, stC, alC, drC]
 obtain ⟨L, h, rfl⟩ := h
 have hlen := h.len
 refine ⟨fun h => by simp at h, fun _ => ⟨blk r, rfl, L, h.c0, by decide, ?_⟩⟩
 have en : w64 ((w64 (((L.len : Nat) : Int) + 7)).tdiv 8) = (((bs.length + 7) / 8 : Nat) : Int) := by
   have e0 : w64 (((bs.length : Nat) : Int) + 7) = ((bs.length : Nat) : Int) + 7 := w64_id (by omega) (by omega)
   rw [hlen, e0]
   have : (((bs.length : Nat) : Int) + 7).tdiv 8 = (((bs.length + 7) / 8 : Nat) : Int) := by
     have e : ((bs.length : Nat) : Int) + 7 = ((bs.length + 7 : Nat) : Int) := by omega
     rw [e]; exact (Int.ofNat_tdiv _ _).symm
   rw [this, w64_id (by omega) (by omega)]
 rw [en]
 refine runT_make und_bytes hi hz hs1 (by rw [hby]; omega) (by simp only [maxLen]; omega) fun w2 hO2 hF2 hs2 => ?_
 have hmk : (madeCells (Value.int .u8 0).cells ((bs.length + 7) / 8 * 1)).toList = bv (packTo bs 0) := by
   have h := toList_madeCells_one (Value.int .u8 0) ((bs.length + 7) / 8 * 1)
   rw [show (Value.int IntKind.u8 0).cells = #[Value.int .u8 0] from rfl, h]
   simp [bv, packTo]
 rw [hmk] at hO2
 generalize hl : (⟨some (blk w.heap.size), (bs.length + 7) / 8, (bs.length + 7) / 8⟩ : Sl) = l1 at *
 have hla : l1.a = some (blk w.heap.size) := by rw [← hl]
 have hll : l1.len = (bs.length + 7) / 8 := by rw [← hl]
 have hbk : ∀ k, l1.bk k → w.heap.size ≤ k := fun k hk => by
   obtain ⟨a, ha, rfl⟩ := hk
   rw [hla] at ha
   injection ha with ha
   subst ha
   exact Nat.le_refl _
 have r2 := h.keep hF2 (fun _ _ => id)
 refine ⟨blk r, rfl, L, r2.c0, fun n w' => ∃ m : Nat, n = m ∧ m ≤ bs.length ∧ Own w' T.y_uint8 1 l1 (bv (packTo bs m)) ∧ Below w.heap.size w w', fun n _ => (bs.length - n).toNat, ⟨0, rfl, Nat.zero_le _, hO2, below_fr hF2⟩, ?_⟩
 rintro n w3 ⟨m, rfl, hm, hO3, hB3⟩
 have r3 := h.keep (fr_below hB3) (fun _ _ => id)
 refine ⟨fun hlt => ?_, fun hge => ?_⟩
 · have hlt : m < bs.length := by have := of_decide_eq_true hlt; omega
   have e1 : w64 ((m : Int) + 1) = ((m + 1 : Nat) : Int) := by rw [w64_id (by omega) (by omega)]; omega
   have hme : ((bs.length : Int) - ((m + 1 : Nat) : Int)).toNat < ((bs.length : Int) - (m : Int)).toNat := by omega
   obtain ⟨a, ha, hc⟩ := r3.at hlt
   have eg : bs.getD m false = bs[m] := by simp [hlt]
   refine ⟨a, ha, by omega, by omega, bs[m], by simpa using hc, fun hb => ?_, fun hb => ?_⟩
   · intro w4
     have hO4 : Own w4 T.y_uint8 1 l1 (bv (packTo bs m)) := hO3
     have hB4 : Below w.heap.size w w4 := hB3.drew
     clear_value w4
     have e8 : w64 ((m : Int).tdiv 8) = ((m / 8 : Nat) : Int) := by
       have : (m : Int).tdiv 8 = ((m / 8 : Nat) : Int) := (Int.ofNat_tdiv m 8).symm
       rw [this, w64_id (by omega) (by omega)]
     have em : (m : Int).tmod 8 = ((m % 8 : Nat) : Int) := (Int.ofNat_tmod m 8).symm
     rw [e8, em, e1]
     have hpl := packTo_len bs m
     have hk : m / 8 < (packTo bs m).length := by rw [hpl]; omega
     have hk8 : m % 8 < 8 := Nat.mod_lt _ (by decide)
     obtain ⟨a', ha', hc4⟩ := hO4.cell (j := m / 8) (u := .int .u8 ((packTo bs m)[m / 8].toNat : Int)) (by simp [bv, hk])
     rw [hla] at ha'
     injection ha' with ha'
     subst ha'
     obtain ⟨q1, q2, q3⟩ := Own.set1 hO4 (k := m / 8) (by simpa [bv] using hk) (.int .u8 ((UInt8.ofNat (((packTo bs m).getD (m / 8) 0).toNat ||| 2 ^ (m % 8))).toNat : Int)) hla
     have eg2 : (packTo bs m).getD (m / 8) 0 = (packTo bs m)[m / 8] := by simp [hk]
     refine ⟨by decide, blk w.heap.size, hla, by omega, by omega, ((packTo bs m)[m / 8].toNat : Int), by rw [Int.toNat_natCast, Nat.mul_one]; exact hc4, by decide, by omega, blk w.heap.size, hla, by omega, by omega, by rw [Int.toNat_natCast, Nat.mul_one]; exact q1, ?_⟩
     rw [Int.toNat_natCast, Nat.mul_one, or8 _ _ (packTo bs m)[m / 8].toNat_lt hk8, ← eg2]
     intro w5
     have q2 : Own w5 T.y_uint8 1 l1 _ := q2
     have q3 : Fr l1.bk w4 w5 := q3
     clear_value w5
     refine ⟨⟨m + 1, rfl, hlt, ?_, hB4.trans (q3.toBelow hbk hB4.size)⟩, hme⟩
     have e2 : (bv (packTo bs m)).set (m / 8) (.int .u8 ((UInt8.ofNat (((packTo bs m).getD (m / 8) 0).toNat ||| 2 ^ (m % 8))).toNat : Int)) = bv (packTo bs (m + 1)) := by
       rw [packTo_succ, eg, if_pos hb]
       simp only [bv, List.map_set]
     rw [← e2]; exact q2
   · rw [e1]
     refine ⟨⟨m + 1, rfl, hlt, ?_, hB3⟩, hme⟩
     rw [packTo_succ, eg, if_neg (by rw [hb]; decide)]; exact hO3
 have hmm : m = bs.length := by have := of_decide_eq_false hge; omega
 subst hmm
 intro w4
 have hO4 : Own w4 T.y_uint8 1 l1 (bv (packTo bs bs.length)) := hO3
 have hB4 : Below w.heap.size w w4 := hB3.drew
 have r4 : Rom w4 r L bs := r3.keep (Fr.drew no w3) (fun _ _ => id)
 clear_value w4
 have hpl := packTo_len bs bs.length
 have cs : ∀ {w' : World}, Below w4.heap.size w4 w' → Facts (cvCells l1.a (tx (packTo bs bs.length))) w' ∧ w'.cell? (blk r) = some (.slice L.a L.len L.cap) := fun hb =>
   ⟨(Own.cv (hO4.keep (fr_below hb) (fun _ _ => id))).2.2, (r4.keep (fr_below hb) (fun _ _ => id)).c0⟩
 refine ⟨blk r, rfl, L, r4.c0, tx (packTo bs bs.length), Own.cv hO4, fun w5 g hB5 hg _ hgo w6 g1 hB6 hg1 hg1n hg1o w7 hB7 => ?_⟩
 have s5 := hB5.size
 have s6 := hB6.size
 have s7 := hB7.size
 simp only [inIv, or_false, List.mem_singleton] at hg hg1 hg1n
 have hO5 : OutB w4 w5 g ⟨none, 0, 0⟩ [] 0 := ⟨⟨hgo, Own.nil _ _ _, fun hk => bk_nil hk⟩, hg.1, fun k hk => bk_nil hk, hB5⟩
 have hO7 := (hO5.no (fr_below hB6)).no (fr_below hB7)
 have hg1o7 := (fr_below hB7).heap hg1o id
 -- the kind
 refine Out_Byte hO7.out hg1o7 (by decide) (by simp) fun l8 w8 hO8 hF8 hM8 => ?_
 rw [lay1_ok (by decide)] at hO8
 have hO8 := hO7.step hO8 hF8 hM8
 have s8 := hF8.size
 have r8 : ∀ k, l8.bk k → w7.heap.size ≤ k ∧ k < w8.heap.size := fun k hk => ⟨by
   rcases moved_bk hM8 hk with h | h
   · exact bk_nil h
   · exact h, hO8.out.own.lt hk⟩
 have c8 := cs hO8.below
 refine ⟨Keep.of hF8 (fun g' hg' hu => ⟨fun hs => by
     simp only [List.mem_cons, List.not_mem_nil, or_false, not_or] at hu
     rcases hs with hs | hs
     · exact hu.2 hs
     · exact bk_nil hs, by simp only [inIv, or_false] at hg'; omega⟩), stab1_mk _ c8.1 ⟨c8.2, fun w9 g2 hB9 hg2 hg2n hg2o w10 hB10 => ?_⟩⟩
 have s9 := hB9.size
 have s10 := hB10.size
 simp only [inIv, or_false, List.mem_cons, List.not_mem_nil, not_or] at hg2 hg2n
 have hO10 := (hO8.no (fr_below hB9)).no (fr_below hB10)
 have hg2o10 := (fr_below hB10).heap hg2o id
 rw [hlen] at hg2o10
 -- how many
 refine Out_Half hO10.out hg2o10 (by omega) (by simp only [List.length_append, leBytes_len]; simp) fun l11 w11 hO11 hF11 hM11 => ?_
 have hfit2 : fitsN 2 ((bs.length : Nat) : Int) = true := by simp [fitsN]; omega
 rw [lay1_ok hfit2] at hO11
 have hO11 := hO10.step hO11 hF11 hM11
 have s11 := hF11.size
 have r11 : ∀ k, l11.bk k → (w7.heap.size ≤ k ∧ k < w8.heap.size) ∨ (w10.heap.size ≤ k ∧ k < w11.heap.size) := fun k hk => by
   rcases moved_bk hM11 hk with h | h
   · exact .inl (r8 k h)
   · exact .inr ⟨h, hO11.out.own.lt hk⟩
 have c11 := cs hO11.below
 refine ⟨Keep.of hF11 (fun g' hg' hu => ⟨fun hs => by
     simp only [List.mem_cons, List.not_mem_nil, or_false, not_or] at hu
     rcases hs with hs | hs
     · exact hu.2.2 hs
     · have := r8 _ hs; simp only [inIv, or_false] at hg'; omega, by simp only [inIv, or_false] at hg'; omega⟩), stab1_mk _ c11.1 ⟨c11.2, fun w12 g3 hB12 hg3 hg3n hg3o w13 hB13 => ?_⟩⟩
 have s12 := hB12.size
 have s13 := hB13.size
 simp only [inIv, or_false, List.mem_cons, List.not_mem_nil, not_or] at hg3 hg3n
 have hO13 := (hO11.no (fr_below hB12)).no (fr_below hB13)
 have hg3o13 := (fr_below hB13).heap hg3o id
 -- the bits
 refine Out_Raw hO13.out hg3o13 (by simp only [List.length_append, leBytes_len]; simp) (by rw [hpl]; omega) fun l14 w14 hO14 hF14 hM14 => ?_
 have er : raw1 (packTo bs bs.length) ([] ++ leBytes 1 6 ++ leBytes 2 ((bs.length : Nat) : Int), 0) = (roomBytes bs, 0) := by
   simp only [raw1, roomBytes, List.nil_append]; simp
 rw [er] at hO14
 have hO14 := hO13.step hO14 hF14 hM14
 have s14 := hF14.size
 have c14 := cs hO14.below
 refine ⟨Keep.of hF14 (fun g' hg' hu => ⟨fun hs => by
     simp only [List.mem_cons, List.not_mem_nil, or_false, not_or] at hu
     rcases hs with hs | hs
     · exact hu.2.2.2 hs
     · have := r11 _ hs; simp only [inIv, or_false] at hg'; omega, by simp only [inIv, or_false] at hg'; omega⟩), stab1_mk _ c14.1 ⟨c14.2, fun w15 hB15 => ?_⟩⟩
 have hO15 := hO14.no (fr_below hB15)
 have s15 := hB15.size
 refine Out_End hO15.out fun w16 hF16 => ?_
 have hO16 := hO15.no hF16
 have s16 := hF16.size
 have c16 := cs hO16.below
 refine ⟨Keep.of hF16 (fun g' hg' hu => ⟨id, by simp only [inIv, or_false] at hg'; omega⟩), stab1_mk _ c16.1 ⟨c16.2, fun w17 hB17 => ⟨fun h => by simp at h, fun _ => ?_⟩⟩⟩
 have hO17 := hO16.no (fr_below hB17)
 rw [if_neg (by simp)]
 have hrl := roomBytes_len bs
 have hB17' := hB4.trans (hO17.below.mono hB4.size)
 intro w18
 have h18 : w18.heap[w17.heap.size]? = some (.cells ⟨[.string (tx (roomBytes bs))]⟩ T.y_string (0, 0)) := heap_new w17 _
 have hB18 : Below w.heap.size w w18 := hB17'.trans ((below_fr (Fr.alloc no w17 _)).mono hB17'.size)
 clear_value w18
 refine Seal_spec (n := 256) (by decide) (by decide) h18 (by omega) fun w19 hB19 => ?_
 rw [sealL_ok (by omega)]
 exact hR w19 (hB18.trans (hB19.mono hB18.size))
end Go.Proofs.YtggachhkcmfijaaGreatDoor

/- slices of writes: Clone, Insert, BinarySearchFunc. -/
set_option linter.unusedVariables false
namespace Go.Proofs.YtggachhkcmfijaaGreatDoor
open Go Go.Vc Go.RowKit Go.Lib
theorem ins_up {cur A X D : List Value} {i x d : Nat} (hA : cur.take i = A) (hAl : A.length = i) (hX : X.length = x) (hD : D.length = d) (hc : i + x + d ≤ cur.length) :
   ((cur.take i ++ X ++ cur.drop (i + X.length)).take (i + x) ++ D ++ (cur.take i ++ X ++ cur.drop (i + X.length)).drop (i + x + D.length)).take (i + x + d) = A ++ X ++ D ∧
   ((cur.take i ++ X ++ cur.drop (i + X.length)).take (i + x) ++ D ++ (cur.take i ++ X ++ cur.drop (i + X.length)).drop (i + x + D.length)).length = cur.length := by
 rw [hA]
 have h1 : (A ++ X ++ cur.drop (i + X.length)).take (i + x) = A ++ X := by
   rw [show i + x = (A ++ X).length by rw [List.length_append, hAl, hX]]; exact List.take_left
 rw [h1]
 constructor
 · rw [show i + x + d = (A ++ X ++ D).length by simp only [List.length_append, hAl, hX, hD]]; exact List.take_left
 · simp only [List.length_append, List.length_drop, hAl, hX, hD]; omega
theorem ins_at {cur A X D : List Value} {i x d : Nat} (hA : cur.take i = A) (hAl : A.length = i) (hX : X.length = x) (hD : D.length = d) (hc : i + x + d ≤ cur.length) :
   ((cur.take (i + x) ++ D ++ cur.drop (i + x + D.length)).take i ++ X ++ (cur.take (i + x) ++ D ++ cur.drop (i + x + D.length)).drop (i + X.length)).take (i + x + d) = A ++ X ++ D ∧
   ((cur.take (i + x) ++ D ++ cur.drop (i + x + D.length)).take i ++ X ++ (cur.take (i + x) ++ D ++ cur.drop (i + x + D.length)).drop (i + X.length)).length = cur.length := by
 have hl : (cur.take (i + x)).length = i + x := by rw [List.length_take]; omega
 have h1 : (cur.take (i + x) ++ D ++ cur.drop (i + x + D.length)).take i = A := by
   rw [List.append_assoc, List.take_append_of_le_length (by omega), List.take_take, Nat.min_eq_left (by omega), hA]
 have h2 : (cur.take (i + x) ++ D ++ cur.drop (i + x + D.length)).drop (i + X.length) = D ++ cur.drop (i + x + D.length) := by
   rw [List.append_assoc, hX, show i + x = (cur.take (i + x)).length by omega]
   simp only [hl]
   rw [show i + x = (cur.take (i + x)).length by omega]
   simp
 rw [h1, h2]
 constructor
 · rw [← List.append_assoc, show i + x + d = (A ++ X ++ D).length by simp only [List.length_append, hAl, hX, hD]]; exact List.take_left
 · simp only [List.length_append, List.length_drop, hAl, hX, hD]; omega
theorem shr1 (x : Nat) : shr .u64 (x : Int) 1 = ((x / 2 : Nat) : Int) := by
 unfold shr
 have e : (min (1 : Int).toNat (IntKind.bits .u64)) = 1 := by decide
 rw [e, Int.fdiv_eq_ediv_of_nonneg _ (by decide)]
 omega
end Go.Proofs.YtggachhkcmfijaaGreatDoor

/-
 DERIVED: THE SHELF's CONTRACTS AT THIS DUMP, IN PLAIN WORDS (tools/lay-plain.mjs out of 'YtggachhkcmfijaaGreatDoorShelfX.lean', which tools/lay-shelf.mjs wrote): THE SAME DECLARATIONS UNDER THE SAME NAMES: 'import', 'namespace', 'open', 'def', 'theorem' AND NOTHING ELSE: no command of the shelf's: FOR A HAND-IN. Each laying: the table of numbers ('.._ren') and one theorem, a field a fact of the dump's own or the kernel's comparison; each contract: ONE APPLICATION.
-/
namespace Go.Proofs
open Go.Shelf
def Tryz.mclone_ren : Go.Shelf.Ren := ⟨fun | 5 => 173 | 7 => 240 | n => n, fun | 23 => 90 | 25 => 3 | 3 => 9 | 4 => 4 | 20 => 20 | n => n, fun | n => n⟩
theorem Tryz.mclone : Go.Proofs.SlLaysW.n5 Tryz.prog Tryz.mclone_ren := {
 mixed := by kernel_rfl
 f5 := ⟨Tryz.f173.name, by decide, Tryz.func173.trans (congrArg some (by kernel_rfl))⟩
 f7 := Tryz.func240.trans (congrArg some (by kernel_rfl))
 t4 := Tryz.underlying4
 a4 := Tryz.isAgg4
 z4 := Tryz.sizeOf4
 v4 := Tryz.zeroValue4
 t20 := Tryz.underlying20
 a20 := Tryz.isAgg20
 z20 := Tryz.sizeOf20
 v20 := Tryz.zeroValue20
 t23 := Tryz.underlying90
 a23 := Tryz.isAgg90
 z23 := Tryz.sizeOf90
 v23 := Tryz.zeroValue90 }
end Go.Proofs
