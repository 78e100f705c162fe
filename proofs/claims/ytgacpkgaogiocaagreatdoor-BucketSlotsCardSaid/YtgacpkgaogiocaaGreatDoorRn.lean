/- room: Take, Give, Copy, All, Free, Lay. -/
import Derived.Test.YtgacpkgaogiocaaGreatDoorRm
set_option linter.unusedVariables false
namespace Go.Proofs.YtgacpkgaogiocaaGreatDoor
open Go Go.Vc Go.RowKit Go.Lib
section
variable {w : World} {r : Nat} {fp : Nat → Prop} {bs : List Bool}
theorem Take_room (h : Room w r fp bs) (hn : bs.length ≤ 1000000) {R : Int → Int → World → Prop} (hF : freeAt bs = bs.length → R 0 20 w)
   (hR : ∀ w', freeAt bs < bs.length → Room w' r fp (bs.set (freeAt bs) true) → Fr fp w w' → R (freeAt bs : Int) 0 w') : F.room_Room_Take (some (blk r)) w R := by
 apply E.room_Room_Take
 unfold V.room_Room_Take
 try simp -zeta only [ldC, soC, brC, bkA, slC, stC, alC, drC]
 obtain ⟨L, h, rfl⟩ := h
 have hlen := h.len
 refine ⟨fun h => by simp at h, fun _ => ⟨blk r, rfl, L, h.c0, ?_⟩⟩
 apply E.slices_Index_sl_bool_bool
 unfold V.slices_Index_sl_bool_bool
 try simp -zeta only [ldC, soC, brC, bkA, slC, stC, alC, drC]
 refine ⟨fun n w' => w' = w ∧ ∃ m : Nat, n = m ∧ m ≤ bs.length ∧ ∀ i, i < m → bs[i]? = some true, fun n _ => (bs.length - n).toNat, ⟨rfl, 0, rfl, Nat.zero_le _, fun i hi => absurd hi (Nat.not_lt_zero _)⟩, ?_⟩
 rintro n w1 ⟨rfl, m, rfl, hm, hpre⟩
 refine ⟨fun hlt => ?_, fun hge => ?_⟩
 · have hlt : m < bs.length := by have := of_decide_eq_true hlt; omega
   have e1 : w64 ((m : Int) + 1) = ((m + 1 : Nat) : Int) := by rw [w64_id (by omega) (by omega)]; omega
   obtain ⟨a, ha, hc⟩ := h.at hlt
   refine ⟨a, ha, by omega, by omega, bs[m], by simpa using hc, fun hb => ?_, fun hb => ?_⟩
   · have hb : bs[m] = false := by simpa using hb
     have hfa : freeAt bs = m := freeAt_eq hpre (by rw [List.getElem?_eq_getElem hlt, hb])
     refine ⟨fun hneg => by have := of_decide_eq_true hneg; omega, fun _ => ?_⟩
     obtain ⟨q1, q2, q3⟩ := h.set (i := m) hlt true ha
     refine ⟨blk r, rfl, L, h.c0, a, ha, by omega, by omega, by simpa using q1, ?_⟩
     have := hR _ (by omega) ⟨L, by rw [hfa]; exact q2, rfl⟩ q3
     rw [hfa] at this
     simpa using this
   · have hb : bs[m] = true := by simpa using hb
     rw [e1]
     refine ⟨⟨rfl, m + 1, rfl, hlt, fun i hi => ?_⟩, ?_⟩
     · rcases Nat.lt_succ_iff_lt_or_eq.1 hi with h' | h'
       · exact hpre i h'
       · subst h'; rw [List.getElem?_eq_getElem hlt, hb]
     · show ((bs.length : Int) - ((m + 1 : Nat) : Int)).toNat < ((bs.length : Int) - (m : Int)).toNat
       omega
 · have hmm : m = bs.length := by have := of_decide_eq_false hge; omega
   subst hmm
   exact ⟨fun _ => hF (freeAt_all hpre), fun h => by simp at h⟩
theorem CloneB_spec {sl : Sl} {ts : List Bool} (hO : Own w T.y_bool 1 sl (boolC ts)) (hb : ts.length ≤ 1000000000) {R : Sl → World → Prop}
   (hR : ∀ l w', Own w' T.y_bool 1 l (boolC ts) → (∀ k, l.bk k → w.heap.size ≤ k) → Below w.heap.size w w' → R l w') : F.slices_Clone_sl_bool_bool sl w R := by
 obtain ⟨i, hi, hz, hs1, hby⟩ := info_bool
 apply E.slices_Clone_sl_bool_bool
 unfold V.slices_Clone_sl_bool_bool
 try simp -zeta only [ldC, soC, brC, bkA, slC, stC, alC, drC]
 have hlen : sl.len = ts.length := by have := hO.len; simp only [boolC, List.length_map] at this; omega
 refine ⟨fun h => ?_, fun h => ?_⟩
 · have hnil : boolC ts = [] := (Own.isNil hO (by cases ha : sl.a with | none => rfl | some a => rw [ha] at h; cases h)).2
   refine hR _ w ?_ (fun k hk => bk_nil hk) (Below.refl _ _)
   rw [hnil]; exact Own.nil _ _ _
 · obtain ⟨a, ha⟩ : ∃ a, sl.a = some a := by
     cases ha : sl.a with
     | none => rw [ha] at h; cases h
     | some a => exact ⟨a, rfl⟩
   intro w1
   have hO1 : Own w1 T.y_bool 1 ⟨some (blk w.heap.size), 0, 0⟩ [] := World.ownsRow_made (base := 0) (size := 1) (e := T.y_bool) w #[] 0 (Nat.zero_le _) (Nat.zero_le _) rfl
   have hB1 : Below w.heap.size w w1 := below_fr (Fr.alloc no w _)
   have hz1 : w1.heap.size = w.heap.size + 1 := by simp [w1]
   clear_value w1
   have hOs := hO.keep (fr_below hB1) (fun _ _ => id)
   rw [ha]
   refine runT_append (l := ⟨some (blk w.heap.size), 0, 0⟩) und_bools hi hz hs1 hby rfl (by decide) hO1 (m := sl.len) (news := boolC ts) (by simp [boolC, hlen]) (fun j u hu => by
     obtain ⟨a', ha', hc⟩ := hOs.cell hu
     have e : a = a' := Option.some.inj (ha.symm.trans ha')
     rw [e]
     exact hc) (boolC_one ts) (by simp only [maxLen]; omega) (by simp only; omega) fun l2 w2 ho hl hf hm => ?_
   have hlo : ∀ k, (⟨some (blk w.heap.size), 0, 0⟩ : Sl).bk k → w.heap.size ≤ k := fun k hk => by
     obtain ⟨x, hx, rfl⟩ := hk
     injection hx with hx
     subst hx
     exact Nat.le_refl _
   refine hR l2 w2 (by simpa using ho) (fun k hk => ?_) (hB1.trans (hf.toBelow hlo (by omega)))
   rcases moved_bk hm hk with h | h
   · exact hlo k h
   · omega
theorem Copy_room (h : Room w r fp bs) (hn : bs.length ≤ 1000000) {R : Option Addr → World → Prop} (hR : ∀ r' fp' w', Room w' r' fp' bs → (∀ k, fp' k → w.heap.size ≤ k) → Below w.heap.size w w' → R (some (blk r')) w') : F.room_Room_Copy (some (blk r)) w R := by
 apply E.room_Room_Copy
 unfold V.room_Room_Copy
 try simp -zeta only [ldC, soC, brC, bkA, slC, stC, alC, drC]
 obtain ⟨L, h, rfl⟩ := h
 refine ⟨fun h => by simp at h, fun _ => ⟨blk r, rfl, L, h.c0, CloneB_spec h.ow (by omega) fun l1 w1 hO1 hbk1 hB1 => ?_⟩⟩
 intro w2
 have h2 : w2.heap[w1.heap.size]? = some (.cells ⟨[slV l1]⟩ T.y_room_Room (0, 0)) := heap_new w1 _
 have hF2 : Fr no w1 w2 := Fr.alloc no w1 _
 clear_value w2
 have s1 := hB1.size
 refine hR w1.heap.size _ w2 ⟨l1, ⟨h2, hO1.keep hF2 (fun _ _ => id)⟩, rfl⟩ (fun k hk => ?_) (hB1.trans ((below_fr hF2).mono s1))
 rcases hk with rfl | hk
 · exact s1
 · exact hbk1 k hk
def allL (bs : List Bool) (m : Nat) : List Int := ((List.range m).filter fun i => bs.getD i false).map fun (i : Nat) => (i : Int)
theorem allL_succ (bs : List Bool) (m : Nat) : allL bs (m + 1) = if bs.getD m false then allL bs m ++ [(m : Int)] else allL bs m := by
 unfold allL
 rw [List.range_succ, List.filter_append]
 by_cases h : bs.getD m false = true
 · rw [if_pos h]; simp only [List.filter_cons, h, if_true, List.filter_nil, List.map_append, List.map_cons, List.map_nil]
 · rw [if_neg h]; simp only [List.filter_cons, h, List.filter_nil, List.map_append]; simp
theorem allL_len (bs : List Bool) (m : Nat) : (allL bs m).length ≤ m := by
 unfold allL
 rw [List.length_map]
 exact Nat.le_trans (List.length_filter_le _ _) (by rw [List.length_range]; exact Nat.le_refl _)
def giveL (bs : List Bool) (zs : List Int) : List Bool := zs.foldl (fun l x => if usedB l x then l.set x.toNat false else l) bs
theorem giveL_app (bs : List Bool) (zs : List Int) (x : Int) : giveL bs (zs ++ [x]) = if usedB (giveL bs zs) x then (giveL bs zs).set x.toNat false else giveL bs zs := by unfold giveL; rw [List.foldl_append]; rfl
theorem giveL_len (bs : List Bool) : ∀ zs : List Int, (giveL bs zs).length = bs.length := by
 refine snoc_ind rfl fun zs x ih => ?_
 rw [giveL_app]
 split
 · rw [List.length_set, ih]
 · exact ih
end
/-! ### Lay -/
def packTo (bs : List Bool) (m : Nat) : List UInt8 := (List.range m).foldl (fun l i => if bs.getD i false then l.set (i / 8) (UInt8.ofNat ((l.getD (i / 8) 0).toNat ||| 2 ^ (i % 8))) else l) (List.replicate ((bs.length + 7) / 8) 0)
theorem packTo_succ (bs : List Bool) (m : Nat) : packTo bs (m + 1) = if bs.getD m false then (packTo bs m).set (m / 8) (UInt8.ofNat (((packTo bs m).getD (m / 8) 0).toNat ||| 2 ^ (m % 8))) else packTo bs m := by
 simp [packTo, List.range_succ, List.foldl_append]
theorem packTo_len (bs : List Bool) (m : Nat) : (packTo bs m).length = (bs.length + 7) / 8 := by
 induction m with
 | zero => simp [packTo]
 | succ m ih =>
   rw [packTo_succ]
   split
   · rw [List.length_set, ih]
   · exact ih
def roomBytes (bs : List Bool) : List UInt8 := leBytes 1 6 ++ leBytes 2 bs.length ++ packTo bs bs.length
theorem roomBytes_len (bs : List Bool) : (roomBytes bs).length = 3 + (bs.length + 7) / 8 := by simp [roomBytes, leBytes_len, packTo_len]; omega
def layRoom (bs : List Bool) : Bs := sealS 256 (roomBytes bs)
theorem or8 (a k : Nat) (ha : a < 256) (hk : k < 8) : bits .or .u8 (a : Int) (shl .u8 (1 : Int) (k : Int)) = (((UInt8.ofNat (a ||| 2 ^ k)).toNat : Nat) : Int) := by
 have h : ∀ a : Fin 256, ∀ k : Fin 8, bits .or .u8 ((a.val : Nat) : Int) (shl .u8 (1 : Int) ((k.val : Nat) : Int)) = (((UInt8.ofNat (a.val ||| 2 ^ k.val)).toNat : Nat) : Int) := by decide +kernel
 exact h ⟨a, ha⟩ ⟨k, hk⟩
theorem stab1_mk {w : World} {p : Prop} : ∀ (cs : List (Addr × Value)), Facts cs w → p → stab1 w cs p
 | [], _, h => h
 | (a, v) :: r, hf, h => ⟨hf (a, v) List.mem_cons_self, stab1_mk r (fun x hx => hf x (List.mem_cons_of_mem _ hx)) h⟩
theorem Own.cv {w : World} {l : Sl} {bs : List UInt8} (h : Own w T.y_uint8 1 l (bv bs)) : CvAt l.a l.len (tx bs) w := by
 have hl : l.len = bs.length := by have := h.len; simp only [bv, List.length_map] at this; omega
 refine ⟨by rw [tx_size, hl], fun ha => ?_, fun p hp => ?_⟩
 · have h2 := (Own.isNil h (by cases hh : l.a with | none => rfl | some a => rw [hh] at ha; cases ha)).1
   rw [h2]
 · unfold cvCells at hp
   split at hp
   · cases hp
   · rename_i a ha
     obtain ⟨j, hj, rfl⟩ := List.mem_map.1 hp
     rw [tx_size] at hj
     have hj := List.mem_range.1 hj
     obtain ⟨a', ha', hc⟩ := h.cell (j := j) (u := .int .u8 (bs[j].toNat : Int)) (by simp [bv, hj])
     rw [ha] at ha'
     injection ha' with ha'
     subst ha'
     simp only
     rw [hc, tx_data]
     have : bs.getD j 0 = bs[j] := by simp [hj]
     rw [this]
end Go.Proofs.YtgacpkgaogiocaaGreatDoor
