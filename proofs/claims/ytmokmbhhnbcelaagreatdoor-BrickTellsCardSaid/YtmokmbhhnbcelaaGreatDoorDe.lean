/- desk: written, Dirty, Sync, Get. -/
import Derived.Test.YtmokmbhhnbcelaaGreatDoorDd
set_option linter.unusedVariables false
namespace Go.Proofs.YtmokmbhhnbcelaaGreatDoor
open Go Go.Vc Go.RowKit Go.Lib Go.Maps Go.Proofs
theorem MapOf.lookok {w : World} {b : Nat} {ws : List Wr1} (h : MapOf w b ws) {x : Int} (hx : -9223372036854775808 ≤ x ∧ x < 9223372036854775808) {R : ByteArray → Bool → World → Prop} (hR : R (tx (lastW ws x)) (decide (x ∈ keysW ws)) w) :
   RunT Pg (Instr.lookup T.y_map_int_string (.map (some b)) (.int .i64 x) true) [.one .str, .one .bool] w R := by
 obtain ⟨D, n, ho, hn, hh, hat⟩ := h
 have hz : (zeroValue T.y_string).run Pg w = .ok (.string sNil) w := run_zeroT (by kernel_rfl) w
 have hzd : plainElem (H := Unit) Pg T.y_string (.string sNil) = some (.lit (.string []), []) := plainElem_string und_str' (s := sNil) (by decide)
 obtain ⟨v, ps, hrun, hv⟩ := ho.look_ok Kint und_mis hz hzd (keyOf_int_mk und_int' (intWf hx))
 rw [hat x] at hv
 obtain ⟨s, rfl, hs, _⟩ := plainElem_string_inv und_str' hv
 simp only [Prod.mk.injEq, DataW.lit.injEq, Lit.string.injEq] at hs
 have e : s = tx (lastW ws x) := by
   rw [hs.1]
   rfl
 subst e
 have e2 : Maps.has D (.int .i64 x) = decide (x ∈ keysW ws) := by
   rw [Bool.eq_iff_iff, hh x]; simp
 rw [e2] at hrun
 exact ⟨_, _, w, hrun, hR⟩
def normW (ws : List Wr1) : List Wr1 := (nextT (keysW ws)).map fun x => (x, lastW ws x)
def normN (ts : List Int) (ws : List Wr1) (m : Nat) : List Wr1 := (List.range m).map fun (i : Nat) => (ts.getD i 0, lastW ws (ts.getD i 0))
theorem normN_succ (ts : List Int) (ws : List Wr1) (m : Nat) : normN ts ws (m + 1) = normN ts ws m ++ [(ts.getD m 0, lastW ws (ts.getD m 0))] := by simp [normN, List.range_succ]
theorem normN_len (ts : List Int) (ws : List Wr1) (m : Nat) : (normN ts ws m).length = m := by simp [normN]
theorem normN_all (ws : List Wr1) : normN (nextT (keysW ws)) ws (nextT (keysW ws)).length = normW ws := by
 apply List.ext_getElem
 · simp [normN, normW]
 · intro i h1 h2
   have : i < (nextT (keysW ws)).length := by simpa [normN] using h1
   simp [normN, normW, this]
theorem keys_norm (ws : List Wr1) : keysW (normW ws) = nextT (keysW ws) := by simp [keysW, normW, Function.comp_def]
theorem normW_len (ws : List Wr1) : (normW ws).length = (nextT (keysW ws)).length := by simp [normW]
theorem up_pw {l : List Int} : Up l ↔ List.Pairwise (· < ·) l := by
 first
   | exact Iff.rfl
   | simp [Up]
theorem ins_norm {ws : List Wr1} {v : Bs} (h1 : (1 : Int) ∉ keysW ws) {p : Nat} (hlo : ∀ (k : Nat) (x : Wr1), k < p → (normW ws)[k]? = some x → x.1 < 1) (hhi : ∀ (k : Nat) (x : Wr1), p ≤ k → (normW ws)[k]? = some x → 1 ≤ x.1) :
   (normW ws).take p ++ [(1, v)] ++ (normW ws).drop p = normW (ws ++ [(1, v)]) := by
 have hel : ∀ y ∈ (normW ws), y.2 = lastW ws y.1 ∧ y.1 ∈ nextT (keysW ws) := fun y hy => by
   obtain ⟨x, hx, rfl⟩ := List.mem_map.1 hy
   exact ⟨rfl, hx⟩
 have hne : ∀ y ∈ (normW ws), y.1 ≠ 1 := fun y hy e => h1 ((nextT_up _).2 _ |>.1 (e ▸ (hel y hy).2))
 have ht : ∀ y ∈ (normW ws).take p, y.1 < 1 := fun y hy => by
   obtain ⟨k, hk⟩ := List.mem_iff_getElem?.1 hy
   rw [List.getElem?_take] at hk
   split at hk
   · rename_i hkp; exact hlo k y hkp hk
   · cases hk
 have hd : ∀ y ∈ (normW ws).drop p, 1 < y.1 := fun y hy => by
   obtain ⟨k, hk⟩ := List.mem_iff_getElem?.1 hy
   rw [List.getElem?_drop] at hk
   have := hhi (p + k) y (Nat.le_add_right _ _) hk
   have := hne y (List.mem_of_mem_drop hy)
   omega
 have hup : List.Pairwise (· < ·) (keysW (normW ws)) := by rw [keys_norm]; exact up_pw.1 (nextT_up _).1
 have hks : keysW ((normW ws).take p ++ [(1, v)] ++ (normW ws).drop p) = nextT (keysW (ws ++ [(1, v)])) := by
   refine up_ext (up_pw.2 ?_) (nextT_up _).1 fun x => ?_
   · have e : keysW ((normW ws).take p ++ [(1, v)] ++ (normW ws).drop p) = keysW ((normW ws).take p) ++ ([1] ++ keysW ((normW ws).drop p)) := by simp [keysW]
     have e2 : keysW (normW ws) = keysW ((normW ws).take p) ++ keysW ((normW ws).drop p) := by rw [← List.take_append_drop p (normW ws)]; simp [keysW]
     rw [e2, List.pairwise_append] at hup
     rw [e, List.pairwise_append]
     refine ⟨hup.1, ?_, fun a ha b hb => ?_⟩
     · rw [List.singleton_append, List.pairwise_cons]
       refine ⟨fun b hb => ?_, hup.2.1⟩
       obtain ⟨y, hy, rfl⟩ := List.mem_map.1 hb
       exact hd y hy
     · obtain ⟨y, hy, rfl⟩ := List.mem_map.1 ha
       have h3 := ht y hy
       rcases List.mem_append.1 hb with hb | hb
       · simp only [List.mem_cons, List.not_mem_nil, or_false] at hb
         omega
       · exact hup.2.2 _ ha _ hb
   · rw [(nextT_up _).2]
     have e2 : x ∈ keysW (normW ws) ↔ x ∈ keysW ws := by rw [keys_norm, (nextT_up _).2]
     have e3 : x ∈ keysW (normW ws) ↔ x ∈ keysW ((normW ws).take p) ∨ x ∈ keysW ((normW ws).drop p) := by
       rw [← List.mem_append]
       have : keysW (normW ws) = keysW ((normW ws).take p) ++ keysW ((normW ws).drop p) := by rw [← List.take_append_drop p (normW ws)]; simp [keysW]
       rw [this]
     have e4 : x ∈ keysW ((normW ws).take p ++ [(1, v)] ++ (normW ws).drop p) ↔ x ∈ keysW ((normW ws).take p) ∨ x = 1 ∨ x ∈ keysW ((normW ws).drop p) := by simp [keysW]
     have e5 : x ∈ keysW (ws ++ [(1, v)]) ↔ x ∈ keysW ws ∨ x = 1 := by simp [keysW]
     rw [e4, e5, ← e2, e3]
     constructor
     · rintro (h | h | h)
       · exact .inl (.inl h)
       · exact .inr h
       · exact .inl (.inr h)
     · rintro ((h | h) | h)
       · exact .inl h
       · exact .inr (.inr h)
       · exact .inr (.inl h)
 have hall : ∀ y ∈ (normW ws).take p ++ [(1, v)] ++ (normW ws).drop p, y = (y.1, lastW (ws ++ [(1, v)]) y.1) := fun y hy => by
   have inn : ∀ y ∈ normW ws, y = (y.1, lastW (ws ++ [(1, v)]) y.1) := fun y hy => by
     have h3 := hne y hy
     rw [lastW_app, if_neg (fun e => h3 e.symm), ← (hel y hy).1]
   rcases List.mem_append.1 hy with hy | hy
   · rcases List.mem_append.1 hy with hy | hy
     · exact inn y (List.mem_of_mem_take hy)
     · simp only [List.mem_cons, List.not_mem_nil, or_false] at hy
       subst hy
       rw [lastW_app, if_pos rfl]
   · exact inn y (List.mem_of_mem_drop hy)
 have hfin : ∀ (l : List Wr1) (f : Int → Bs), (∀ y ∈ l, y = (y.1, f y.1)) → l = (keysW l).map fun x => (x, f x) := by
   intro l f
   induction l with
   | nil => intro _; rfl
   | cons a r ih =>
     intro h
     have h3 := h a List.mem_cons_self
     have h4 := ih fun y hy => h y (List.mem_cons_of_mem _ hy)
     show a :: r = (a.1, f a.1) :: (keysW r).map fun x => (x, f x)
     rw [← h3, ← h4]
 rw [hfin _ _ hall, hks]
 rfl
/-- what a Sync would write -/
def written (D : DkV) : List Wr1 := normW (D.ws ++ if homeAt D.d 1 = layRoom D.bs then [] else [(1, layRoom D.bs)])
section
variable {w : World} {k u g r b : Nat} {fpd fpr : Nat → Prop} {D : DkV} {c : Nat}
theorem DOk.keys1 (h : DOk c D) : (1 : Int) ∉ keysW D.ws := fun hm => by
 obtain ⟨x, hx, e⟩ := List.mem_map.1 hm
 exact (h.ws x hx).2.2.1 e
theorem DOk.bsl (h : DOk c D) : 29 ≤ D.bs.length ∧ D.bs.length ≤ 1889 := by
 have := h.len; have := h.q.lo; have := h.q.hi
 omega
theorem DOk.ts (h : DOk c D) : ∀ x ∈ nextT (keysW D.ws), 0 ≤ x ∧ x < (D.bs.length : Int) := fun x hx => by
 rw [(nextT_up _).2] at hx
 obtain ⟨y, hy, rfl⟩ := List.mem_map.1 hx
 have := h.ws y hy
 exact ⟨this.1, this.2.1⟩
set_option maxHeartbeats 2000000 in
theorem written_desk (h : DeskA w k u g r b fpd fpr D) (hk : DOk c D) (hc : c ≤ 1000000) {R : Sl → World → Prop}
   (hR : ∀ l w', Own w' T.y_api_Write 2 l (wrCells (written D)) → (∀ j, l.bk j → w.heap.size ≤ j) → Below w.heap.size w w' → R l w') : F.desk_Desk_written (some (blk k)) w R := by
 obtain ⟨inf, hi, hz', hs1', hby⟩ := info_wr
 apply E.desk_Desk_written
 unfold V.desk_Desk_written
 have hwl := hk.wl
 have hbsl := hk.bsl
 have hlen := hk.len
 have hhi := hk.q.hi
 refine ⟨blk k, rfl, some b, h.c2, KeysSorted_spec h.mp (by omega) fun l1 w2 hO2 hbk2 hB2 => ?_⟩
 have h2 := h.below hB2
 have s2 := hB2.size
 have hI2 := Own.ints hO2
 have hll := hI2.1
 have htl : (nextT (keysW D.ws)).length ≤ 1000000 := Nat.le_trans (nextT_len _) (by rw [keysW, List.length_map]; omega)
 have htr := hk.ts
 have hup := (nextT_up (keysW D.ws)).1
 have hnorm := normN_all D.ws
 generalize hts : nextT (keysW D.ws) = ts at *
 refine ⟨fun out n w' => ∃ m : Nat, n = m ∧ m ≤ ts.length ∧ Own w' T.y_api_Write 2 out (wrCells (normN ts D.ws m)) ∧ (∀ j, out.bk j → w2.heap.size ≤ j) ∧ Below w2.heap.size w2 w', fun _ n _ => (ts.length - n).toNat,
   ⟨0, rfl, Nat.zero_le _, Own.nil _ _ _, fun k hk => bk_nil hk, Below.refl _ _⟩, ?_⟩
 rintro out n w3 ⟨m, rfl, hm, hO3, hb3, hB3⟩
 have s3 := hB3.size
 have h3 := h2.below hB3
 refine ⟨fun hlt => ?_, fun hge => ?_⟩
 · have hlt : m < ts.length := by have := of_decide_eq_true hlt; omega
   obtain ⟨a, ha, hc'⟩ := (hI2.below hB3).2 m ts[m] (by simp [hlt])
   have eg : ts.getD m 0 = ts[m] := by simp [hlt]
   have ht := htr ts[m] (List.getElem_mem _)
   have e3 : w64 ((m : Int) + 1) = ((m + 1 : Nat) : Int) := by rw [w64_id (by omega) (by omega)]; omega
   refine ⟨a, ha, by omega, by omega, ts[m], by simpa using hc', blk k, rfl, some b, h3.c2, h3.mp.look (by omega) ?_⟩
   rw [e3]
   intro w4
   have h4 : w4.heap[w3.heap.size]? = some (.cells ⟨wrCells [(ts[m], lastW D.ws ts[m])]⟩ T.y_api_Write (0, 0)) := heap_new w3 _
   have hF4 : Fr no w3 w4 := Fr.alloc no w3 _
   clear_value w4
   have s4 := hF4.size
   have hO4 := hO3.keep hF4 (fun _ _ => id)
   have hol : out.len = m := by rw [(Own.wrs hO4).1, normN_len]
   refine runT_append und_wr hi hz' hs1' hby rfl (by decide) hO4 (m := 1) (news := wrCells [(ts[m], lastW D.ws ts[m])]) rfl (fun j u hu => by rw [blk_cell h4 j]; exact hu) (wrCells_one _) (by simp only [maxLen]; omega) (by omega) fun out' w5 hO5 hl5 hF5 hM5 => ?_
   rw [← wrCells_app, ← eg, ← normN_succ] at hO5
   refine ⟨⟨m + 1, rfl, hlt, hO5, fun j hj => ?_, (hB3.trans ((below_fr hF4).mono s3)).trans (hF5.toBelow hb3 (by omega))⟩, ?_⟩
   · rcases moved_bk hM5 hj with h | h
     · exact hb3 j h
     · omega
   · show ((ts.length : Int) - ((m + 1 : Nat) : Int)).toNat < ((ts.length : Int) - (m : Int)).toNat
     omega
 have hmm : m = ts.length := by have := of_decide_eq_false hge; omega
 subst hmm
 rw [hnorm] at hO3
 refine ⟨blk k, rfl, some (blk r), h3.c1, Lay_room h3.rm (by omega) (by omega) fun w4 hB4 => ?_⟩
 have h4 := h3.below hB4
 have s4 := hB4.size
 refine ⟨blk k, rfl, some (blk u), h4.c0, Read_home (i := 1) h4.wl h4.dk (by omega) hk.q.off rfl (by omega) ⟨fun _ => ?_, fun h => by simp at h⟩⟩
 have hO4 := hO3.keep (fr_below hB4) (fun _ _ => id)
 have hB04 := (hB2.trans (hB3.mono s2)).trans (hB4.mono (by omega))
 rw [tx_eq]
 refine ⟨fun hne => ?_, fun heq => ?_⟩
 · have hne : ¬ homeAt D.d 1 = layRoom D.bs := by simpa using hne
   have hr : ∀ x ∈ normW D.ws, 0 ≤ x.1 ∧ x.1 < 1000000 := fun x hx => by
     obtain ⟨y, hy, rfl⟩ := List.mem_map.1 hx
     rw [hts] at hy
     have := htr y hy
     exact ⟨this.1, by show y < _; omega⟩
   have hnl : (normW D.ws).length ≤ 1000000 := by rw [normW_len, hts]; exact htl
   refine Search_writes (Own.wrs hO4) hr (by rw [keys_norm]; exact (nextT_up _).1) hnl (t := 1) (by decide) fun p bb w5 hp hlo hhi' hB5 => ?_
   intro w6
   have h6 : w6.heap[w5.heap.size]? = some (.cells ⟨wrCells [(1, layRoom D.bs)]⟩ T.y_api_Write (0, 0)) := heap_new w5 _
   have hF6 : Fr no w5 w6 := Fr.alloc no w5 _
   clear_value w6
   have s5 := hB5.size
   have hO6 := (hO4.keep (fr_below hB5) (fun _ _ => id)).keep hF6 (fun _ _ => id)
   refine Insert_one hO6 (by omega) h6 (fun hj => by have := hO4.lt hj; omega) hp fun l7 w7 hO7 hF7 hM7 => ?_
   rw [ins_norm hk.keys1 hlo hhi'] at hO7
   have hB06 := (hB04.trans (hB5.mono (by omega))).trans ((below_fr hF6).mono (by omega))
   refine hR l7 w7 ?_ (fun j hj => ?_) (hB06.trans (hF7.toBelow (fun j hj => by have := hb3 j hj; omega) hB06.size))
   · unfold written; rw [if_neg hne]; exact hO7
   · rcases moved_bk hM7 hj with h | h
     · have := hb3 j h; omega
     · have := hF6.size; omega
 · have heq : homeAt D.d 1 = layRoom D.bs := by simpa using heq
   refine hR out w4 ?_ (fun j hj => by have := hb3 j hj; omega) hB04
   unfold written; rw [if_pos heq, List.append_nil]; exact hO4
set_option maxHeartbeats 1000000 in
theorem Dirty_desk (h : DeskA w k u g r b fpd fpr D) (hk : DOk c D) (hc : c ≤ 100000) {R : Sl → World → Prop}
   (hR : ∀ l w', Own w' T.y_int 1 l (intCells (keysW (written D))) → (∀ j, l.bk j → w.heap.size ≤ j) → Below w.heap.size w w' → R l w') : F.desk_Desk_Dirty (some (blk k)) w R := by
 obtain ⟨inf, hi, hz', hs1', hby⟩ := info_int
 apply E.desk_Desk_Dirty
 unfold V.desk_Desk_Dirty
 refine ⟨fun h => by simp at h, fun _ => written_desk h hk (by omega) fun l1 w1 hO1 hbk1 hB1 => ?_⟩
 have s1 := hB1.size
 have hW1 := Own.wrs hO1
 have hwl : (written D).length ≤ 1000000 := by
   unfold written
   rw [normW_len]
   refine Nat.le_trans (nextT_len _) ?_
   have := hk.wl
   rw [keysW, List.length_map, List.length_append]
   split <;> simp <;> omega
 have hll := hW1.1
 generalize written D = ws at *
 refine ⟨fun out n w' => ∃ m : Nat, n = m ∧ m ≤ ws.length ∧ Own w' T.y_int 1 out (intCells (keysW (ws.take m))) ∧ (∀ j, out.bk j → w1.heap.size ≤ j) ∧ Below w1.heap.size w1 w', fun _ n _ => (ws.length - n).toNat,
   ⟨0, rfl, Nat.zero_le _, Own.nil _ _ _, fun k hk => bk_nil hk, Below.refl _ _⟩, ?_⟩
 rintro out n w2 ⟨m, rfl, hm, hO2, hb2, hB2⟩
 have s2 := hB2.size
 refine ⟨fun hlt => ?_, fun hge => ?_⟩
 · have hlt : m < ws.length := by have := of_decide_eq_true hlt; omega
   obtain ⟨a, ha, hc', hd'⟩ := (hW1.keep (fr_below hB2) (fun _ _ => id)).2 m ws[m] (by simp [hlt])
   have e3 : w64 ((m : Int) + 1) = ((m + 1 : Nat) : Int) := by rw [w64_id (by omega) (by omega)]; omega
   refine ⟨a, ha, by omega, by omega, ws[m].1, by simpa using hc', tx ws[m].2, by simpa using hd', ?_⟩
   rw [e3]
   intro w3
   have h3 : w3.heap[w2.heap.size]? = some (.cells ⟨[.int .i64 0, .string sNil]⟩ T.y_api_Write (0, 0)) := heap_new w2 _
   have hF3 : Fr no w2 w3 := Fr.alloc no w2 _
   clear_value w3
   refine ⟨blk_wr0 h3 (by simp), ?_⟩
   intro w4
   have h4 : w4.heap[w2.heap.size]? = some (.cells ⟨[.int .i64 ws[m].1, .string sNil]⟩ T.y_api_Write (0, 0)) := by have := blk_set0 h3 (.int .i64 ws[m].1); simpa using this
   have hF4 : Fr (· = w2.heap.size) w3 w4 := fr_set0 w3 _ _
   clear_value w4
   refine ⟨blk_wr h4 (by simp), ?_⟩
   intro w5
   have h5 : w5.heap[w2.heap.size]? = some (.cells ⟨[.int .i64 ws[m].1, .string (tx ws[m].2)]⟩ T.y_api_Write (0, 0)) := by have := blk_set h4 1 (.string (tx ws[m].2)); simpa using this
   have hF5 : Fr (· = w2.heap.size) w4 w5 := fr_set w4 _ 1 _
   clear_value w5
   refine ⟨ws[m].1, by rw [blk_cell0 h5]; rfl, ?_⟩
   intro w6
   have h6 : w6.heap[w5.heap.size]? = some (.cells ⟨intCells [ws[m].1]⟩ T.y_int (0, 0)) := heap_new w5 _
   have hF6 : Fr no w5 w6 := Fr.alloc no w5 _
   clear_value w6
   have q3 := hF3.size
   have q4 := hF4.size
   have q5 := hF5.size
   have q6 := hF6.size
   have hB26 : Below w2.heap.size w2 w6 := (((below_fr hF3).trans (hF4.toBelow (fun k hk => by have : k = w2.heap.size := hk; omega) q3)).trans (hF5.toBelow (fun k hk => by have : k = w2.heap.size := hk; omega) (by omega))).trans ((below_fr hF6).mono (by omega))
   have hO6 := hO2.keep (fr_below hB26) (fun _ _ => id)
   have hol := (Own.ints hO6).1
   rw [keysW, List.length_map, List.length_take] at hol
   refine runT_append und_ints hi hz' hs1' hby rfl (by decide) hO6 (m := 1) (news := intCells [ws[m].1]) rfl (fun j u hu => by rw [blk_cell h6 j]; exact hu) (intCells_one _) (by simp only [maxLen]; omega) (by omega) fun out' w7 hO7 hl7 hF7 hM7 => ?_
   have e : intCells (keysW (ws.take m)) ++ intCells [ws[m].1] = intCells (keysW (ws.take (m + 1))) := by
     rw [List.take_succ_eq_append_getElem hlt]; unfold intCells keysW; rw [List.map_append, List.map_append]; rfl
   rw [e] at hO7
   refine ⟨⟨m + 1, rfl, hlt, hO7, fun j hj => ?_, (hB2.trans (hB26.mono s2)).trans (hF7.toBelow hb2 (by omega))⟩, ?_⟩
   · rcases moved_bk hM7 hj with h | h
     · exact hb2 j h
     · omega
   · show ((ws.length : Int) - ((m + 1 : Nat) : Int)).toNat < ((ws.length : Int) - (m : Int)).toNat
     omega
 · have hmm : m = ws.length := by have := of_decide_eq_false hge; omega
   subst hmm
   rw [List.take_length] at hO2
   exact hR out w2 hO2 (fun j hj => by have := hb2 j hj; omega) (hB1.trans (hB2.mono s1))
theorem Get_desk (h : DeskA w k u g r b fpd fpr D) (hk : DOk c D) {at_ : Int} (hx : -9223372036854775808 ≤ at_ ∧ at_ < 9223372036854775808) {R : ByteArray → Int → World → Prop}
   (hR : R (tx (if at_ ∈ keysW D.ws then lastW D.ws at_ else if 0 ≤ at_ ∧ at_ < (D.bs.length : Int) then homeAt D.d at_.toNat else [])) (if at_ ∈ keysW D.ws then 0 else if 0 ≤ at_ ∧ at_ < (D.bs.length : Int) then 0 else 15) w) : F.desk_Desk_Get (some (blk k)) at_ w R := by
 apply E.desk_Desk_Get
 unfold V.desk_Desk_Get
 have hhi := hk.q.hi
 have hlen := hk.len
 refine Bad_desk h ⟨fun h => by simp at h, fun _ => ⟨blk k, rfl, some b, h.c2, h.mp.lookok hx ⟨fun hb => ?_, fun hb => ⟨blk k, rfl, some (blk u), h.c0, Read_wal h.wl h.dk (by omega) ?_⟩⟩⟩⟩
 · have hb := of_decide_eq_true hb
   rw [if_pos hb, if_pos hb] at hR; exact hR
 · have hb := of_decide_eq_false hb
   rw [if_neg hb, if_neg hb] at hR
   have hs : sizeD D.d = (D.d.l.length : Int) - 111 := rfl
   by_cases hr : 0 ≤ at_ ∧ at_ < (D.bs.length : Int)
   · rw [if_pos hr, if_pos hr] at hR
     have e : readE D.d false at_ = 0 := by unfold readE; rw [if_neg (by decide), if_neg (by omega), if_neg (by simp [hk.q.off])]
     simp only [e, if_true]
     exact hR
   · rw [if_neg hr, if_neg hr] at hR
     have e : readE D.d false at_ = 15 := by unfold readE; rw [if_neg (by decide), if_pos (by omega)]
     simp only [e]
     exact hR
end
end Go.Proofs.YtmokmbhhnbcelaaGreatDoor
