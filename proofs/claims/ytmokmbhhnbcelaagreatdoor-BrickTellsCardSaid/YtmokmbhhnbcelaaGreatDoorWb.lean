/- wal: Open, Commit; nothing is armed. -/
import Derived.Test.YtmokmbhhnbcelaaGreatDoorWa
set_option linter.unusedVariables false
namespace Go.Proofs.YtmokmbhhnbcelaaGreatDoor
open Go Go.Vc Go.RowKit Go.Lib
theorem Open_ok {w : World} {g : Nat} {fp : Nat → Prop} {d : Ds} (hd : Dsk w g fp d) (hoff : d.off = false) (hn1 : 1 ≤ d.l.length) {seq : Int} {ts : List Int} (hr : readHead (d.l.getD 0 []) = (⟨seq, false, ts⟩, 0)) (hl : (d.l.getD 0 []).length ≤ 1000000000)
   {R : Option Addr → Int → World → Prop} (hR : ∀ u w', Wl w' u g ⟨seq, false, 0⟩ → w.heap.size ≤ u → Below w.heap.size w w' → R (some (blk u)) 0 w') : F.wal_Open (some (blk g)) w R := by
 apply E.wal_Open
 unfold V.wal_Open
 obtain ⟨L, S, Wn, hk, rfl⟩ := hd
 refine ⟨fun h => by simp at h, fun _ => Read_disk hk ?_⟩
 have e : mayD d 0 = 0 := by unfold mayD; rw [if_neg (by simp [hoff]), if_neg (by omega)]
 rw [e]
 refine ⟨fun h => by simp at h, fun _ => ?_⟩
 rw [if_pos rfl]
 refine Read_head hl fun l w1 hO1 hbk1 hB1 => ?_
 simp -zeta only [hr] at hO1 ⊢
 intro w2
 have h2 : w2.heap[w1.heap.size]? = some (.cells ⟨[.int .i64 0, .bool false, .slice none 0 0]⟩ T.y_head_Head (0, 0)) := heap_new w1 _
 have hF2 : Fr no w1 w2 := Fr.alloc no w1 _
 clear_value w2
 obtain ⟨k1, k2, k3, h3, hF3⟩ := set3 h2 seq false l
 refine ⟨k1, ?_⟩
 intro _
 refine ⟨k2, ?_⟩
 intro _
 refine ⟨k3, ?_⟩
 intro w3
 have h3 : w3.heap[w1.heap.size]? = some (.cells ⟨[.int .i64 seq, .bool false, .slice l.a l.len l.cap]⟩ T.y_head_Head (0, 0)) := h3
 have hF3 : Fr (· = w1.heap.size) w2 w3 := hF3
 clear_value w3
 obtain ⟨c0, c1, c2⟩ := head3 h3
 refine ⟨fun h => by simp at h, fun _ => ⟨seq, c0, false, c1, l, c2, ?_⟩⟩
 intro w4
 have h4 : w4.heap[w3.heap.size]? = some (.cells ⟨wlCells g l false ⟨seq, false, 0⟩⟩ T.y_wal_Wal (0, 0)) := heap_new w3 _
 have hF4 : Fr no w3 w4 := Fr.alloc no w3 _
 clear_value w4
 have h34 := hF4.heap h3 id
 refine ⟨false, by rw [blk_cell h34]; rfl, fun _ => ?_, fun h => by simp at h⟩
 have s1 := hB1.size
 have s2 := hF2.size
 have s3 := hF3.size
 have hB3 := (hB1.trans ((below_fr hF2).mono s1)).trans (hF3.toBelow (B := w.heap.size) (fun k hk => by have : k = w1.heap.size := hk; omega) (by omega))
 exact hR w3.heap.size w4 ⟨l, false, h4⟩ (by omega) (hB3.trans ((below_fr hF4).mono (by omega)))
/-- what is logged, and what goes home -/
def logN (ts : List Int) (ws : List Wr1) (m : Nat) : List Wr1 := (List.range m).map fun (i : Nat) => (1 + (i : Int), lastW ws (ts.getD i 0))
def homN (ts : List Int) (ws : List Wr1) (m : Nat) : List Wr1 := (List.range m).map fun (i : Nat) => (111 + ts.getD i 0, lastW ws (ts.getD i 0))
theorem logN_succ (ts : List Int) (ws : List Wr1) (m : Nat) : logN ts ws (m + 1) = logN ts ws m ++ [(1 + (m : Int), lastW ws (ts.getD m 0))] := by simp [logN, List.range_succ]
theorem homN_succ (ts : List Int) (ws : List Wr1) (m : Nat) : homN ts ws (m + 1) = homN ts ws m ++ [(111 + ts.getD m 0, lastW ws (ts.getD m 0))] := by simp [homN, List.range_succ]
theorem logN_len (ts : List Int) (ws : List Wr1) (m : Nat) : (logN ts ws m).length = m := by simp [logN]
theorem homN_len (ts : List Int) (ws : List Wr1) (m : Nat) : (homN ts ws m).length = m := by simp [homN]
/-- the disk behind a commit -/
def commitD (d : Ds) (seq : Int) (ws : List Wr1) : Ds :=
 let ts := nextT (keysW ws)
 let d1 := flushD (wrN d (logN ts ws ts.length))
 let d2 := flushD (wr1 d1 (0, headB ⟨seq + 1, true, ts⟩))
 flushD (wr1 (flushD (wrN d2 (homN ts ws ts.length))) (0, headB ⟨seq + 1, false, []⟩))
theorem snoc_ind {α : Type} {P : List α → Prop} (h0 : P []) (hs : ∀ l a, P l → P (l ++ [a])) (l : List α) : P l := by
 rw [← List.reverse_reverse l]
 induction l.reverse with
 | nil => exact h0
 | cons a r ih => rw [List.reverse_cons]; exact hs _ _ ih
theorem lastW_mem : ∀ (ws : List Wr1) (x : Int), x ∈ keysW ws → (x, lastW ws x) ∈ ws := by
 refine snoc_ind (fun x hx => by simp [keysW] at hx) fun ws p ih => ?_
 · intro x hx
   rw [lastW_app]
   by_cases h : p.1 = x
   · rw [if_pos h]
     subst h
     simp
   · rw [if_neg h]
     have : x ∈ keysW ws := by
       simp only [keysW, List.map_append, List.map_cons, List.map_nil, List.mem_append, List.mem_cons, List.not_mem_nil, or_false] at hx ⊢
       rcases hx with hx | hx
       · exact hx
       · exact absurd hx.symm h
     exact List.mem_append.2 (.inl (ih x this))
theorem lastE_zero {n : Int} {ws : List Wr1} (h : lastE n ws = 0) : (∀ x ∈ ws, 0 ≤ x.1 ∧ x.1 < n ∧ x.2.length = 256) ∧ (nextT (keysW ws)).length ≤ 110 := by
 unfold lastE at h
 split at h
 · rename_i x hf
   have := List.find?_some hf
   simp only [ne_eq, decide_eq_true_eq] at this
   exact absurd h this
 · rename_i hf
   rw [List.find?_eq_none] at hf
   refine ⟨fun x hx => ?_, by split at h <;> omega⟩
   have := hf x hx
   simp only [ne_eq, decide_eq_true_eq, Decidable.not_not] at this
   unfold badW at this
   split at this
   · simp at this
   · split at this
     · simp at this
     · omega
theorem targets_ok {n : Int} {ws : List Wr1} (h : lastE n ws = 0) {i : Nat} (hi : i < (nextT (keysW ws)).length) :
   0 ≤ (nextT (keysW ws)).getD i 0 ∧ (nextT (keysW ws)).getD i 0 < n ∧ (lastW ws ((nextT (keysW ws)).getD i 0)).length = 256 := by
 have hm : (nextT (keysW ws)).getD i 0 ∈ keysW ws := by
   rw [← (nextT_up _).2]
   have : (nextT (keysW ws)).getD i 0 = (nextT (keysW ws))[i] := by simp [hi]
   rw [this]; exact List.getElem_mem _
 have := (lastE_zero h).1 _ (lastW_mem ws _ hm)
 exact this
theorem valid_next {seq : Int} {ts : List Int} (h0 : 0 ≤ seq) (h1 : seq ≤ 1099511627776) (hup : Up ts) (hlen : ts.length ≤ 110) (hne : ts ≠ []) (hr : ∀ x ∈ ts, 0 ≤ x ∧ x < 2000) : validH ⟨seq, true, ts⟩ = true := by
 have hpos : 0 < ts.length := List.length_pos_iff.2 hne
 simp only [validH, Bool.and_eq_true, decide_eq_true_eq, List.all_eq_true, List.mem_range]
 refine ⟨h0, h1, hlen, by simp [hpos], fun i hi => ?_⟩
 unfold upTo
 have e : ts[i]? = some ts[i] := by simp [hi]
 rw [e]
 have hx := hr ts[i] (List.getElem_mem _)
 simp only [Bool.and_eq_true, Bool.or_eq_true, decide_eq_true_eq]
 refine ⟨hx.1, hx.2, ?_⟩
 by_cases h0 : i = 0
 · exact .inl h0
 · refine .inr ?_
   have e2 : ts.getD (i - 1) 0 = ts[i - 1] := by simp [show i - 1 < ts.length by omega]
   rw [e2]
   have hp : List.Pairwise (· < ·) ts := by first | exact hup | simpa [Up] using hup
   exact List.pairwise_iff_getElem.1 hp (i - 1) i (by omega) hi (by omega)
set_option maxHeartbeats 4000000 in
theorem Commit_wal {w : World} {u g : Nat} {fp : Nat → Prop} {d : Ds} {seq commits : Int} {sl : Sl} {ws : List Wr1} (h : Wl w u g ⟨seq, false, commits⟩) (hd : Dsk w g fp d) (hoff : d.off = false) (hx : Wrs w sl ws) (hsl : ∀ k, sl.bk k → k < w.heap.size) (hl : ws.length ≤ 1000000)
   (hn : 140 ≤ d.l.length) (hn2 : d.l.length ≤ 2000) (hs0 : 0 ≤ seq) (hs1 : seq < 1099511627776) (hc0 : 0 ≤ commits) (hc1 : commits < 1000000000000) (hm0 : 0 ≤ d.many) (hm : d.many < 999999999000) (hws : d.ws.length ≤ 100000000)
   {R : Int → World → Prop} (hE : ∀ w', lastE (sizeD d) ws ≠ 0 → Below w.heap.size w w' → R (lastE (sizeD d) ws) w') (hN : ∀ w', ws = [] → Below w.heap.size w w' → R 0 w')
   (hR : ∀ fp' w', lastE (sizeD d) ws = 0 → ws ≠ [] → Dsk w' g fp' (commitD d seq ws) → Wl w' u g ⟨seq + 1, false, commits + 1⟩ → Gr (fun k => fp k ∨ k = u) (fun k => fp' k ∨ k = u) w w' → R 0 w') : F.wal_Wal_Commit (some (blk u)) sl w R := by
 apply E.wal_Wal_Commit
 unfold V.wal_Wal_Commit
 refine ⟨fun h => by simp at h, fun _ => Up_wal h ⟨fun hu => by simp at hu, fun _ => last_wal h hd (by omega) hx hsl hl fun m w1 hm1 hB1 => ⟨fun hne => ?_, fun heq => ?_⟩⟩⟩
 · have hne : lastE (sizeD d) ws ≠ 0 := by simpa using hne
   exact hE w1 hne hB1
 have hE0 : lastE (sizeD d) ws = 0 := by simpa using heq
 obtain ⟨b, rfl, hM1, hb⟩ := hm1 hE0
 refine hM1.len ⟨fun hz => ?_, fun hz => ?_⟩
 · rw [hE0]
   refine hN w1 ?_ hB1
   have hz : (nextT (keysW ws)).length = 0 := by have : ((nextT (keysW ws)).length : Int) = 0 := by simpa using hz
                                                 omega
   cases ws with
   | nil => rfl
   | cons p r =>
     have : p.1 ∈ nextT (keysW (p :: r)) := by rw [(nextT_up _).2]; simp [keysW]
     rw [List.eq_nil_of_length_eq_zero hz] at this
     simp at this
 have hne : ws ≠ [] := by
   intro e
   subst e
   have : (nextT (keysW [])).length = 0 := Nat.le_zero.1 (nextT_len _)
   rw [this] at hz
   simp at hz
 have htne : nextT (keysW ws) ≠ [] := by
   intro e
   rw [e] at hz
   simp at hz
 obtain ⟨hall, hlen⟩ := lastE_zero hE0
 have htok := fun i hi => targets_ok (i := i) hE0 hi
 have hup := (nextT_up (keysW ws)).1
 generalize hts : nextT (keysW ws) = ts at *
 have hsz : sizeD d = (d.l.length : Int) - 111 := rfl
 have htr : ∀ x ∈ ts, 0 ≤ x ∧ x < 2000 := fun x hx => by
   obtain ⟨i, hi, rfl⟩ := List.mem_iff_getElem.1 hx
   have := htok i hi
   have e : ts.getD i 0 = ts[i] := by simp [hi]
   rw [e] at this
   omega
 obtain ⟨inf, hi, hz', hs1', hby⟩ := info_wr
 refine KeysSorted_spec hM1 hl fun l1 w2 hO2 hbk2 hB2 => ?_
 rw [hts] at hO2
 have hM2 := hM1.keep (fr_below hB2) id
 have s1 := hB1.size
 have s2 := hB2.size
 have hbl := hM1.lt
 have hI2 := Own.ints hO2
 have hll : l1.len = ts.length := hI2.1
 refine ⟨fun lg ho n w' => ∃ m : Nat, n = m ∧ m ≤ ts.length ∧ Own w' T.y_api_Write 2 lg (wrCells (logN ts ws m)) ∧ Own w' T.y_api_Write 2 ho (wrCells (homN ts ws m)) ∧ (∀ k, lg.bk k → w2.heap.size ≤ k) ∧ (∀ k, ho.bk k → w2.heap.size ≤ k) ∧ (∀ k, lg.bk k → ¬ ho.bk k) ∧ Below w2.heap.size w2 w', fun _ _ n _ => (ts.length - n).toNat,
   ⟨0, rfl, Nat.zero_le _, Own.nil _ _ _, Own.nil _ _ _, fun k hk => bk_nil hk, fun k hk => bk_nil hk, fun k hk => bk_nil hk, Below.refl _ _⟩, ?_⟩
 rintro lg ho n w3 ⟨m, rfl, hm', hL3, hH3, hlb, hhb, hlh, hB3⟩
 have s3 := hB3.size
 have hM3 := hM2.keep (fr_below hB3) id
 refine ⟨fun hlt => ?_, fun hge => ?_⟩
 · have hlt : m < ts.length := by have := of_decide_eq_true hlt; omega
   obtain ⟨a, ha, hc⟩ := (hI2.below hB3).2 m ts[m] (by simp [hlt])
   have eg : ts.getD m 0 = ts[m] := by simp [hlt]
   have ht := htok m hlt
   rw [eg] at ht
   have e1 : w64 ((1 : Int) + (m : Int)) = 1 + (m : Int) := w64_id (by omega) (by omega)
   have e2 : w64 ((111 : Int) + ts[m]) = 111 + ts[m] := w64_id (by omega) (by omega)
   have e3 : w64 ((m : Int) + 1) = ((m + 1 : Nat) : Int) := by rw [w64_id (by omega) (by omega)]; omega
   refine ⟨a, ha, by omega, by omega, ts[m], by simpa using hc, hM3.look (by omega) ?_⟩
   rw [e1, e3]
   intro w4
   have h4 : w4.heap[w3.heap.size]? = some (.cells ⟨wrCells [(1 + (m : Int), lastW ws ts[m])]⟩ T.y_api_Write (0, 0)) := heap_new w3 _
   have hF4 : Fr no w3 w4 := Fr.alloc no w3 _
   have hz4 : w4.heap.size = w3.heap.size + 1 := by simp [w4]
   clear_value w4
   have hL4 := hL3.keep hF4 (fun _ _ => id)
   have hH4 := hH3.keep hF4 (fun _ _ => id)
   have hlgl : lg.len = m := by rw [(Own.wrs hL4).1, logN_len]
   have hhol : ho.len = m := by rw [(Own.wrs hH4).1, homN_len]
   refine runT_append und_wr hi hz' hs1' hby rfl (by decide) hL4 (m := 1) (news := wrCells [(1 + (m : Int), lastW ws ts[m])]) rfl (fun j u hu => by rw [blk_cell h4 j]; exact hu) (wrCells_one _) (by simp only [maxLen]; omega) (by omega) fun lg' w5 hL5 hl5 hF5 hM5 => ?_
   rw [← wrCells_app] at hL5
   have s5 := hF5.size
   have hM4 := hM3.keep hF4 id
   have hM5' := hM4.keep hF5 (fun hk => by have := hlb b hk; omega)
   refine hM5'.look (by omega) ?_
   rw [e2]
   intro w6
   have h6 : w6.heap[w5.heap.size]? = some (.cells ⟨wrCells [(111 + ts[m], lastW ws ts[m])]⟩ T.y_api_Write (0, 0)) := heap_new w5 _
   have hF6 : Fr no w5 w6 := Fr.alloc no w5 _
   have hz6 : w6.heap.size = w5.heap.size + 1 := by simp [w6]
   clear_value w6
   have hH6 := (hH4.keep hF5 (fun k hk hk' => hlh k hk' hk)).keep hF6 (fun _ _ => id)
   have hL6 := hL5.keep hF6 (fun _ _ => id)
   refine runT_append und_wr hi hz' hs1' hby rfl (by decide) hH6 (m := 1) (news := wrCells [(111 + ts[m], lastW ws ts[m])]) rfl (fun j u hu => by rw [blk_cell h6 j]; exact hu) (wrCells_one _) (by simp only [maxLen]; omega) (by omega) fun ho' w7 hH7 hl7 hF7 hM7 => ?_
   rw [← wrCells_app] at hH7
   have hl' : ∀ k, lg'.bk k → lg.bk k ∨ (w4.heap.size ≤ k ∧ k < w5.heap.size) := fun k hk => by
     have hlt' := hL5.lt hk
     rcases moved_bk hM5 hk with hh | hh
     · exact .inl hh
     · exact .inr ⟨hh, hlt'⟩
   have hh' : ∀ k, ho'.bk k → ho.bk k ∨ w6.heap.size ≤ k := fun k hk => moved_bk hM7 hk
   have hlg3 : ∀ k, lg.bk k → k < w3.heap.size := fun k hk => hL3.lt hk
   have hho3 : ∀ k, ho.bk k → k < w3.heap.size := fun k hk => hH3.lt hk
   have hap : ∀ k, lg'.bk k → ¬ ho.bk k := fun k hk hk' => by
     rcases hl' k hk with q | q
     · exact hlh k q hk'
     · have := hho3 k hk'; omega
   have hL7 := hL6.keep hF7 hap
   rw [← eg, ← logN_succ] at hL7
   rw [← eg, ← homN_succ] at hH7
   refine ⟨⟨m + 1, rfl, hlt, hL7, hH7, fun k hk => ?_, fun k hk => ?_, fun k hk hk' => ?_, ?_⟩, ?_⟩
   · rcases hl' k hk with q | q
     · exact hlb k q
     · omega
   · rcases hh' k hk with q | q
     · exact hhb k q
     · omega
   · rcases hh' k hk' with q | q
     · exact hap k hk q
     · rcases hl' k hk with r | r
       · have := hlg3 k r; omega
       · omega
   · have b4 := hB3.trans ((below_fr hF4).mono s3)
     have b5 := b4.trans (hF5.toBelow (B := w2.heap.size) hlb (by omega))
     have b6 := b5.trans ((below_fr hF6).mono (by omega))
     exact b6.trans (hF7.toBelow (B := w2.heap.size) hhb (by omega))
   · show ((ts.length : Int) - ((m + 1 : Nat) : Int)).toNat < ((ts.length : Int) - (m : Int)).toNat
     omega
 have hmm : m = ts.length := by have := of_decide_eq_false hge; omega
 subst hmm
 have hB13 := hB2.trans (hB3.mono s2)
 have hB03 := hB1.trans (hB13.mono s1)
 have hd3 := hd.below hB03
 have hu3 := h.below hB03
 have hlogl := logN_len ts ws ts.length
 have hhoml := homN_len ts ws ts.length
 have nfp : ∀ k, w.heap.size ≤ k → ¬ fp k := fun k hk hf => by have := hd.lt hf; omega
 have hul : u < w.heap.size := h.lt
 refine put_wal hu3 hd3 hoff (Own.wrs hL3) (fun k hk => ⟨hL3.lt hk, nfp k (by have := hlb k hk; omega)⟩) (fun x hx => ?_) (by omega) hm0 (by omega) (by omega) fun fp4 w4 hd4 hG4 hu4 => ⟨fun _ => ?_, fun h => by simp at h⟩
 · simp only [logN, List.mem_map, List.mem_range] at hx
   obtain ⟨i, hi', rfl⟩ := hx
   have := htok i hi'
   exact ⟨by show (0 : Int) ≤ 1 + (i : Int); omega, by show 1 + (i : Int) < _; omega, this.2.2⟩
 obtain ⟨bb, l4, c2, c3⟩ := hu4.c23
 have hI4 := (hI2.below hB3).keep hG4.fr (fun k hk => nfp k (by have := hbk2 k hk; omega))
 have hH4 := hH3.keep hG4.fr (fun k hk => nfp k (by have := hhb k hk; omega))
 have s4 := hG4.size
 refine ⟨blk u, rfl, seq, hu4.c1, bb, c2, l4, c3, Next_head hI4 (by omega) (by omega) (by omega) fun l5 w5 hO5 hbk5 hB5 => ?_⟩
 have en : nextT ts = ts := up_ext (nextT_up ts).1 hup (nextT_up ts).2
 rw [en] at hO5
 have hv := valid_next (seq := seq + 1) (ts := ts) (by omega) (by omega) hup hlen htne htr
 obtain ⟨q1, q2, q3, q4, q5⟩ := wrN_facts d (logN ts ws ts.length)
 have d4l : (flushD (wrN d (logN ts ws ts.length))).l.length = d.l.length := q1
 have d4o : (flushD (wrN d (logN ts ws ts.length))).off = false := by rw [← hoff]; exact q2
 have d4m : (flushD (wrN d (logN ts ws ts.length))).many = d.many + ts.length := by have := q3; rw [hlogl] at this; exact this
 have d4w : (flushD (wrN d (logN ts ws ts.length))).ws = [] := rfl
 generalize hd4e : flushD (wrN d (logN ts ws ts.length)) = d4 at *
 refine putHead_wal (hu4.below hB5) (hd4.below hB5) d4o (Own.ints hO5) (fun k hk => hO5.lt hk) hv (by omega) (by omega) (by omega) (by omega) (by rw [d4w]; simp) fun fp6 w6 hd6 hG6 hu6 => ⟨fun _ => ?_, fun h => by simp at h⟩
 have d6l : (flushD (wr1 d4 (0, headB ⟨seq + 1, true, ts⟩))).l.length = d.l.length := by show (d4.l.set _ _).length = _; rw [List.length_set, d4l]
 have d6o : (flushD (wr1 d4 (0, headB ⟨seq + 1, true, ts⟩))).off = false := d4o
 have d6m : (flushD (wr1 d4 (0, headB ⟨seq + 1, true, ts⟩))).many = d.many + ts.length + 1 := by show d4.many + 1 = _; omega
 have d6w : (flushD (wr1 d4 (0, headB ⟨seq + 1, true, ts⟩))).ws = [] := rfl
 generalize hd6e : flushD (wr1 d4 (0, headB ⟨seq + 1, true, ts⟩)) = d6 at *
 have s5 := hB5.size
 have nfp4 : ∀ k, ho.bk k → ¬ fp4 k := fun k hk => hG4.out (hH3.lt hk) (nfp k (by have := hhb k hk; omega))
 have nu : ∀ k, ho.bk k → ¬ k = u := fun k hk he => by have := hhb k hk; omega
 have nfp5 : ∀ k, ho.bk k → ¬ (fp4 k ∨ k = u) := fun k hk hor => hor.elim (nfp4 k hk) (nu k hk)
 have hH5 := hH4.keep (fr_below hB5) (fun _ _ => id)
 have hH6 := hH5.keep hG6.fr nfp5
 refine write_wal hu6 hd6 d6o (Own.wrs hH6) (fun k hk => ⟨hH6.lt hk, fun hf => hG6.out (hH5.lt hk) (nfp5 k hk) (.inl hf)⟩) (fun x hx => ?_) (by omega) (by omega) ⟨by show 0 ≤ seq + 1; omega, by show seq + 1 ≤ _; omega⟩ (by omega) (by omega) (by rw [d6w, hhoml]; simp only [List.length_nil]; omega) fun fp7 w7 hd7 hG7 hu7 => ⟨fun h => by simp at h, fun _ => ?_⟩
 · simp only [homN, List.mem_map, List.mem_range] at hx
   obtain ⟨i, hi', rfl⟩ := hx
   have := htok i hi'
   exact ⟨by show (0 : Int) ≤ 111 + ts.getD i 0; omega, by show 111 + ts.getD i 0 < _; omega, this.2.2⟩
 have hG37 := (((hG4.more (· = u)).trans (Gr.below hB5)).trans hG6).trans hG7
 have hG07 := (Gr.below (fp := fun k => fp k ∨ k = u) hB03).trans hG37
 have hnu : ¬ fp7 u := hu7.apart hd7
 obtain ⟨l7, f7, o7⟩ := hu7
 refine ⟨blk u, rfl, commits, by rw [blk_cell o7]; rfl, blk u, rfl, blk_wr o7 (by simp [wlCells]), ?_⟩
 rw [w64_id (by omega) (by omega)]
 intro w8
 have o8 : w8.heap[u]? = some (.cells ⟨wlCells g l7 f7 ⟨seq + 1, false, commits + 1⟩⟩ T.y_wal_Wal (0, 0)) := by have := blk_set o7 5 (.int .i64 (commits + 1)); exact this
 have hF8 : Fr (· = u) w7 w8 := fr_set w7 u 5 _
 clear_value w8
 have ec : commitD d seq ws = flushD (wr1 (flushD (wrN d6 (homN ts ws ts.length))) (0, headB ⟨seq + 1, false, []⟩)) := by
   simp only [commitD, hts]
   rw [hd4e, hd6e]
 refine hR fp7 w8 hE0 hne ?_ ⟨l7, f7, o8⟩ (hG07.trans (Gr.of (hF8.mono fun _ _ h => .inr h)))
 rw [ec]
 exact hd7.keep hF8 (fun k hk he => hnu (by have : k = u := he; exact this ▸ hk))
end Go.Proofs.YtmokmbhhnbcelaaGreatDoor
