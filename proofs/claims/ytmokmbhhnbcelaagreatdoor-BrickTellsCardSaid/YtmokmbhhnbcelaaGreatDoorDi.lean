/- slices of writes: Clone, Insert, BinarySearchFunc. -/
import Derived.Test.YtmokmbhhnbcelaaGreatDoorRo
import Derived.Lib.Overlaps
set_option linter.unusedVariables false
namespace Go.Proofs.YtmokmbhhnbcelaaGreatDoor
open Go Go.Vc Go.RowKit Go.Lib
theorem wrCells_take (ns : List Wr1) (i : Nat) : (wrCells ns).take (i * 2) = wrCells (ns.take i) := by
 rcases Nat.le_total i ns.length with h | h
 · have e : wrCells ns = wrCells (ns.take i) ++ wrCells (ns.drop i) := by rw [← wrCells_app, List.take_append_drop]
   rw [e]
   have hl : (wrCells (ns.take i)).length = i * 2 := by rw [wrCells_len, List.length_take, Nat.min_eq_left h]
   rw [← hl, List.take_left]
 · rw [List.take_of_length_le (by rw [wrCells_len]; omega), List.take_of_length_le h]
theorem wrCells_drop (ns : List Wr1) (i : Nat) : (wrCells ns).drop (i * 2) = wrCells (ns.drop i) := by
 rcases Nat.le_total i ns.length with h | h
 · have e : wrCells ns = wrCells (ns.take i) ++ wrCells (ns.drop i) := by rw [← wrCells_app, List.take_append_drop]
   rw [e]
   have hl : (wrCells (ns.take i)).length = i * 2 := by rw [wrCells_len, List.length_take, Nat.min_eq_left h]
   rw [← hl, List.drop_left]
 · rw [List.drop_of_length_le (by rw [wrCells_len]; omega), List.drop_of_length_le h]; rfl
theorem Wrs.cell {w : World} {sl : Sl} {ns : List Wr1} (h : Wrs w sl ns) {a : Addr} (ha : sl.a = some a) : ∀ j u, (wrCells ns)[j]? = some u → w.cell? (a.add j) = some u := by
 intro j u hu
 have hlt : j < (wrCells ns).length := (List.getElem?_eq_some_iff.1 hu).1
 rw [wrCells_len] at hlt
 have hk : j / 2 < ns.length := by omega
 obtain ⟨h1, h2⟩ := wrCells_at ns (j / 2) ns[j / 2] (by simp [hk])
 obtain ⟨a', ha', hc1, hc2⟩ := h.2 (j / 2) ns[j / 2] (by simp [hk])
 rw [ha] at ha'
 injection ha' with ha'
 subst ha'
 rcases Nat.mod_two_eq_zero_or_one j with hm | hm
 · have e : j / 2 * 2 = j := by omega
   rw [e] at h1 hc1
   rw [h1] at hu
   injection hu with hu
   rw [← hu]; exact hc1
 · have e : j / 2 * 2 + 1 = j := by omega
   rw [e] at h2
   rw [add_add, e] at hc2
   rw [h2] at hu
   injection hu with hu
   rw [← hu]; exact hc2
theorem ins_up {cur A X D : List Value} {i x d : Nat} (hA : cur.take i = A) (hAl : A.length = i) (hX : X.length = x) (hD : D.length = d) (hc : i + x + d ≤ cur.length) :
   ((cur.take i ++ X ++ cur.drop (i + X.length)).take (i + x) ++ D ++ (cur.take i ++ X ++ cur.drop (i + X.length)).drop (i + x + D.length)).take (i + x + d) = A ++ X ++ D ∧
   ((cur.take i ++ X ++ cur.drop (i + X.length)).take (i + x) ++ D ++ (cur.take i ++ X ++ cur.drop (i + X.length)).drop (i + x + D.length)).length = cur.length := by
 rw [hA]
 have h1 : (A ++ X ++ cur.drop (i + X.length)).take (i + x) = A ++ X := by
   rw [show i + x = (A ++ X).length by rw [List.length_append, hAl, hX]]; exact List.take_left
 rw [h1]
 constructor
 · rw [show i + x + d = (A ++ X ++ D).length by simp only [List.length_append, hAl, hX, hD]]; exact List.take_left
 · simp only [List.length_append, List.length_drop, hAl, hX, hD]; omega
theorem ins_at {cur A X D : List Value} {i x d : Nat} (hA : cur.take i = A) (hAl : A.length = i) (hX : X.length = x) (hD : D.length = d) (hc : i + x + d ≤ cur.length) :
   ((cur.take (i + x) ++ D ++ cur.drop (i + x + D.length)).take i ++ X ++ (cur.take (i + x) ++ D ++ cur.drop (i + x + D.length)).drop (i + X.length)).take (i + x + d) = A ++ X ++ D ∧
   ((cur.take (i + x) ++ D ++ cur.drop (i + x + D.length)).take i ++ X ++ (cur.take (i + x) ++ D ++ cur.drop (i + x + D.length)).drop (i + X.length)).length = cur.length := by
 have hl : (cur.take (i + x)).length = i + x := by rw [List.length_take]; omega
 have h1 : (cur.take (i + x) ++ D ++ cur.drop (i + x + D.length)).take i = A := by
   rw [List.append_assoc, List.take_append_of_le_length (by omega), List.take_take, Nat.min_eq_left (by omega), hA]
 have h2 : (cur.take (i + x) ++ D ++ cur.drop (i + x + D.length)).drop (i + X.length) = D ++ cur.drop (i + x + D.length) := by
   rw [List.append_assoc, hX, show i + x = (cur.take (i + x)).length by omega]
   simp only [hl]
   rw [show i + x = (cur.take (i + x)).length by omega]
   simp
 rw [h1, h2]
 constructor
 · rw [← List.append_assoc, show i + x + d = (A ++ X ++ D).length by simp only [List.length_append, hAl, hX, hD]]; exact List.take_left
 · simp only [List.length_append, List.length_drop, hAl, hX, hD]; omega
/-- one write is put into a slice of one's own -/
theorem Insert_one {w : World} {s : Sl} {xs : List Wr1} (hO : Own w T.y_api_Write 2 s (wrCells xs)) (hb : xs.length ≤ 1000000000) {h : Nat} {x : Wr1}
   (hh : w.heap[h]? = some (.cells ⟨wrCells [x]⟩ T.y_api_Write (0, 0))) (hsep : ¬ s.bk h) {i : Nat} (hi : i ≤ xs.length) {R : Sl → World → Prop}
   (hR : ∀ l w', Own w' T.y_api_Write 2 l (wrCells (xs.take i ++ [x] ++ xs.drop i)) → Fr s.bk w w' → Moved w s l → R l w') : F.slices_Insert_sl_api_Write_api_Write s i ⟨some (blk h), 1, 1⟩ w R := by
 obtain ⟨inf, hinf, hz, hs1, hby⟩ := info_wr
 apply E.slices_Insert_sl_api_Write_api_Write
 unfold V.slices_Insert_sl_api_Write_api_Write
 have hlen : s.len = xs.length := by have := hO.len; rw [wrCells_len] at this; omega
 have hx2 : (wrCells [x]).length = 2 := by rw [wrCells_len]; rfl
 have hsrc : ∀ j u, (wrCells [x])[j]? = some u → w.cell? ((blk h).add j) = some u := fun j u hu => by rw [blk_cell hh]; exact hu
 refine ⟨by omega, by rw [hlen]; omega, fun h0 => by simp at h0, fun _ => ⟨fun heq => ?_, fun hne => ?_⟩⟩
 · have heq : i = xs.length := by simp at heq; omega
   subst heq
   refine runT_append und_wr hinf hz hs1 hby rfl (by decide) hO (m := 1) (news := wrCells [x]) hx2 hsrc (wrCells_one _) (by simp only [maxLen]; omega) (by omega) fun l2 w2 ho hl hf hm => ?_
   refine hR l2 w2 ?_ hf hm
   rw [List.take_length, List.drop_length, List.append_nil, wrCells_app]; exact ho
 have hlt : i < xs.length := by simp at hne; omega
 have e1 : w64 ((xs.length : Int) + ((1 : Nat) : Int)) = ((xs.length + 1 : Nat) : Int) := by rw [w64_id (by omega) (by omega)]; omega
 have e2 : w64 ((i : Int) + ((1 : Nat) : Int)) = ((i + 1 : Nat) : Int) := by rw [w64_id (by omega) (by omega)]; omega
 have e3 : w64 (((xs.length + 1 : Nat) : Int) - (i : Int)) = ((xs.length + 1 - i : Nat) : Int) := by rw [w64_id (by omega) (by omega)]; omega
 have hn0 : s.len ≠ 0 := by omega
 obtain ⟨g, cur, ha, hg, hcl, htk, hlc, hcm⟩ := Own.row hO hn0
 simp only [e1, e2, e3, slA0, hlen, Int.toNat_natCast]
 refine ⟨fun hbig => ?_, fun hroom => ?_⟩
 · have hbig : s.cap < xs.length + 1 := by have := of_decide_eq_true hbig; omega
   refine ⟨by omega, by omega, ?_⟩
   have hpre := Own.pre hO (i := i) (by omega) hn0
   rw [wrCells_take] at hpre
   refine runT_append_zeros (l := ⟨s.a, i, s.cap⟩) und_wr und_int hinf hz hs1 hby rfl (by decide) (by decide) hpre (m := xs.length + 1 - i) (by omega) (by show (i + (xs.length + 1 - i)) * 24 ≤ _; omega) (by show s.cap < i + (xs.length + 1 - i); omega) fun cap' w1 hO1 hF1 hsz1 => ?_
   have hln : i + (xs.length + 1 - i) = xs.length + 1 := by omega
   simp only [hln] at hO1 ⊢
   obtain ⟨g1, cur1, ha1, hg1, hcl1, htk1, hlc1, hcm1⟩ := Own.row hO1 (by show xs.length + 1 ≠ 0; omega)
   simp only [Option.some.injEq, Addr.mk.injEq] at ha1
   have hgg : g1 = w.heap.size := by have := congrArg Addr.block (show blk w.heap.size = blk g1 by simpa using ha1); exact this.symm
   subst hgg
   simp only at hcl1 htk1 hlc1 hcm1
   have hgw := heap_lt hg
   have hA1 : cur1.take (i * 2) = wrCells (xs.take i) := by
     have h3 : (cur1.take ((xs.length + 1) * 2)).take (i * 2) = wrCells (xs.take i) := by
       rw [htk1, List.take_append_of_le_length (by rw [wrCells_len, List.length_take]; omega)]
       exact List.take_of_length_le (by rw [wrCells_len, List.length_take]; omega)
     rwa [List.take_take, Nat.min_eq_left (by omega)] at h3
   have hsrc1 : ∀ j u, (wrCells [x])[j]? = some u → w1.cell? ((blk h).add j) = some u := fun j u hu => by rw [blk_cell (hF1.heap hh id)]; exact hu
   rw [slA_ne (by omega)]
   refine ⟨by omega, by omega, ?_⟩
   refine runT_copy und_wr hinf hs1 hg1 (cs := wrCells [x]) (by rw [hx2, show Nat.min 1 (xs.length + 1 - i) = 1 from Nat.min_eq_left (by omega)]) hsrc1 (by rw [hx2, hcl1]; omega) (wrCells_one _) fun w2 hg2 hF2 hs2 => ?_
   have hg3 : w2.drew.heap[w.heap.size]? = _ := hg2
   have hF3 : Fr (· = w.heap.size) w1 w2.drew := hF2.trans (Fr.drew _ w2) (fun _ _ h => h)
   generalize w2.drew = w3 at hg3 hF3 ⊢
   have hO3 : Own w3 T.y_api_Write 2 s (wrCells xs) := (hO.keep hF1 (fun _ _ => id)).keep hF3 (fun k hk hh' => by have := hO.lt hk; have h5 : k = w.heap.size := hh'; omega)
   have hsrc3 : ∀ j u, (wrCells (xs.drop i))[j]? = some u → w3.cell? ((⟨g, i * 2, none⟩ : Addr).add j) = some u := fun j u hu => by
     rw [← add_blk, add_add]
     refine (Own.wrs hO3).cell ha (i * 2 + j) u ?_
     rw [← hu, ← wrCells_drop, List.getElem?_drop]
   have hdl : (wrCells (xs.drop i)).length = (xs.length - i) * 2 := by rw [wrCells_len, List.length_drop]
   refine ⟨by omega, by omega, by omega, by omega, ?_⟩
   rw [ha, slA_ne (by omega), slA_ne (by omega)]
   refine runT_copy und_wr hinf hs1 hg3 (cs := wrCells (xs.drop i)) (by rw [hdl, show Nat.min (xs.length - i) (xs.length + 1 - (i + 1)) = xs.length - i from Nat.min_eq_left (by omega)]) hsrc3 (by simp only [List.length_append, List.length_take, List.length_drop, hx2, hdl, hcl1]; omega) (wrCells_one _) fun w4 hg4 hF4 hs4 => ?_
   obtain ⟨q1, q2⟩ := ins_up (cur := cur1) (A := wrCells (xs.take i)) (X := wrCells [x]) (D := wrCells (xs.drop i)) (i := i * 2) (x := 2) (d := (xs.length - i) * 2) hA1 (by rw [wrCells_len, List.length_take]; omega) hx2 hdl (by rw [hcl1]; omega)
   have ei : (i + 1) * 2 = i * 2 + 2 := by omega
   rw [ei] at hg4
   refine hR _ w4 ?_ ?_ (.inr ⟨_, rfl, Nat.le_refl _⟩)
   · have h6 := Own.of (n := xs.length + 1) (cap := cap') hg4 (by rw [q2, hcl1]) hlc1 hcm1
     rw [show (xs.length + 1) * 2 = i * 2 + 2 + (xs.length - i) * 2 by omega, q1] at h6
     rw [wrCells_app, wrCells_app]
     exact h6
   · refine ((hF1.mono (S' := s.bk) (fun _ _ h => h.elim)).trans (S := s.bk) (hF3.trans (S := (· = w.heap.size)) hF4 (fun _ _ h => h)) (fun k hk h' => ?_))
     have h5 : k = w.heap.size := h'
     omega
 · have hroom : xs.length + 1 ≤ s.cap := by have := of_decide_eq_false hroom; omega
   have hbk : s.bk g := ⟨blk g, ha, rfl⟩
   have hgh : h ≠ g := fun hh' => hsep (hh' ▸ hbk)
   have hdl : (wrCells (xs.drop i)).length = (xs.length - i) * 2 := by rw [wrCells_len, List.length_drop]
   have hA1 : cur.take (i * 2) = wrCells (xs.take i) := by
     have h3 : (cur.take (s.len * 2)).take (i * 2) = wrCells (xs.take i) := by rw [htk, wrCells_take]
     rwa [List.take_take, Nat.min_eq_left (by omega)] at h3
   have hov : (callFunc 269 #[.slice (some (blk h)) 1 1, .slice (slA s.a s.cap (i + 1) 2) (xs.length + 1 - (i + 1)) (s.cap - (i + 1))]).run Pg w = .ok (.value (.bool false)) w := by
     rw [run_callFunc_extern (fn := Tryz.f269) Tryz.func269 (by kernel_rfl) (by kernel_rfl) (by kernel_rfl) (e := Extern.SlicesOverlaps.overlaps #[T.y_sl_api_Write, T.y_sl_api_Write] #[T.y_bool]) (by kernel_rfl)]
     rw [ha, slA_ne (by omega)]
     rw [run_overlaps_apart w T.y_sl_api_Write T.y_bool T.y_api_Write und_wr 2 (fun w => by simp [sizeOf, typeInfo, hinf, hs1]) (blk h) ⟨g, (i + 1) * 2, none⟩ 1 1 _ _ hgh T.y_api_Write T.y_api_Write 2 (s.cap * 2) ?_ ?_ (by omega) ?_ ?_]
     · rfl
     · simp [World.shape?, hh, hx2]
     · simp [World.shape?, hg, hcl]
     · exact frozen_of_row w h 0 _ _ hh
     · exact frozen_of_row w h 2 _ _ hh
   refine ⟨by omega, by omega, by omega, by omega, false, w, hov, fun _ => ?_, fun h' => by cases h'⟩
   have hF1 : Fr no w w.drew := Fr.drew no w
   generalize w.drew = w1 at hF1 ⊢
   have hg1 := hF1.heap hg id
   have hO1 := hO.keep hF1 (fun _ _ => id)
   have hh1 := hF1.heap hh id
   refine ⟨by omega, by omega, by omega, by omega, ?_⟩
   rw [ha, slA_ne (by omega), slA_ne (by omega)]
   have hsrc1 : ∀ j u, (wrCells (xs.drop i))[j]? = some u → w1.cell? ((⟨g, i * 2, none⟩ : Addr).add j) = some u := fun j u hu => by
     rw [← add_blk, add_add]
     refine (Own.wrs hO1).cell ha (i * 2 + j) u ?_
     rw [← hu, ← wrCells_drop, List.getElem?_drop]
   refine runT_copy und_wr hinf hs1 hg1 (cs := wrCells (xs.drop i)) (by rw [hdl, show Nat.min (xs.length + 1 - i) (xs.length + 1 - (i + 1)) = xs.length - i from (Nat.min_eq_right (by omega)).trans (by omega)]) hsrc1 (by rw [hdl, hcl]; omega) (wrCells_one _) fun w2 hg2 hF2 hs2 => ?_
   have hh2 := hF2.heap hh1 (fun h' => hgh h')
   have hsrc2 : ∀ j u, (wrCells [x])[j]? = some u → w2.cell? ((blk h).add j) = some u := fun j u hu => by rw [blk_cell hh2]; exact hu
   refine ⟨by omega, by omega, ?_⟩
   refine runT_copy und_wr hinf hs1 hg2 (cs := wrCells [x]) (by rw [hx2, show Nat.min 1 (xs.length + 1 - i) = 1 from Nat.min_eq_left (by omega)]) hsrc2 (by simp only [List.length_append, List.length_take, List.length_drop, hx2, hdl, hcl]; omega) (wrCells_one _) fun w3 hg3 hF3 hs3 => ?_
   have ei : (i + 1) * 2 = i * 2 + 2 := by omega
   rw [ei] at hg3
   obtain ⟨q1, q2⟩ := ins_at (cur := cur) (A := wrCells (xs.take i)) (X := wrCells [x]) (D := wrCells (xs.drop i)) (i := i * 2) (x := 2) (d := (xs.length - i) * 2) hA1 (by rw [wrCells_len, List.length_take]; omega) hx2 hdl (by rw [hcl]; omega)
   refine hR _ w3 ?_ ?_ (.inl ha.symm)
   · have h6 := Own.of (n := xs.length + 1) (cap := s.cap) hg3 (by rw [q2, hcl]) hroom hcm
     rw [show (xs.length + 1) * 2 = i * 2 + 2 + (xs.length - i) * 2 by omega, q1] at h6
     rw [wrCells_app, wrCells_app]
     exact h6
   · exact (hF1.mono (S' := s.bk) (fun _ _ h => h.elim)).trans (S := s.bk) (hF2.trans (S := (· = g)) hF3 (fun _ _ h => h)) (fun k _ h' => by have h5 : k = g := h'; rw [h5]; exact hbk)
theorem fn1_spec {a : Int} {s : Bs} {t : Int} {w : World} (h1 : -4611686018427387904 ≤ a ∧ a < 4611686018427387904) (h2 : -4611686018427387904 ≤ t ∧ t < 4611686018427387904) {R : Int → World → Prop} (hR : ∀ w', Below w.heap.size w w' → R (a - t) w') : F.desk_Desk_written_fn1 a (tx s) t w R := by
 apply E.desk_Desk_written_fn1
 unfold V.desk_Desk_written_fn1
 intro w1
 have hh : w1.heap[w.heap.size]? = some (.cells ⟨wrCells [(a, s)]⟩ T.y_api_Write (0, 0)) := heap_new w _
 have hB : Below w.heap.size w w1 := below_fr (Fr.alloc no w _)
 clear_value w1
 refine ⟨a, by rw [blk_cell0 hh]; rfl, ?_⟩
 rw [w64_id (by omega) (by omega)]
 exact hR w1 hB
theorem shr1 (x : Nat) : shr .u64 (x : Int) 1 = ((x / 2 : Nat) : Int) := by
 unfold shr
 have e : (min (1 : Int).toNat (IntKind.bits .u64)) = 1 := by decide
 rw [e, Int.fdiv_eq_ediv_of_nonneg _ (by decide)]
 omega
set_option maxHeartbeats 1000000 in
/-- the first write whose sector is not below t -/
theorem Search_writes {w : World} {sl : Sl} {xs : List Wr1} (hX : Wrs w sl xs) (hr : ∀ x ∈ xs, 0 ≤ x.1 ∧ x.1 < 1000000) (hup : Up (keysW xs)) (hl : xs.length ≤ 1000000) {t : Int} (ht : 0 ≤ t ∧ t < 1000000) {R : Int → Bool → World → Prop}
   (hR : ∀ (p : Nat) b w', p ≤ xs.length → (∀ (k : Nat) (x : Wr1), k < p → xs[k]? = some x → x.1 < t) → (∀ (k : Nat) (x : Wr1), p ≤ k → xs[k]? = some x → t ≤ x.1) → Below w.heap.size w w' → R p b w') : F.slices_BinarySearchFunc_sl_api_Write_api_Write_int sl t (.func (.func 216) #[] #[]) w R := by
 apply E.slices_BinarySearchFunc_sl_api_Write_api_Write_int
 unfold V.slices_BinarySearchFunc_sl_api_Write_api_Write_int
 have hlen := hX.1
 have hp : List.Pairwise (· < ·) (keysW xs) := by first | exact hup | simpa [Up] using hup
 have mono : ∀ (i j : Nat) (x y : Wr1), i < j → xs[i]? = some x → xs[j]? = some y → x.1 < y.1 := fun i j x y hij hx hy => by
   obtain ⟨hi, rfl⟩ := List.getElem?_eq_some_iff.1 hx
   obtain ⟨hj, rfl⟩ := List.getElem?_eq_some_iff.1 hy
   have := List.pairwise_iff_getElem.1 hp i j (by simpa [keysW] using hi) (by simpa [keysW] using hj) hij
   simpa [keysW] using this
 refine ⟨fun i j w' => ∃ a b : Nat, i = a ∧ j = b ∧ a ≤ b ∧ b ≤ xs.length ∧ (∀ (k : Nat) (x : Wr1), k < a → xs[k]? = some x → x.1 < t) ∧ (∀ (k : Nat) (x : Wr1), b ≤ k → xs[k]? = some x → t ≤ x.1) ∧ Below w.heap.size w w', fun i j _ => (j - i).toNat,
   ⟨0, xs.length, rfl, by rw [hlen], Nat.zero_le _, Nat.le_refl _, fun k x hk => absurd hk (Nat.not_lt_zero _), fun k x hk hx => (by rw [List.getElem?_eq_none hk] at hx; cases hx), Below.refl _ _⟩, ?_⟩
 rintro i j w1 ⟨a, b, rfl, rfl, hab, hb, hlo, hhi, hB⟩
 refine ⟨fun hlt => ?_, fun hge => ?_⟩
 · have hlt : a < b := by have := of_decide_eq_true hlt; omega
   have em : w64 (shr .u64 (wr .u64 (w64 ((a : Int) + (b : Int)))) 1) = (((a + b) / 2 : Nat) : Int) := by
     have e1 : w64 ((a : Int) + (b : Int)) = ((a + b : Nat) : Int) := by rw [w64_id (by omega) (by omega)]; omega
     rw [e1, wr64c _ (by omega), shr1, w64_id (by omega) (by omega)]
   have e2 : w64 ((((a + b) / 2 : Nat) : Int) + 1) = (((a + b) / 2 + 1 : Nat) : Int) := by rw [w64_id (by omega) (by omega)]; omega
   rw [em, e2]
   have hm1 : a ≤ (a + b) / 2 := by omega
   have hm2 : (a + b) / 2 < b := by omega
   generalize (a + b) / 2 = m at hm1 hm2
   have hml : m < xs.length := by omega
   have hgm : xs[m]? = some xs[m] := by simp [hml]
   obtain ⟨ad, ha, hc, hd⟩ := (hX.keep (fr_below hB) (fun _ _ => id)).2 m xs[m] hgm
   have hrm := hr xs[m] (List.getElem_mem _)
   refine ⟨by decide, ad, ha, by omega, by omega, xs[m].1, by simpa using hc, tx xs[m].2, by simpa using hd, 216, #[], #[], rfl, okChk_spec (by kernel_rfl), ?_⟩
   show F.desk_Desk_written_fn1 xs[m].1 (tx xs[m].2) t w1 _
   refine fn1_spec (by omega) (by omega) fun w2 hB2 => ?_
   have hB' := hB.trans (hB2.mono hB.size)
   refine ⟨fun hn => ?_, fun hn => ?_⟩
   · have hn := of_decide_eq_true hn
     refine ⟨⟨m + 1, b, rfl, rfl, by omega, hb, fun k x hk hx => ?_, hhi, hB'⟩, ?_⟩
     · rcases Nat.lt_or_ge k m with h | h
       · have := mono k m x xs[m] h hx hgm; omega
       · have : k = m := by omega
         subst this
         rw [hgm] at hx; injection hx with hx; rw [← hx]; omega
     · show ((b : Int) - ((m + 1 : Nat) : Int)).toNat < ((b : Int) - (a : Int)).toNat
       omega
   · have hn := of_decide_eq_false hn
     refine ⟨⟨a, m, rfl, rfl, hm1, by omega, hlo, fun k x hk hx => ?_, hB'⟩, ?_⟩
     · rcases Nat.lt_or_ge m k with h | h
       · have := mono m k xs[m] x h hgm hx; omega
       · have : k = m := by omega
         subst this
         rw [hgm] at hx; injection hx with hx; rw [← hx]; omega
     · show ((m : Int) - (a : Int)).toNat < ((b : Int) - (a : Int)).toNat
       omega
 · have hge : a = b := by have := of_decide_eq_false hge; omega
   subst hge
   refine ⟨fun hlt => ?_, fun hlt => hR a false w1 hb hlo hhi hB⟩
   have hlt : a < xs.length := by have := of_decide_eq_true hlt; omega
   have hgm : xs[a]? = some xs[a] := by simp [hlt]
   obtain ⟨ad, ha, hc, hd⟩ := (hX.keep (fr_below hB) (fun _ _ => id)).2 a xs[a] hgm
   have hrm := hr xs[a] (List.getElem_mem _)
   refine ⟨ad, ha, by omega, by omega, xs[a].1, by simpa using hc, tx xs[a].2, by simpa using hd, 216, #[], #[], rfl, okChk_spec (by kernel_rfl), ?_⟩
   show F.desk_Desk_written_fn1 xs[a].1 (tx xs[a].2) t w1 _
   exact fn1_spec (by omega) (by omega) fun w2 hB2 => hR a _ w2 hb hlo hhi (hB.trans (hB2.mono hB.size))
end Go.Proofs.YtmokmbhhnbcelaaGreatDoor
