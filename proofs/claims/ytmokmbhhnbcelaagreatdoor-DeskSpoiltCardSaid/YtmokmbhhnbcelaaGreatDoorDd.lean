/- slices of writes: Clone, Insert, BinarySearchFunc. -/
import Derived.Test.YtmokmbhhnbcelaaGreatDoorRo
import Derived.Lib.Overlaps
set_option linter.unusedVariables false
namespace Go.Proofs.YtmokmbhhnbcelaaGreatDoor
open Go Go.Vc Go.RowKit Go.Lib

theorem wrCells_take (ns : List Wr1) (i : Nat) : (wrCells ns).take (i * 2) = wrCells (ns.take i) := by
  rcases Nat.le_total i ns.length with h | h
  · have e : wrCells ns = wrCells (ns.take i) ++ wrCells (ns.drop i) := by rw [← wrCells_app, List.take_append_drop]
    rw [e]
    have hl : (wrCells (ns.take i)).length = i * 2 := by rw [wrCells_len, List.length_take, Nat.min_eq_left h]
    rw [← hl, List.take_left]
  · rw [List.take_of_length_le (by rw [wrCells_len]; omega), List.take_of_length_le h]
theorem wrCells_drop (ns : List Wr1) (i : Nat) : (wrCells ns).drop (i * 2) = wrCells (ns.drop i) := by
  rcases Nat.le_total i ns.length with h | h
  · have e : wrCells ns = wrCells (ns.take i) ++ wrCells (ns.drop i) := by rw [← wrCells_app, List.take_append_drop]
    rw [e]
    have hl : (wrCells (ns.take i)).length = i * 2 := by rw [wrCells_len, List.length_take, Nat.min_eq_left h]
    rw [← hl, List.drop_left]
  · rw [List.drop_of_length_le (by rw [wrCells_len]; omega), List.drop_of_length_le h]; rfl

theorem Wrs.cell {w : World} {sl : Sl} {ns : List Wr1} (h : Wrs w sl ns) {a : Addr} (ha : sl.a = some a) : ∀ j u, (wrCells ns)[j]? = some u → w.cell? (a.add j) = some u := by
  intro j u hu
  have hlt : j < (wrCells ns).length := (List.getElem?_eq_some_iff.1 hu).1
  rw [wrCells_len] at hlt
  have hk : j / 2 < ns.length := by omega
  obtain ⟨h1, h2⟩ := wrCells_at ns (j / 2) ns[j / 2] (by simp [hk])
  obtain ⟨a', ha', hc1, hc2⟩ := h.2 (j / 2) ns[j / 2] (by simp [hk])
  rw [ha] at ha'
  injection ha' with ha'
  subst ha'
  rcases Nat.mod_two_eq_zero_or_one j with hm | hm
  · have e : j / 2 * 2 = j := by omega
    rw [e] at h1 hc1
    rw [h1] at hu
    injection hu with hu
    rw [← hu]; exact hc1
  · have e : j / 2 * 2 + 1 = j := by omega
    rw [e] at h2
    rw [add_add, e] at hc2
    rw [h2] at hu
    injection hu with hu
    rw [← hu]; exact hc2

theorem Wrs.some {w : World} {sl : Sl} {ns : List Wr1} (h : Wrs w sl ns) (hn : ns ≠ []) : ∃ a, sl.a = some a := by
  cases ns with
  | nil => exact absurd rfl hn
  | cons n r =>
    obtain ⟨a, ha, _⟩ := h.2 0 n rfl
    exact ⟨a, ha⟩

theorem ins_up {cur A X D : List Value} {i x d : Nat} (hA : cur.take i = A) (hAl : A.length = i) (hX : X.length = x) (hD : D.length = d) (hc : i + x + d ≤ cur.length) :
    ((cur.take i ++ X ++ cur.drop (i + X.length)).take (i + x) ++ D ++ (cur.take i ++ X ++ cur.drop (i + X.length)).drop (i + x + D.length)).take (i + x + d) = A ++ X ++ D ∧
    ((cur.take i ++ X ++ cur.drop (i + X.length)).take (i + x) ++ D ++ (cur.take i ++ X ++ cur.drop (i + X.length)).drop (i + x + D.length)).length = cur.length := by
  rw [hA]
  have h1 : (A ++ X ++ cur.drop (i + X.length)).take (i + x) = A ++ X := by
    rw [show i + x = (A ++ X).length by rw [List.length_append, hAl, hX]]; exact List.take_left
  rw [h1]
  constructor
  · rw [show i + x + d = (A ++ X ++ D).length by simp only [List.length_append, hAl, hX, hD]]; exact List.take_left
  · simp only [List.length_append, List.length_drop, hAl, hX, hD]; omega

theorem ins_at {cur A X D : List Value} {i x d : Nat} (hA : cur.take i = A) (hAl : A.length = i) (hX : X.length = x) (hD : D.length = d) (hc : i + x + d ≤ cur.length) :
    ((cur.take (i + x) ++ D ++ cur.drop (i + x + D.length)).take i ++ X ++ (cur.take (i + x) ++ D ++ cur.drop (i + x + D.length)).drop (i + X.length)).take (i + x + d) = A ++ X ++ D ∧
    ((cur.take (i + x) ++ D ++ cur.drop (i + x + D.length)).take i ++ X ++ (cur.take (i + x) ++ D ++ cur.drop (i + x + D.length)).drop (i + X.length)).length = cur.length := by
  have hl : (cur.take (i + x)).length = i + x := by rw [List.length_take]; omega
  have h1 : (cur.take (i + x) ++ D ++ cur.drop (i + x + D.length)).take i = A := by
    rw [List.append_assoc, List.take_append_of_le_length (by omega), List.take_take, Nat.min_eq_left (by omega), hA]
  have h2 : (cur.take (i + x) ++ D ++ cur.drop (i + x + D.length)).drop (i + X.length) = D ++ cur.drop (i + x + D.length) := by
    rw [List.append_assoc, hX, show i + x = (cur.take (i + x)).length by omega]
    simp only [hl]
    rw [show i + x = (cur.take (i + x)).length by omega]
    simp
  rw [h1, h2]
  constructor
  · rw [← List.append_assoc, show i + x + d = (A ++ X ++ D).length by simp only [List.length_append, hAl, hX, hD]]; exact List.take_left
  · simp only [List.length_append, List.length_drop, hAl, hX, hD]; omega

/-- one write is put into a slice of one's own -/
theorem Insert_one {w : World} {s : Sl} {xs : List Wr1} (hO : Own w T.y_api_Write 2 s (wrCells xs)) (hb : xs.length ≤ 1000000000) {h : Nat} {x : Wr1}
    (hh : w.heap[h]? = some (.cells ⟨wrCells [x]⟩ T.y_api_Write (0, 0))) (hsep : ¬ s.bk h) {i : Nat} (hi : i ≤ xs.length) {R : Sl → World → Prop}
    (hR : ∀ l w', Own w' T.y_api_Write 2 l (wrCells (xs.take i ++ [x] ++ xs.drop i)) → Fr s.bk w w' → Moved w s l → R l w') : F.slices_Insert_sl_api_Write_api_Write s i ⟨some (blk h), 1, 1⟩ w R := by
  obtain ⟨inf, hinf, hz, hs1, hby⟩ := info_wr
  apply E.slices_Insert_sl_api_Write_api_Write
  unfold V.slices_Insert_sl_api_Write_api_Write
  have hlen : s.len = xs.length := by have := hO.len; rw [wrCells_len] at this; omega
  have hx2 : (wrCells [x]).length = 2 := by rw [wrCells_len]; rfl
  have hsrc : ∀ j u, (wrCells [x])[j]? = some u → w.cell? ((blk h).add j) = some u := fun j u hu => by rw [blk_cell hh]; exact hu
  refine ⟨by omega, by rw [hlen]; omega, fun h0 => by simp at h0, fun _ => ⟨fun heq => ?_, fun hne => ?_⟩⟩
  · have heq : i = xs.length := by simp at heq; omega
    subst heq
    refine runT_append und_wr hinf hz hs1 hby rfl (by decide) hO (m := 1) (news := wrCells [x]) hx2 hsrc (wrCells_one _) (by simp only [maxLen]; omega) (by omega) fun l2 w2 ho hl hf hm => ?_
    refine hR l2 w2 ?_ hf hm
    rw [List.take_length, List.drop_length, List.append_nil, wrCells_app]; exact ho
  have hlt : i < xs.length := by simp at hne; omega
  have e1 : w64 ((xs.length : Int) + ((1 : Nat) : Int)) = ((xs.length + 1 : Nat) : Int) := by rw [w64_id (by omega) (by omega)]; omega
  have e2 : w64 ((i : Int) + ((1 : Nat) : Int)) = ((i + 1 : Nat) : Int) := by rw [w64_id (by omega) (by omega)]; omega
  have e3 : w64 (((xs.length + 1 : Nat) : Int) - (i : Int)) = ((xs.length + 1 - i : Nat) : Int) := by rw [w64_id (by omega) (by omega)]; omega
  have hn0 : s.len ≠ 0 := by omega
  obtain ⟨g, cur, ha, hg, hcl, htk, hlc, hcm⟩ := Own.row hO hn0
  simp only [e1, e2, e3, slA0, hlen, Int.toNat_natCast]
  refine ⟨fun hbig => ?_, fun hroom => ?_⟩
  · have hbig : s.cap < xs.length + 1 := by have := of_decide_eq_true hbig; omega
    refine ⟨by omega, by omega, ?_⟩
    have hpre := Own.pre hO (i := i) (by omega) hn0
    rw [wrCells_take] at hpre
    refine runT_append_zeros (l := ⟨s.a, i, s.cap⟩) und_wr und_int hinf hz hs1 hby rfl (by decide) (by decide) hpre (m := xs.length + 1 - i) (by omega) (by show (i + (xs.length + 1 - i)) * 24 ≤ _; omega) (by show s.cap < i + (xs.length + 1 - i); omega) fun cap' w1 hO1 hF1 hsz1 => ?_
    have hln : i + (xs.length + 1 - i) = xs.length + 1 := by omega
    simp only [hln] at hO1 ⊢
    obtain ⟨g1, cur1, ha1, hg1, hcl1, htk1, hlc1, hcm1⟩ := Own.row hO1 (by show xs.length + 1 ≠ 0; omega)
    simp only [Option.some.injEq, Addr.mk.injEq] at ha1
    have hgg : g1 = w.heap.size := by have := congrArg Addr.block (show blk w.heap.size = blk g1 by simpa using ha1); exact this.symm
    subst hgg
    simp only at hcl1 htk1 hlc1 hcm1
    have hgw := heap_lt hg
    have hA1 : cur1.take (i * 2) = wrCells (xs.take i) := by
      have h3 : (cur1.take ((xs.length + 1) * 2)).take (i * 2) = wrCells (xs.take i) := by
        rw [htk1, List.take_append_of_le_length (by rw [wrCells_len, List.length_take]; omega)]
        exact List.take_of_length_le (by rw [wrCells_len, List.length_take]; omega)
      rwa [List.take_take, Nat.min_eq_left (by omega)] at h3
    have hsrc1 : ∀ j u, (wrCells [x])[j]? = some u → w1.cell? ((blk h).add j) = some u := fun j u hu => by rw [blk_cell (hF1.heap hh id)]; exact hu
    rw [slA_ne (by omega)]
    refine ⟨by omega, by omega, ?_⟩
    refine runT_copy und_wr hinf hs1 hg1 (cs := wrCells [x]) (by rw [hx2, show Nat.min 1 (xs.length + 1 - i) = 1 from Nat.min_eq_left (by omega)]) hsrc1 (by rw [hx2, hcl1]; omega) (wrCells_one _) fun w2 hg2 hF2 hs2 => ?_
    have hg3 : w2.drew.heap[w.heap.size]? = _ := hg2
    have hF3 : Fr (· = w.heap.size) w1 w2.drew := hF2.trans (Fr.drew _ w2) (fun _ _ h => h)
    generalize w2.drew = w3 at hg3 hF3 ⊢
    have hO3 : Own w3 T.y_api_Write 2 s (wrCells xs) := (hO.keep hF1 (fun _ _ => id)).keep hF3 (fun k hk hh' => by have := hO.lt hk; have h5 : k = w.heap.size := hh'; omega)
    have hsrc3 : ∀ j u, (wrCells (xs.drop i))[j]? = some u → w3.cell? ((⟨g, i * 2, none⟩ : Addr).add j) = some u := fun j u hu => by
      rw [← add_blk, add_add]
      refine (Own.wrs hO3).cell ha (i * 2 + j) u ?_
      rw [← hu, ← wrCells_drop, List.getElem?_drop]
    have hdl : (wrCells (xs.drop i)).length = (xs.length - i) * 2 := by rw [wrCells_len, List.length_drop]
    refine ⟨by omega, by omega, by omega, by omega, ?_⟩
    rw [ha, slA_ne (by omega), slA_ne (by omega)]
    refine runT_copy und_wr hinf hs1 hg3 (cs := wrCells (xs.drop i)) (by rw [hdl, show Nat.min (xs.length - i) (xs.length + 1 - (i + 1)) = xs.length - i from Nat.min_eq_left (by omega)]) hsrc3 (by simp only [List.length_append, List.length_take, List.length_drop, hx2, hdl, hcl1]; omega) (wrCells_one _) fun w4 hg4 hF4 hs4 => ?_
    obtain ⟨q1, q2⟩ := ins_up (cur := cur1) (A := wrCells (xs.take i)) (X := wrCells [x]) (D := wrCells (xs.drop i)) (i := i * 2) (x := 2) (d := (xs.length - i) * 2) hA1 (by rw [wrCells_len, List.length_take]; omega) hx2 hdl (by rw [hcl1]; omega)
    have ei : (i + 1) * 2 = i * 2 + 2 := by omega
    rw [ei] at hg4
    refine hR _ w4 ?_ ?_ (.inr ⟨_, rfl, Nat.le_refl _⟩)
    · have h6 := Own.of (n := xs.length + 1) (cap := cap') hg4 (by rw [q2, hcl1]) hlc1 hcm1
      rw [show (xs.length + 1) * 2 = i * 2 + 2 + (xs.length - i) * 2 by omega, q1] at h6
      rw [wrCells_app, wrCells_app]
      exact h6
    · refine ((hF1.mono (S' := s.bk) (fun _ _ h => h.elim)).trans (S := s.bk) (hF3.trans (S := (· = w.heap.size)) hF4 (fun _ _ h => h)) (fun k hk h' => ?_))
      have h5 : k = w.heap.size := h'
      omega
  · have hroom : xs.length + 1 ≤ s.cap := by have := of_decide_eq_false hroom; omega
    have hbk : s.bk g := ⟨blk g, ha, rfl⟩
    have hgh : h ≠ g := fun hh' => hsep (hh' ▸ hbk)
    have hdl : (wrCells (xs.drop i)).length = (xs.length - i) * 2 := by rw [wrCells_len, List.length_drop]
    have hA1 : cur.take (i * 2) = wrCells (xs.take i) := by
      have h3 : (cur.take (s.len * 2)).take (i * 2) = wrCells (xs.take i) := by rw [htk, wrCells_take]
      rwa [List.take_take, Nat.min_eq_left (by omega)] at h3
    have hov : (callFunc 269 #[.slice (some (blk h)) 1 1, .slice (slA s.a s.cap (i + 1) 2) (xs.length + 1 - (i + 1)) (s.cap - (i + 1))]).run Pg w = .ok (.value (.bool false)) w := by
      rw [run_callFunc_extern (fn := Tryz.f269) Tryz.func269 (by kernel_rfl) (by kernel_rfl) (by kernel_rfl) (e := Extern.SlicesOverlaps.overlaps #[T.y_sl_api_Write, T.y_sl_api_Write] #[T.y_bool]) (by kernel_rfl)]
      rw [ha, slA_ne (by omega)]
      rw [run_overlaps_apart w T.y_sl_api_Write T.y_bool T.y_api_Write und_wr 2 (fun w => by simp [sizeOf, typeInfo, hinf, hs1]) (blk h) ⟨g, (i + 1) * 2, none⟩ 1 1 _ _ hgh T.y_api_Write T.y_api_Write 2 (s.cap * 2) ?_ ?_ (by omega) ?_ ?_]
      · rfl
      · simp [World.shape?, hh, hx2]
      · simp [World.shape?, hg, hcl]
      · exact frozen_of_row w h 0 _ _ hh
      · exact frozen_of_row w h 2 _ _ hh
    refine ⟨by omega, by omega, by omega, by omega, false, w, hov, fun _ => ?_, fun h' => by cases h'⟩
    have hF1 : Fr no w w.drew := Fr.drew no w
    generalize w.drew = w1 at hF1 ⊢
    have hg1 := hF1.heap hg id
    have hO1 := hO.keep hF1 (fun _ _ => id)
    have hh1 := hF1.heap hh id
    refine ⟨by omega, by omega, by omega, by omega, ?_⟩
    rw [ha, slA_ne (by omega), slA_ne (by omega)]
    have hsrc1 : ∀ j u, (wrCells (xs.drop i))[j]? = some u → w1.cell? ((⟨g, i * 2, none⟩ : Addr).add j) = some u := fun j u hu => by
      rw [← add_blk, add_add]
      refine (Own.wrs hO1).cell ha (i * 2 + j) u ?_
      rw [← hu, ← wrCells_drop, List.getElem?_drop]
    refine runT_copy und_wr hinf hs1 hg1 (cs := wrCells (xs.drop i)) (by rw [hdl, show Nat.min (xs.length + 1 - i) (xs.length + 1 - (i + 1)) = xs.length - i from (Nat.min_eq_right (by omega)).trans (by omega)]) hsrc1 (by rw [hdl, hcl]; omega) (wrCells_one _) fun w2 hg2 hF2 hs2 => ?_
    have hh2 := hF2.heap hh1 (fun h' => hgh h')
    have hsrc2 : ∀ j u, (wrCells [x])[j]? = some u → w2.cell? ((blk h).add j) = some u := fun j u hu => by rw [blk_cell hh2]; exact hu
    refine ⟨by omega, by omega, ?_⟩
    refine runT_copy und_wr hinf hs1 hg2 (cs := wrCells [x]) (by rw [hx2, show Nat.min 1 (xs.length + 1 - i) = 1 from Nat.min_eq_left (by omega)]) hsrc2 (by simp only [List.length_append, List.length_take, List.length_drop, hx2, hdl, hcl]; omega) (wrCells_one _) fun w3 hg3 hF3 hs3 => ?_
    have ei : (i + 1) * 2 = i * 2 + 2 := by omega
    rw [ei] at hg3
    obtain ⟨q1, q2⟩ := ins_at (cur := cur) (A := wrCells (xs.take i)) (X := wrCells [x]) (D := wrCells (xs.drop i)) (i := i * 2) (x := 2) (d := (xs.length - i) * 2) hA1 (by rw [wrCells_len, List.length_take]; omega) hx2 hdl (by rw [hcl]; omega)
    refine hR _ w3 ?_ ?_ (.inl ha.symm)
    · have h6 := Own.of (n := xs.length + 1) (cap := s.cap) hg3 (by rw [q2, hcl]) hroom hcm
      rw [show (xs.length + 1) * 2 = i * 2 + 2 + (xs.length - i) * 2 by omega, q1] at h6
      rw [wrCells_app, wrCells_app]
      exact h6
    · exact (hF1.mono (S' := s.bk) (fun _ _ h => h.elim)).trans (S := s.bk) (hF2.trans (S := (· = g)) hF3 (fun _ _ h => h)) (fun k _ h' => by have h5 : k = g := h'; rw [h5]; exact hbk)


theorem fn1_spec {a : Int} {s : Bs} {t : Int} {w : World} (h1 : -4611686018427387904 ≤ a ∧ a < 4611686018427387904) (h2 : -4611686018427387904 ≤ t ∧ t < 4611686018427387904) {R : Int → World → Prop} (hR : ∀ w', Below w.heap.size w w' → R (a - t) w') : F.desk_Desk_written_fn1 a (tx s) t w R := by
  apply E.desk_Desk_written_fn1
  unfold V.desk_Desk_written_fn1
  intro w1
  have hh : w1.heap[w.heap.size]? = some (.cells ⟨wrCells [(a, s)]⟩ T.y_api_Write (0, 0)) := heap_new w _
  have hB : Below w.heap.size w w1 := below_fr (Fr.alloc no w _)
  clear_value w1
  refine ⟨a, by rw [blk_cell0 hh]; rfl, ?_⟩
  rw [w64_id (by omega) (by omega)]
  exact hR w1 hB

theorem shr1 (x : Nat) : shr .u64 (x : Int) 1 = ((x / 2 : Nat) : Int) := by
  unfold shr
  have e : (min (1 : Int).toNat (IntKind.bits .u64)) = 1 := by decide
  rw [e, Int.fdiv_eq_ediv_of_nonneg _ (by decide)]
  omega

set_option maxHeartbeats 1000000 in
/-- the first write whose sector is not below t -/
theorem Search_writes {w : World} {sl : Sl} {xs : List Wr1} (hX : Wrs w sl xs) (hr : ∀ x ∈ xs, 0 ≤ x.1 ∧ x.1 < 1000000) (hup : Up (keysW xs)) (hl : xs.length ≤ 1000000) {t : Int} (ht : 0 ≤ t ∧ t < 1000000) {R : Int → Bool → World → Prop}
    (hR : ∀ (p : Nat) b w', p ≤ xs.length → (∀ (k : Nat) (x : Wr1), k < p → xs[k]? = some x → x.1 < t) → (∀ (k : Nat) (x : Wr1), p ≤ k → xs[k]? = some x → t ≤ x.1) → Below w.heap.size w w' → R p b w') : F.slices_BinarySearchFunc_sl_api_Write_api_Write_int sl t (.func (.func 216) #[] #[]) w R := by
  apply E.slices_BinarySearchFunc_sl_api_Write_api_Write_int
  unfold V.slices_BinarySearchFunc_sl_api_Write_api_Write_int
  have hlen := hX.1
  have hp : List.Pairwise (· < ·) (keysW xs) := by first | exact hup | simpa [Up] using hup
  have mono : ∀ (i j : Nat) (x y : Wr1), i < j → xs[i]? = some x → xs[j]? = some y → x.1 < y.1 := fun i j x y hij hx hy => by
    obtain ⟨hi, rfl⟩ := List.getElem?_eq_some_iff.1 hx
    obtain ⟨hj, rfl⟩ := List.getElem?_eq_some_iff.1 hy
    have := List.pairwise_iff_getElem.1 hp i j (by simpa [keysW] using hi) (by simpa [keysW] using hj) hij
    simpa [keysW] using this
  refine ⟨fun i j w' => ∃ a b : Nat, i = a ∧ j = b ∧ a ≤ b ∧ b ≤ xs.length ∧ (∀ (k : Nat) (x : Wr1), k < a → xs[k]? = some x → x.1 < t) ∧ (∀ (k : Nat) (x : Wr1), b ≤ k → xs[k]? = some x → t ≤ x.1) ∧ Below w.heap.size w w', fun i j _ => (j - i).toNat,
    ⟨0, xs.length, rfl, by rw [hlen], Nat.zero_le _, Nat.le_refl _, fun k x hk => absurd hk (Nat.not_lt_zero _), fun k x hk hx => (by rw [List.getElem?_eq_none hk] at hx; cases hx), Below.refl _ _⟩, ?_⟩
  rintro i j w1 ⟨a, b, rfl, rfl, hab, hb, hlo, hhi, hB⟩
  refine ⟨fun hlt => ?_, fun hge => ?_⟩
  · have hlt : a < b := by have := of_decide_eq_true hlt; omega
    have em : w64 (shr .u64 (wr .u64 (w64 ((a : Int) + (b : Int)))) 1) = (((a + b) / 2 : Nat) : Int) := by
      have e1 : w64 ((a : Int) + (b : Int)) = ((a + b : Nat) : Int) := by rw [w64_id (by omega) (by omega)]; omega
      rw [e1, wr64c _ (by omega), shr1, w64_id (by omega) (by omega)]
    have e2 : w64 ((((a + b) / 2 : Nat) : Int) + 1) = (((a + b) / 2 + 1 : Nat) : Int) := by rw [w64_id (by omega) (by omega)]; omega
    rw [em, e2]
    have hm1 : a ≤ (a + b) / 2 := by omega
    have hm2 : (a + b) / 2 < b := by omega
    generalize (a + b) / 2 = m at hm1 hm2
    have hml : m < xs.length := by omega
    have hgm : xs[m]? = some xs[m] := by simp [hml]
    obtain ⟨ad, ha, hc, hd⟩ := (hX.keep (fr_below hB) (fun _ _ => id)).2 m xs[m] hgm
    have hrm := hr xs[m] (List.getElem_mem _)
    refine ⟨by decide, ad, ha, by omega, by omega, xs[m].1, by simpa using hc, tx xs[m].2, by simpa using hd, 216, #[], #[], rfl, okChk_spec (by kernel_rfl), ?_⟩
    show F.desk_Desk_written_fn1 xs[m].1 (tx xs[m].2) t w1 _
    refine fn1_spec (by omega) (by omega) fun w2 hB2 => ?_
    have hB' := hB.trans (hB2.mono hB.size)
    refine ⟨fun hn => ?_, fun hn => ?_⟩
    · have hn := of_decide_eq_true hn
      refine ⟨⟨m + 1, b, rfl, rfl, by omega, hb, fun k x hk hx => ?_, hhi, hB'⟩, ?_⟩
      · rcases Nat.lt_or_ge k m with h | h
        · have := mono k m x xs[m] h hx hgm; omega
        · have : k = m := by omega
          subst this
          rw [hgm] at hx; injection hx with hx; rw [← hx]; omega
      · show ((b : Int) - ((m + 1 : Nat) : Int)).toNat < ((b : Int) - (a : Int)).toNat
        omega
    · have hn := of_decide_eq_false hn
      refine ⟨⟨a, m, rfl, rfl, hm1, by omega, hlo, fun k x hk hx => ?_, hB'⟩, ?_⟩
      · rcases Nat.lt_or_ge m k with h | h
        · have := mono m k xs[m] x h hgm hx; omega
        · have : k = m := by omega
          subst this
          rw [hgm] at hx; injection hx with hx; rw [← hx]; omega
      · show ((m : Int) - (a : Int)).toNat < ((b : Int) - (a : Int)).toNat
        omega
  · have hge : a = b := by have := of_decide_eq_false hge; omega
    subst hge
    refine ⟨fun hlt => ?_, fun hlt => hR a false w1 hb hlo hhi hB⟩
    have hlt : a < xs.length := by have := of_decide_eq_true hlt; omega
    have hgm : xs[a]? = some xs[a] := by simp [hlt]
    obtain ⟨ad, ha, hc, hd⟩ := (hX.keep (fr_below hB) (fun _ _ => id)).2 a xs[a] hgm
    have hrm := hr xs[a] (List.getElem_mem _)
    refine ⟨ad, ha, by omega, by omega, xs[a].1, by simpa using hc, tx xs[a].2, by simpa using hd, 216, #[], #[], rfl, okChk_spec (by kernel_rfl), ?_⟩
    show F.desk_Desk_written_fn1 xs[a].1 (tx xs[a].2) t w1 _
    exact fn1_spec (by omega) (by omega) fun w2 hB2 => hR a _ w2 hb hlo hhi (hB.trans (hB2.mono hB.size))

end Go.Proofs.YtmokmbhhnbcelaaGreatDoor

/- desk: what a desk is; Format, Bad, New, Get, Set. -/
set_option linter.unusedVariables false
namespace Go.Proofs.YtmokmbhhnbcelaaGreatDoor
open Go Go.Vc Go.RowKit Go.Lib Go.Maps Go.Proofs

/-- what a desk has: the disk, the number of the head, how many commits and syncs, which sectors would be in use, what is on it -/
structure DkV where
  d : Ds
  seq : Int
  commits : Int
  syncs : Int
  bs : List Bool
  ws : List Wr1

theorem layRoom_len' (bs : List Bool) (h : bs.length ≤ 1900) : (layRoom bs).length = 256 := by
  unfold layRoom
  exact sealS_len (by decide) (by rw [roomBytes_len]; omega)

/-- a desk that may be; c bounds what was done -/
structure DOk (c : Nat) (D : DkV) : Prop where
  q : Quiet D.d D.seq
  len : D.bs.length + 111 = D.d.l.length
  u0 : D.bs.getD 0 false = true
  u1 : D.bs.getD 1 false = true
  ws : ∀ x ∈ D.ws, 0 ≤ x.1 ∧ x.1 < (D.bs.length : Int) ∧ x.1 ≠ 1 ∧ x.2.length = 256
  wl : D.ws.length ≤ c
  seq : 0 ≤ D.seq ∧ D.seq ≤ c
  com : 0 ≤ D.commits ∧ D.commits ≤ c
  syn : 0 ≤ D.syncs ∧ D.syncs ≤ c
  many : D.d.many ≤ 1000 * c

structure DeskA (w : World) (k u g r b : Nat) (fpd fpr : Nat → Prop) (D : DkV) : Prop where
  obj : w.heap[k]? = some (.cells ⟨[.pointer (some (blk u)), .pointer (some (blk r)), .map (some b), .int .i64 D.syncs, .int .i64 0]⟩ T.y_desk_Desk (0, 0))
  wl : Wl w u g ⟨D.seq, false, D.commits⟩
  dk : Dsk w g fpd D.d
  rm : Room w r fpr D.bs
  mp : MapOf w b D.ws

def fpK (k u b : Nat) (fpd fpr : Nat → Prop) : Nat → Prop := fun j => j = k ∨ j = u ∨ j = b ∨ fpd j ∨ fpr j

theorem MapOf.obj {w : World} {b : Nat} {ws : List Wr1} (h : MapOf w b ws) : ∃ es c, w.heap[b]? = some (.map es c) := by
  obtain ⟨D, n, ⟨es, c, hb, _⟩, _⟩ := h
  exact ⟨es, c, hb⟩
theorem MapOf.apart {w : World} {b : Nat} {ws : List Wr1} (h : MapOf w b ws) {k : Nat} {cs : Array Value} {t : TypeId} (hk : w.heap[k]? = some (.cells cs t (0, 0))) : ¬ b = k := fun e => by
  obtain ⟨es, c, hb⟩ := h.obj
  subst e
  rw [hk] at hb
  cases hb

section
variable {w : World} {k u g r b : Nat} {fpd fpr : Nat → Prop} {D : DkV} {c : Nat}

theorem DeskA.keep {w' : World} (h : DeskA w k u g r b fpd fpr D) {Z : Nat → Prop} (hf : Fr Z w w') (hz : ∀ j, fpK k u b fpd fpr j → ¬ Z j) : DeskA w' k u g r b fpd fpr D :=
  ⟨hf.heap h.obj (hz k (.inl rfl)), h.wl.keep hf (hz u (.inr (.inl rfl))), h.dk.keep hf (fun j hj => hz j (.inr (.inr (.inr (.inl hj))))), h.rm.keep hf (fun j hj => hz j (.inr (.inr (.inr (.inr hj))))), h.mp.keep hf (hz b (.inr (.inr (.inl rfl))))⟩
theorem DeskA.below {w' : World} (h : DeskA w k u g r b fpd fpr D) (hB : Below w.heap.size w w') : DeskA w' k u g r b fpd fpr D := h.keep (fr_below hB) (fun _ _ => id)
theorem DeskA.lt (h : DeskA w k u g r b fpd fpr D) {j : Nat} (hj : fpK k u b fpd fpr j) : j < w.heap.size := by
  rcases hj with rfl | rfl | rfl | hj | hj
  · exact heap_lt h.obj
  · exact h.wl.lt
  · exact h.mp.lt
  · exact h.dk.lt hj
  · exact h.rm.lt hj
theorem DeskA.c0 (h : DeskA w k u g r b fpd fpr D) : w.cell? (blk k) = some (.pointer (some (blk u))) := by rw [blk_cell0 h.obj]; rfl
theorem DeskA.c1 (h : DeskA w k u g r b fpd fpr D) : w.cell? ((blk k).add 1) = some (.pointer (some (blk r))) := by rw [blk_cell h.obj]; rfl
theorem DeskA.c2 (h : DeskA w k u g r b fpd fpr D) : w.cell? ((blk k).add 2) = some (.map (some b)) := by rw [blk_cell h.obj]; rfl
theorem DeskA.c3 (h : DeskA w k u g r b fpd fpr D) : w.cell? ((blk k).add 3) = some (.int .i64 D.syncs) := by rw [blk_cell h.obj]; rfl
theorem DeskA.c4 (h : DeskA w k u g r b fpd fpr D) : w.cell? ((blk k).add 4) = some (.int .i64 0) := by rw [blk_cell h.obj]; rfl

theorem Dsk.typ {fp : Nat → Prop} {d : Ds} (h : Dsk w g fp d) {j : Nat} (hj : fp j) : ∃ cs t, w.heap[j]? = some (.cells cs t (0, 0)) ∧ (t = T.y_disk_Disk ∨ t = T.y_string ∨ t = T.y_api_Write) := by
  obtain ⟨L, S, Wn, h, rfl⟩ := h
  rcases hj with rfl | hj | hj | hj
  · exact ⟨_, _, h.obj, .inl rfl⟩
  · obtain ⟨cs, ht⟩ := Own.typ h.ol hj; exact ⟨cs, _, ht, .inr (.inl rfl)⟩
  · obtain ⟨cs, ht⟩ := Own.typ h.os hj; exact ⟨cs, _, ht, .inr (.inl rfl)⟩
  · obtain ⟨cs, ht⟩ := Own.typ h.ow hj; exact ⟨cs, _, ht, .inr (.inr rfl)⟩

/-- the parts of a desk lie apart -/
structure DeskSep (k u b : Nat) (fpd fpr : Nat → Prop) : Prop where
  ku : ¬ k = u
  bk : ¬ b = k
  bu : ¬ b = u
  dk : ¬ fpd k
  du : ¬ fpd u
  db : ¬ fpd b
  rk : ¬ fpr k
  ru : ¬ fpr u
  rb : ¬ fpr b
  dr : ∀ j, fpd j → ¬ fpr j
theorem DeskA.sep (h : DeskA w k u g r b fpd fpr D) : DeskSep k u b fpd fpr := by
  obtain ⟨l, f, hu⟩ := h.wl
  refine ⟨fun e => ?_, h.mp.apart h.obj, h.mp.apart hu, h.dk.apart h.obj (by decide) (by decide) (by decide), h.dk.apart hu (by decide) (by decide) (by decide), fun hj => ?_, h.rm.apart h.obj (by decide) (by decide), h.rm.apart hu (by decide) (by decide), fun hj => ?_, fun j hj hj' => ?_⟩
  · subst e; exact typ_ne h.obj hu (by decide)
  · obtain ⟨cs, t, ht, _⟩ := h.dk.typ hj; exact h.mp.apart ht rfl
  · obtain ⟨cs, t, ht, _⟩ := h.rm.typ hj; exact h.mp.apart ht rfl
  · obtain ⟨cs, t, ht, h1⟩ := h.dk.typ hj
    obtain ⟨cs', t', ht', h2⟩ := h.rm.typ hj'
    rcases h1 with rfl | rfl | rfl <;> rcases h2 with rfl | rfl <;> exact typ_ne ht ht' (by decide)

theorem Bad_desk (h : DeskA w k u g r b fpd fpr D) {R : Int → World → Prop} (hR : R 0 w) : F.desk_Desk_Bad (some (blk k)) w R := by
  apply E.desk_Desk_Bad
  unfold V.desk_Desk_Bad
  exact ⟨fun h => by simp at h, fun _ => ⟨blk k, rfl, 0, h.c4, hR⟩⟩

theorem zeros_desk {R : ByteArray → World → Prop} (hR : ∀ w', Below w.heap.size w w' → R (tx zeroS) w') : F.desk_zeros w R := by
  apply E.desk_zeros
  unfold V.desk_zeros
  exact strings_Repeat_spec (n := 256) (by decide) hR

def bs0 (n : Nat) : List Bool := usedL n [0, 1]
def fmtW (n : Nat) : List Wr1 := [(0, zeroS), (1, layRoom (bs0 n))]
def fmtD (d : Ds) (seq : Int) (n : Nat) : DkV := ⟨commitD d seq (fmtW n), seq + 1, 1, 0, bs0 n, []⟩

theorem bs0_len (n : Nat) : (bs0 n).length = n := usedL_len n _

theorem fmt_lastE {d : Ds} {seq : Int} (hq : Quiet d seq) : lastE (sizeD d) (fmtW (d.l.length - 111)) = 0 := by
  have hlo := hq.lo
  have hhi := hq.hi
  refine lastE_ok (fun x hx => ?_) (Nat.le_trans (nextT_len _) (by show 2 ≤ 110; decide))
  have hs : sizeD d = (d.l.length : Int) - 111 := rfl
  simp only [fmtW, List.mem_cons, List.not_mem_nil, or_false] at hx
  rcases hx with rfl | rfl
  · exact ⟨by decide, by show (0 : Int) < _; omega, zeroS_len⟩
  · exact ⟨by show (0 : Int) ≤ 1; decide, by show (1 : Int) < _; omega, layRoom_len' _ (by rw [bs0_len]; omega)⟩

theorem fmt_len2 (n : Nat) : (nextT (keysW (fmtW n))).length ≤ 2 := Nat.le_trans (nextT_len _) (Nat.le_refl _)

theorem fmt_ok {d : Ds} {seq : Int} (hq : Quiet d seq) (hs : 0 ≤ seq ∧ seq ≤ 1000) (hm : d.many ≤ 1000) : DOk 1001 (fmtD d seq (d.l.length - 111)) := by
  have hlo := hq.lo
  have hE := fmt_lastE hq
  obtain ⟨q1, q2, q3, q4⟩ := commit_facts hq hs.1 (by omega) hE
  have hn := bs0_len (d.l.length - 111)
  have hg : ∀ i, i < 2 → (bs0 (d.l.length - 111)).getD i false = true := fun i hi => by
    unfold bs0
    rw [usedL_get _ _ (by simp) (by omega)]
    have : (i : Int) = 0 ∨ (i : Int) = 1 := by omega
    rcases this with h | h <;> simp [h]
  have hl2 := fmt_len2 (d.l.length - 111)
  refine ⟨q1, by show (bs0 _).length + 111 = (commitD _ _ _).l.length; rw [q2, hn]; omega, hg 0 (by decide), hg 1 (by decide), fun x hx => (by cases hx), Nat.zero_le _, ⟨by show 0 ≤ seq + 1; omega, by show seq + 1 ≤ _; omega⟩, ⟨by show (0 : Int) ≤ 1; decide, by show (1 : Int) ≤ 1001; decide⟩, ⟨by show (0 : Int) ≤ 0; decide, by show (0 : Int) ≤ 1001; decide⟩, ?_⟩
  show (commitD _ _ _).many ≤ _
  rw [q3]; omega

set_option maxHeartbeats 2000000 in
theorem Format_desk {d : Ds} {seq : Int} (hd : Dsk w g fpd d) (hq : Quiet d seq) (hs : 0 ≤ seq ∧ seq ≤ 1000000) (hm : d.many ≤ 1000000000) {R : Option Addr → Int → World → Prop}
    (hR : ∀ k u r b fpd' fpr w', DeskA w' k u g r b fpd' fpr (fmtD d seq (d.l.length - 111)) → (∀ j, (j = k ∨ j = u ∨ j = b ∨ fpr j) → w.heap.size ≤ j) → Gr fpd fpd' w w' → R (some (blk k)) 0 w') : F.desk_Format (some (blk g)) w R := by
  have hlo := hq.lo
  have hhi := hq.hi
  apply E.desk_Format
  unfold V.desk_Format
  apply E.desk_opened
  unfold V.desk_opened
  refine Open_quiet hd hq fun u w1 hu1 hub hB1 => ⟨fun _ => ⟨fun h => by simp at h, fun _ => ?_⟩, fun h => by simp at h⟩
  have hd1 := hd.below hB1
  refine Size_wal hu1 hd1 (by omega) ?_
  intro w2
  have h2 : w2.heap[w1.heap.size]? = some (.cells ⟨intCells [0, 1]⟩ T.y_int (0, 0)) := heap_new w1 _
  have hB2 : Below w1.heap.size w1 w2 := below_fr (Fr.alloc no w1 _)
  clear_value w2
  have en : sizeD d = ((d.l.length - 111 : Nat) : Int) := by unfold sizeD; omega
  rw [en]
  have s1 := hB1.size
  have s2 := hB2.size
  refine New_room (n := d.l.length - 111) (by omega) (by omega) (Ints.row (vs := [0, 1]) h2 2 2 rfl) (fun j hj => by
    obtain ⟨a, ha, rfl⟩ := hj
    injection ha with ha
    subst ha
    exact heap_lt h2) (by decide) (fun w' hbad _ => absurd (fun x hx => by
      simp only [List.mem_cons, List.not_mem_nil, or_false] at hx
      rcases hx with rfl | rfl
      · exact ⟨by decide, by omega⟩
      · exact ⟨by decide, by omega⟩) hbad) fun r fpr w3 _ hr3 hfr3 hB3 => ⟨fun h => by simp at h, fun _ => ?_⟩
  have s3 := hB3.size
  have hbl := bs0_len (d.l.length - 111)
  have hr3 : Room w3 r fpr (bs0 (d.l.length - 111)) := hr3
  refine Lay_room hr3 (by omega) (by omega) fun w4 hB4 => ?_
  refine zeros_desk fun w5 hB5 => ?_
  intro w6
  have h6 : w6.heap[w5.heap.size]? = some (.cells ⟨wrCells (fmtW (d.l.length - 111))⟩ T.y_api_Write (0, 0)) := heap_new w5 _
  have hB6 : Below w5.heap.size w5 w6 := below_fr (Fr.alloc no w5 _)
  clear_value w6
  have s4 := hB4.size
  have s5 := hB5.size
  have s6 := hB6.size
  have hB36 : Below w3.heap.size w3 w6 := (hB4.trans (hB5.mono s4)).trans (hB6.mono (by omega))
  have hB16 : Below w1.heap.size w1 w6 := (hB2.trans (hB3.mono s2)).trans (hB36.mono (by omega))
  have hd6 := hd1.below hB16
  have hu6 := hu1.below hB16
  have hr6 := hr3.below hB36
  have hE := fmt_lastE hq
  refine Commit_wal (sl := ⟨some (blk w5.heap.size), 2, 2⟩) hu6 hd6 hq.off (Wrs.row h6 2 2 rfl) (fun j hj => by
    obtain ⟨a, ha, rfl⟩ := hj
    injection ha with ha
    subst ha
    exact heap_lt h6) (by show 2 ≤ 1000000; decide) hlo hhi hs.1 (by omega) (by decide) (by decide) hq.many (by omega) (by have := hq.ws; omega) (fun w' hne => absurd hE hne) (fun w' he => by simp [fmtW] at he) fun fpd7 w7 _ _ hd7 hu7 hG7 => ⟨fun h => by simp at h, fun _ => ?_⟩
  have hul := hu6.lt
  have ndr : ∀ j, fpr j → ¬ (fpd j ∨ j = u) := fun j hj hor => by
    have := hfr3 j hj
    rcases hor with h | h
    · have := hd1.lt h; omega
    · have := hu1.lt; omega
  have hr7 := hr6.keep hG7.fr ndr
  intro w8
  have hm8 : MapOf w8 w7.heap.size [] := MapOf.made w7
  have hF8 : Fr no w7 w8 := Fr.alloc no w7 _
  have hz8 : w8.heap.size = w7.heap.size + 1 := by simp [w8]
  clear_value w8
  intro w9
  have h9 : w9.heap[w8.heap.size]? = some (.cells ⟨[.pointer (some (blk u)), .pointer (some (blk r)), .map (some w7.heap.size), .int .i64 0, .int .i64 0]⟩ T.y_desk_Desk (0, 0)) := heap_new w8 _
  have hF9 : Fr no w8 w9 := Fr.alloc no w8 _
  clear_value w9
  have hB79 : Below w7.heap.size w7 w9 := (below_fr hF8).trans ((below_fr hF9).mono hF8.size)
  have s7 := hG7.size
  have hG09 : Gr (fun j => fpd j ∨ j = u) (fun j => fpd7 j ∨ j = u) w w9 := ((Gr.below (fp := fun j => fpd j ∨ j = u) (hB1.trans (hB16.mono s1))).trans hG7).trans (Gr.below hB79)
  have hsep7 := hu7.apart hd7
  refine hR w8.heap.size u r w7.heap.size fpd7 fpr w9 ⟨h9, hu7.below hB79, hd7.below hB79, hr7.below hB79, hm8.keep hF9 id⟩ (fun j hj => ?_) ⟨hG09.fr.mono fun j hj hor => ?_, fun j hj => ?_⟩
  · rcases hj with rfl | rfl | rfl | hj
    · omega
    · exact hub
    · omega
    · have := hfr3 j hj; omega
  · rcases hor with h | h
    · exact h
    · omega
  · rcases hG09.new j (.inl hj) with h | h
    · rcases h with h | h
      · exact .inl h
      · subst h; exact .inr hub
    · exact .inr h

theorem New_desk (h : DeskA w k u g r b fpd fpr D) (hk : DOk c D) (hc : c ≤ 1000000) {data : Bs} (hdl : data.length ≤ 1000000000) {R : Int → Int → World → Prop}
    (hA : data.length ≠ 256 → R 0 1 w) (hF : data.length = 256 → freeAt D.bs = D.bs.length → R 0 20 w)
    (hR : ∀ w', data.length = 256 → freeAt D.bs < D.bs.length → DeskA w' k u g r b fpd fpr { D with bs := D.bs.set (freeAt D.bs) true, ws := D.ws ++ [((freeAt D.bs : Int), data)] } → Gr (fpK k u b fpd fpr) (fpK k u b fpd fpr) w w' → R (freeAt D.bs) 0 w') : F.desk_Desk_New (some (blk k)) (tx data) w R := by
  apply E.desk_Desk_New
  unfold V.desk_Desk_New
  have S := h.sep
  have hlen := hk.len
  have hhi := hk.q.hi
  refine Bad_desk h ⟨fun h => by simp at h, fun _ => ⟨fun hne => ?_, fun hne => ?_⟩⟩
  · rw [tx_size] at hne
    exact hA (by have : ((data.length : Int)) ≠ 256 := by simpa using hne
                 omega)
  rw [tx_size] at hne
  have hne : data.length = 256 := by have : ((data.length : Int)) = 256 := by simpa using hne
                                     omega
  refine ⟨blk k, rfl, some (blk r), h.c1, Take_room h.rm (by omega) (fun hf => ⟨fun _ => hF hne hf, fun h => by simp at h⟩) fun w1 hlt hr1 hF1 => ⟨fun h => by simp at h, fun _ => ?_⟩⟩
  intro w2
  have hr2 : Room w2 r fpr (D.bs.set (freeAt D.bs) true) := hr1.keep (Fr.drew no w1) (fun _ _ => id)
  have hF2 : Fr fpr w w2 := hF1.trans (S' := no) (Fr.drew no w1) (fun _ _ hk => hk.elim)
  clear_value w2
  have obj2 := hF2.heap h.obj S.rk
  refine ⟨blk k, rfl, some b, by rw [blk_cell obj2]; rfl, ?_⟩
  apply E.strings_Clone
  unfold V.strings_Clone
  refine Clone_spec (by omega) fun w3 hB3 => ?_
  have obj3 := (fr_below hB3).heap obj2 id
  have hm3 := (h.mp.keep hF2 S.rb).keep (fr_below hB3) id
  refine ⟨by rw [blk_cell obj3]; rfl, ?_⟩
  have hwl := hk.wl
  refine hm3.put (by omega) (by omega) (by omega) fun w4 hm4 hF4 => ?_
  have hu4 := ((h.wl.keep hF2 S.ru).below hB3).keep hF4 (fun e => S.bu e.symm)
  have hd4 := ((h.dk.keep hF2 S.dr).below hB3).keep hF4 (fun j hj e => S.db (by have : j = b := e; exact this ▸ hj))
  have hr4 := (hr2.below hB3).keep hF4 (fun j hj e => S.rb (by have : j = b := e; exact this ▸ hj))
  refine hR w4 hne hlt ⟨hF4.heap obj3 (fun e => S.bk e.symm), hu4, hd4, hr4, hm4⟩ (Gr.of ?_)
  have a1 := hF2.mono (S' := fpK k u b fpd fpr) (fun _ _ hj => .inr (.inr (.inr (.inr hj))))
  have a2 := a1.trans (S' := no) (fr_below hB3) (fun _ _ hj => hj.elim)
  exact a2.trans (S' := (· = b)) hF4 (fun _ _ hj => .inr (.inr (.inl hj)))

theorem DOk.mono {c' : Nat} (h : DOk c D) (hc : c ≤ c') : DOk c' D :=
  ⟨h.q, h.len, h.u0, h.u1, h.ws, Nat.le_trans h.wl hc, ⟨h.seq.1, by have := h.seq.2; omega⟩, ⟨h.com.1, by have := h.com.2; omega⟩, ⟨h.syn.1, by have := h.syn.2; omega⟩, by have := h.many; omega⟩

theorem free_false {bs : List Bool} (h : freeAt bs < bs.length) : bs.getD (freeAt bs) false = false := by
  have h2 : (!(bs[freeAt bs])) = true := List.findIdx_getElem (w := h)
  have e : bs.getD (freeAt bs) false = bs[freeAt bs] := by simp [h]
  rw [e]
  cases hb : bs[freeAt bs] with
  | false => rfl
  | true => rw [hb] at h2; cases h2
theorem free_ge2 (h : DOk c D) (hlt : freeAt D.bs < D.bs.length) : 2 ≤ freeAt D.bs := by
  have hlo := h.q.lo
  have hlen := h.len
  have hf := free_false hlt
  have n0 : ¬ freeAt D.bs = 0 := fun e => by
    have h0 := h.u0
    rw [← e, hf] at h0
    cases h0
  have n1 : ¬ freeAt D.bs = 1 := fun e => by
    have h0 := h.u1
    rw [← e, hf] at h0
    cases h0
  omega

theorem DOk.new (h : DOk c D) (hlt : freeAt D.bs < D.bs.length) {data : Bs} (hd : data.length = 256) : DOk (c + 1) { D with bs := D.bs.set (freeAt D.bs) true, ws := D.ws ++ [((freeAt D.bs : Int), data)] } := by
  have h2 := free_ge2 h hlt
  have g : ∀ i, i < 2 → (D.bs.set (freeAt D.bs) true).getD i false = D.bs.getD i false := fun i hi => by
    simp only [List.getD_eq_getElem?_getD]
    rw [List.getElem?_set_ne (by omega)]
  refine ⟨h.q, by show (D.bs.set _ _).length + 111 = _; rw [List.length_set]; exact h.len, by show (D.bs.set _ _).getD 0 false = _; rw [g 0 (by decide)]; exact h.u0, by show (D.bs.set _ _).getD 1 false = _; rw [g 1 (by decide)]; exact h.u1, fun x hx => ?_, by show (D.ws ++ _).length ≤ _; have := h.wl; simp; omega,
    ⟨h.seq.1, by show D.seq ≤ _; have := h.seq.2; omega⟩, ⟨h.com.1, by show D.commits ≤ _; have := h.com.2; omega⟩, ⟨h.syn.1, by show D.syncs ≤ _; have := h.syn.2; omega⟩, by show D.d.many ≤ _; have := h.many; omega⟩
  show _ ∧ x.1 < ((D.bs.set _ _).length : Int) ∧ _
  rw [List.length_set]
  rcases List.mem_append.1 hx with hx | hx
  · exact h.ws x hx
  · simp only [List.mem_cons, List.not_mem_nil, or_false] at hx
    subst hx
    exact ⟨by show (0 : Int) ≤ _; omega, by show ((freeAt D.bs : Nat) : Int) < _; omega, by show ((freeAt D.bs : Nat) : Int) ≠ 1; omega, hd⟩
end

end Go.Proofs.YtmokmbhhnbcelaaGreatDoor
