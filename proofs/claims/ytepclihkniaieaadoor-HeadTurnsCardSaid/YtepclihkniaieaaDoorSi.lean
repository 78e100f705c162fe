/- slices of names: Clone, Insert; table.Set. -/
import Derived.Test.YtepclihkniaieaaDoorSl
import Derived.Lib.Overlaps
set_option linter.unusedVariables false
namespace Go.Proofs.YtepclihkniaieaaDoor
open Go Go.Vc Go.RowKit Go.Lib

theorem slA0 (a : Option Addr) (cap size : Nat) : slA a cap 0 size = a := by
  unfold slA
  split
  · rfl
  · cases a with
    | none => rfl
    | some x => simp [Addr.add]
theorem slA_ne {g cap l size : Nat} (h : cap ≠ l) : slA (some (blk g)) cap l size = some ⟨g, l * size, none⟩ := by
  simp [slA, h, add_blk]

theorem Own.row {w : World} {t : TypeId} {size : Nat} {l : Sl} {xs : List Value} (h : Own w t size l xs) (hn : l.len ≠ 0) :
    ∃ g cur, l.a = some (blk g) ∧ w.heap[g]? = some (.cells ⟨cur⟩ t (0, 0)) ∧ cur.length = l.cap * size ∧ cur.take (l.len * size) = xs ∧ l.len ≤ l.cap ∧ l.cap ≤ maxLen := by
  rcases h.2 with ⟨h2, h0⟩ | ⟨g, cap, cur, hv, hb, hg, hnc, hcm, hcs, htk⟩
  · exact absurd h0 hn
  · simp only [Value.slice.injEq] at hv
    obtain ⟨h1, _, h3⟩ := hv
    subst h3
    exact ⟨g, cur.toList, h1, hg, by simpa using hcs, htk, hnc, hcm⟩

theorem Own.of {w : World} {t : TypeId} {size : Nat} {g n cap : Nat} {cur : List Value} (hg : w.heap[g]? = some (.cells ⟨cur⟩ t (0, 0))) (hc : cur.length = cap * size) (hn : n ≤ cap) (hm : cap ≤ maxLen) : Own w t size ⟨some (blk g), n, cap⟩ (cur.take (n * size)) :=
  ⟨by rw [List.length_take, hc]; exact Nat.min_eq_left (Nat.mul_le_mul_right _ hn), .inr ⟨g, cap, ⟨cur⟩, rfl, Nat.zero_le _, hg, hn, hm, by simpa using hc, rfl⟩⟩

theorem Own.pre {w : World} {t : TypeId} {size : Nat} {l : Sl} {xs : List Value} (h : Own w t size l xs) {i : Nat} (hi : i ≤ l.len) (hn : l.len ≠ 0) : Own w t size ⟨l.a, i, l.cap⟩ (xs.take (i * size)) := by
  obtain ⟨g, cur, ha, hg, hc, ht, hlc, hm⟩ := Own.row h hn
  rw [ha, ← ht, List.take_take, Nat.min_eq_left (Nat.mul_le_mul_right _ hi)]
  exact Own.of hg hc (Nat.le_trans hi hlc) hm

theorem nameCells_take (ns : List (List UInt8 × Int)) (i : Nat) : (nameCells ns).take (i * 2) = nameCells (ns.take i) := by
  rcases Nat.le_total i ns.length with h | h
  · have e : nameCells ns = nameCells (ns.take i) ++ nameCells (ns.drop i) := by rw [← nameCells_app, List.take_append_drop]
    rw [e]
    have hl : (nameCells (ns.take i)).length = i * 2 := by rw [nameCells_len, List.length_take, Nat.min_eq_left h]
    rw [← hl, List.take_left]
  · rw [List.take_of_length_le (by rw [nameCells_len]; omega), List.take_of_length_le h]
theorem nameCells_drop (ns : List (List UInt8 × Int)) (i : Nat) : (nameCells ns).drop (i * 2) = nameCells (ns.drop i) := by
  rcases Nat.le_total i ns.length with h | h
  · have e : nameCells ns = nameCells (ns.take i) ++ nameCells (ns.drop i) := by rw [← nameCells_app, List.take_append_drop]
    rw [e]
    have hl : (nameCells (ns.take i)).length = i * 2 := by rw [nameCells_len, List.length_take, Nat.min_eq_left h]
    rw [← hl, List.drop_left]
  · rw [List.drop_of_length_le (by rw [nameCells_len]; omega), List.drop_of_length_le h]; rfl

theorem nameCells_one (ns : List (List UInt8 × Int)) : ∀ u ∈ nameCells ns, u.oneCell' = true := by
  intro u hu
  simp only [nameCells, List.mem_flatMap] at hu
  obtain ⟨n, _, hu⟩ := hu
  simp only [List.mem_cons, List.not_mem_nil, or_false] at hu
  rcases hu with rfl | rfl <;> rfl

theorem Names.cell {w : World} {sl : Sl} {ns : List (List UInt8 × Int)} (h : Names w sl ns) {a : Addr} (ha : sl.a = some a) : ∀ j u, (nameCells ns)[j]? = some u → w.cell? (a.add j) = some u := by
  intro j u hu
  have hlt : j < (nameCells ns).length := (List.getElem?_eq_some_iff.1 hu).1
  rw [nameCells_len] at hlt
  have hk : j / 2 < ns.length := by omega
  obtain ⟨h1, h2⟩ := nameCells_at ns (j / 2) ns[j / 2] (by simp [hk])
  obtain ⟨a', ha', hc1, hc2⟩ := h.2 (j / 2) ns[j / 2] (by simp [hk])
  rw [ha] at ha'
  injection ha' with ha'
  subst ha'
  rcases Nat.mod_two_eq_zero_or_one j with hm | hm
  · have e : j / 2 * 2 = j := by omega
    rw [e] at h1 hc1
    rw [h1] at hu
    injection hu with hu
    rw [← hu]; exact hc1
  · have e : j / 2 * 2 + 1 = j := by omega
    rw [e] at h2
    rw [add_add, e] at hc2
    rw [h2] at hu
    injection hu with hu
    rw [← hu]; exact hc2

theorem Names.some {w : World} {sl : Sl} {ns : List (List UInt8 × Int)} (h : Names w sl ns) (hn : ns ≠ []) : ∃ a, sl.a = some a := by
  cases ns with
  | nil => exact absurd rfl hn
  | cons n r =>
    obtain ⟨a, ha, _⟩ := h.2 0 n rfl
    exact ⟨a, ha⟩

theorem Clone_names {w : World} {sl : Sl} {ns : List (List UInt8 × Int)} (hN : Names w sl ns) (hb : ns.length ≤ 1000000000) {R : Sl → World → Prop}
    (hR : ∀ l w', Own w' T.y_table_Name 2 l (nameCells ns) → (∀ k, l.bk k → w.heap.size ≤ k) → Below w.heap.size w w' → R l w') : F.slices_Clone_sl_table_Name_table_Name sl w R := by
  obtain ⟨i, hi, hz, hs1, hby⟩ := info_name
  apply E.slices_Clone_sl_table_Name_table_Name
  unfold V.slices_Clone_sl_table_Name_table_Name
  refine ⟨fun h => ?_, fun h => ?_⟩
  · have hnil : ns = [] := by
      by_cases hns : ns = []
      · exact hns
      · obtain ⟨a, ha⟩ := hN.some hns
        rw [ha] at h; cases h
    subst hnil
    exact hR _ w (Own.nil _ _ _) (fun k hk => by obtain ⟨a, ha, _⟩ := hk; cases ha) (Below.refl _ _)
  · obtain ⟨a, ha⟩ : ∃ a, sl.a = some a := by
      cases ha : sl.a with
      | none => rw [ha] at h; cases h
      | some a => exact ⟨a, rfl⟩
    intro w1
    have hO1 : Own w1 T.y_table_Name 2 ⟨some (blk w.heap.size), 0, 0⟩ [] := World.ownsRow_made (base := 0) (size := 2) (e := T.y_table_Name) w #[] 0 (Nat.zero_le _) (Nat.zero_le _) rfl
    have hB1 : Below w.heap.size w w1 := below_fr (Fr.alloc no w _)
    clear_value w1
    have hN1 := hN.below hB1
    rw [ha]
    refine runT_append (l := ⟨some (blk w.heap.size), 0, 0⟩) und_names hi hz hs1 hby rfl (by decide) hO1 (m := sl.len) (news := nameCells ns) (by rw [nameCells_len, hN.1]) (hN1.cell ha) (nameCells_one ns) (by have := hN.1; simp only [maxLen]; omega) (by have := hN.1; show (0 + sl.len) * 24 ≤ _; omega) fun l2 w2 ho hl hf hm => ?_
    refine hR l2 w2 (by simpa using ho) (fun k hk => ?_) (hB1.trans (hf.toBelow (fun k hk => ?_) hB1.size))
    · rcases moved_bk hm hk with ⟨x, hx, hxb⟩ | h
      · injection hx with hx; subst hx; exact Nat.le_of_eq hxb
      · exact Nat.le_trans hB1.size h
    · obtain ⟨x, hx, hxb⟩ := hk
      injection hx with hx; subst hx; exact Nat.le_of_eq hxb

theorem ins_up {cur A X D : List Value} {i x d : Nat} (hA : cur.take i = A) (hAl : A.length = i) (hX : X.length = x) (hD : D.length = d) (hc : i + x + d ≤ cur.length) :
    ((cur.take i ++ X ++ cur.drop (i + X.length)).take (i + x) ++ D ++ (cur.take i ++ X ++ cur.drop (i + X.length)).drop (i + x + D.length)).take (i + x + d) = A ++ X ++ D ∧
    ((cur.take i ++ X ++ cur.drop (i + X.length)).take (i + x) ++ D ++ (cur.take i ++ X ++ cur.drop (i + X.length)).drop (i + x + D.length)).length = cur.length := by
  rw [hA]
  have h1 : (A ++ X ++ cur.drop (i + X.length)).take (i + x) = A ++ X := by
    rw [show i + x = (A ++ X).length by rw [List.length_append, hAl, hX]]; exact List.take_left
  rw [h1]
  constructor
  · rw [show i + x + d = (A ++ X ++ D).length by simp only [List.length_append, hAl, hX, hD]]; exact List.take_left
  · simp only [List.length_append, List.length_drop, hAl, hX, hD]; omega

theorem ins_at {cur A X D : List Value} {i x d : Nat} (hA : cur.take i = A) (hAl : A.length = i) (hX : X.length = x) (hD : D.length = d) (hc : i + x + d ≤ cur.length) :
    ((cur.take (i + x) ++ D ++ cur.drop (i + x + D.length)).take i ++ X ++ (cur.take (i + x) ++ D ++ cur.drop (i + x + D.length)).drop (i + X.length)).take (i + x + d) = A ++ X ++ D ∧
    ((cur.take (i + x) ++ D ++ cur.drop (i + x + D.length)).take i ++ X ++ (cur.take (i + x) ++ D ++ cur.drop (i + x + D.length)).drop (i + X.length)).length = cur.length := by
  have hl : (cur.take (i + x)).length = i + x := by rw [List.length_take]; omega
  have h1 : (cur.take (i + x) ++ D ++ cur.drop (i + x + D.length)).take i = A := by
    rw [List.append_assoc, List.take_append_of_le_length (by omega), List.take_take, Nat.min_eq_left (by omega), hA]
  have h2 : (cur.take (i + x) ++ D ++ cur.drop (i + x + D.length)).drop (i + X.length) = D ++ cur.drop (i + x + D.length) := by
    rw [List.append_assoc, hX, show i + x = (cur.take (i + x)).length by omega]
    simp only [hl]
    rw [show i + x = (cur.take (i + x)).length by omega]
    simp
  rw [h1, h2]
  constructor
  · rw [← List.append_assoc, show i + x + d = (A ++ X ++ D).length by simp only [List.length_append, hAl, hX, hD]]; exact List.take_left
  · simp only [List.length_append, List.length_drop, hAl, hX, hD]; omega

theorem und_int : Pg.underlying T.y_int = some (.int .i64) := by kernel_rfl

/-- one name is put into a slice of one's own -/
theorem Insert_one {w : World} {s : Sl} {xs : List (List UInt8 × Int)} (hO : Own w T.y_table_Name 2 s (nameCells xs)) (hb : xs.length ≤ 1000000000) {h : Nat} {x : List UInt8 × Int}
    (hh : w.heap[h]? = some (.cells ⟨nameCells [x]⟩ T.y_table_Name (0, 0))) (hsep : ¬ s.bk h) {i : Nat} (hi : i ≤ xs.length) {R : Sl → World → Prop}
    (hR : ∀ l w', Own w' T.y_table_Name 2 l (nameCells (xs.take i ++ [x] ++ xs.drop i)) → Fr s.bk w w' → Moved w s l → R l w') : F.slices_Insert_sl_table_Name_table_Name s i ⟨some (blk h), 1, 1⟩ w R := by
  obtain ⟨inf, hinf, hz, hs1, hby⟩ := info_name
  apply E.slices_Insert_sl_table_Name_table_Name
  unfold V.slices_Insert_sl_table_Name_table_Name
  have hlen : s.len = xs.length := by have := hO.len; rw [nameCells_len] at this; omega
  have hx2 : (nameCells [x]).length = 2 := by rw [nameCells_len]; rfl
  have hsrc : ∀ j u, (nameCells [x])[j]? = some u → w.cell? ((blk h).add j) = some u := fun j u hu => by rw [blk_cell hh]; exact hu
  refine ⟨by omega, by rw [hlen]; omega, fun h0 => by simp at h0, fun _ => ⟨fun heq => ?_, fun hne => ?_⟩⟩
  · have heq : i = xs.length := by simp at heq; omega
    subst heq
    refine runT_append und_names hinf hz hs1 hby rfl (by decide) hO (m := 1) (news := nameCells [x]) hx2 hsrc (nameCells_one _) (by simp only [maxLen]; omega) (by omega) fun l2 w2 ho hl hf hm => ?_
    refine hR l2 w2 ?_ hf hm
    rw [List.take_length, List.drop_length, List.append_nil, nameCells_app]; exact ho
  have hlt : i < xs.length := by simp at hne; omega
  have e1 : w64 ((xs.length : Int) + ((1 : Nat) : Int)) = ((xs.length + 1 : Nat) : Int) := by rw [w64_id (by omega) (by omega)]; omega
  have e2 : w64 ((i : Int) + ((1 : Nat) : Int)) = ((i + 1 : Nat) : Int) := by rw [w64_id (by omega) (by omega)]; omega
  have e3 : w64 (((xs.length + 1 : Nat) : Int) - (i : Int)) = ((xs.length + 1 - i : Nat) : Int) := by rw [w64_id (by omega) (by omega)]; omega
  have hn0 : s.len ≠ 0 := by omega
  obtain ⟨g, cur, ha, hg, hcl, htk, hlc, hcm⟩ := Own.row hO hn0
  simp only [e1, e2, e3, slA0, hlen, Int.toNat_natCast]
  refine ⟨fun hbig => ?_, fun hroom => ?_⟩
  · have hbig : s.cap < xs.length + 1 := by have := of_decide_eq_true hbig; omega
    refine ⟨by omega, by omega, ?_⟩
    have hpre := Own.pre hO (i := i) (by omega) hn0
    rw [nameCells_take] at hpre
    refine runT_append_zeros (l := ⟨s.a, i, s.cap⟩) und_names und_int hinf hz hs1 hby rfl (by decide) (by decide) hpre (m := xs.length + 1 - i) (by omega) (by show (i + (xs.length + 1 - i)) * 24 ≤ _; omega) (by show s.cap < i + (xs.length + 1 - i); omega) fun cap' w1 hO1 hF1 hsz1 => ?_
    have hln : i + (xs.length + 1 - i) = xs.length + 1 := by omega
    simp only [hln] at hO1 ⊢
    obtain ⟨g1, cur1, ha1, hg1, hcl1, htk1, hlc1, hcm1⟩ := Own.row hO1 (by show xs.length + 1 ≠ 0; omega)
    simp only [Option.some.injEq, Addr.mk.injEq] at ha1
    have hgg : g1 = w.heap.size := by have := congrArg Addr.block (show blk w.heap.size = blk g1 by simpa using ha1); exact this.symm
    subst hgg
    simp only at hcl1 htk1 hlc1 hcm1
    have hgw := heap_lt hg
    have hA1 : cur1.take (i * 2) = nameCells (xs.take i) := by
      have h3 : (cur1.take ((xs.length + 1) * 2)).take (i * 2) = nameCells (xs.take i) := by
        rw [htk1, List.take_append_of_le_length (by rw [nameCells_len, List.length_take]; omega)]
        exact List.take_of_length_le (by rw [nameCells_len, List.length_take]; omega)
      rwa [List.take_take, Nat.min_eq_left (by omega)] at h3
    have hsrc1 : ∀ j u, (nameCells [x])[j]? = some u → w1.cell? ((blk h).add j) = some u := fun j u hu => by rw [blk_cell (hF1.heap hh id)]; exact hu
    rw [slA_ne (by omega)]
    refine ⟨by omega, by omega, ?_⟩
    refine runT_copy und_names hinf hs1 hg1 (cs := nameCells [x]) (by rw [hx2, show Nat.min 1 (xs.length + 1 - i) = 1 from Nat.min_eq_left (by omega)]) hsrc1 (by rw [hx2, hcl1]; omega) (nameCells_one _) fun w2 hg2 hF2 hs2 => ?_
    have hg3 : w2.drew.heap[w.heap.size]? = _ := hg2
    have hF3 : Fr (· = w.heap.size) w1 w2.drew := hF2.trans (Fr.drew _ w2) (fun _ _ h => h)
    generalize w2.drew = w3 at hg3 hF3 ⊢
    have hO3 : Own w3 T.y_table_Name 2 s (nameCells xs) := (hO.keep hF1 (fun _ _ => id)).keep hF3 (fun k hk hh' => by have := hO.lt hk; have h5 : k = w.heap.size := hh'; omega)
    have hsrc3 : ∀ j u, (nameCells (xs.drop i))[j]? = some u → w3.cell? ((⟨g, i * 2, none⟩ : Addr).add j) = some u := fun j u hu => by
      rw [← add_blk, add_add]
      refine (Own.names hO3).cell ha (i * 2 + j) u ?_
      rw [← hu, ← nameCells_drop, List.getElem?_drop]
    have hdl : (nameCells (xs.drop i)).length = (xs.length - i) * 2 := by rw [nameCells_len, List.length_drop]
    refine ⟨by omega, by omega, by omega, by omega, ?_⟩
    rw [ha, slA_ne (by omega), slA_ne (by omega)]
    refine runT_copy und_names hinf hs1 hg3 (cs := nameCells (xs.drop i)) (by rw [hdl, show Nat.min (xs.length - i) (xs.length + 1 - (i + 1)) = xs.length - i from Nat.min_eq_left (by omega)]) hsrc3 (by simp only [List.length_append, List.length_take, List.length_drop, hx2, hdl, hcl1]; omega) (nameCells_one _) fun w4 hg4 hF4 hs4 => ?_
    obtain ⟨q1, q2⟩ := ins_up (cur := cur1) (A := nameCells (xs.take i)) (X := nameCells [x]) (D := nameCells (xs.drop i)) (i := i * 2) (x := 2) (d := (xs.length - i) * 2) hA1 (by rw [nameCells_len, List.length_take]; omega) hx2 hdl (by rw [hcl1]; omega)
    have ei : (i + 1) * 2 = i * 2 + 2 := by omega
    rw [ei] at hg4
    refine hR _ w4 ?_ ?_ (.inr ⟨_, rfl, Nat.le_refl _⟩)
    · have h6 := Own.of (n := xs.length + 1) (cap := cap') hg4 (by rw [q2, hcl1]) hlc1 hcm1
      rw [show (xs.length + 1) * 2 = i * 2 + 2 + (xs.length - i) * 2 by omega, q1] at h6
      rw [nameCells_app, nameCells_app]
      exact h6
    · refine ((hF1.mono (S' := s.bk) (fun _ _ h => h.elim)).trans (S := s.bk) (hF3.trans (S := (· = w.heap.size)) hF4 (fun _ _ h => h)) (fun k hk h' => ?_))
      have h5 : k = w.heap.size := h'
      omega
  · have hroom : xs.length + 1 ≤ s.cap := by have := of_decide_eq_false hroom; omega
    have hbk : s.bk g := ⟨blk g, ha, rfl⟩
    have hgh : h ≠ g := fun hh' => hsep (hh' ▸ hbk)
    have hdl : (nameCells (xs.drop i)).length = (xs.length - i) * 2 := by rw [nameCells_len, List.length_drop]
    have hA1 : cur.take (i * 2) = nameCells (xs.take i) := by
      have h3 : (cur.take (s.len * 2)).take (i * 2) = nameCells (xs.take i) := by rw [htk, nameCells_take]
      rwa [List.take_take, Nat.min_eq_left (by omega)] at h3
    have hov : (callFunc 72 #[.slice (some (blk h)) 1 1, .slice (slA s.a s.cap (i + 1) 2) (xs.length + 1 - (i + 1)) (s.cap - (i + 1))]).run Pg w = .ok (.value (.bool false)) w := by
      rw [run_callFunc_extern (fn := Tryd.f72) Tryd.func72 (by kernel_rfl) (by kernel_rfl) (by kernel_rfl) (e := Extern.SlicesOverlaps.overlaps #[T.y_sl_table_Name, T.y_sl_table_Name] #[T.y_bool]) (by kernel_rfl)]
      rw [ha, slA_ne (by omega)]
      rw [run_overlaps_apart w T.y_sl_table_Name T.y_bool T.y_table_Name und_names 2 (fun w => by simp [sizeOf, typeInfo, hinf, hs1]) (blk h) ⟨g, (i + 1) * 2, none⟩ 1 1 _ _ hgh T.y_table_Name T.y_table_Name 2 (s.cap * 2) ?_ ?_ (by omega) ?_ ?_]
      · rfl
      · simp [World.shape?, hh, hx2]
      · simp [World.shape?, hg, hcl]
      · exact frozen_of_row w h 0 _ _ hh
      · exact frozen_of_row w h 2 _ _ hh
    refine ⟨by omega, by omega, by omega, by omega, false, w, hov, fun _ => ?_, fun h' => by cases h'⟩
    have hF1 : Fr no w w.drew := Fr.drew no w
    generalize w.drew = w1 at hF1 ⊢
    have hg1 := hF1.heap hg id
    have hO1 := hO.keep hF1 (fun _ _ => id)
    have hh1 := hF1.heap hh id
    refine ⟨by omega, by omega, by omega, by omega, ?_⟩
    rw [ha, slA_ne (by omega), slA_ne (by omega)]
    have hsrc1 : ∀ j u, (nameCells (xs.drop i))[j]? = some u → w1.cell? ((⟨g, i * 2, none⟩ : Addr).add j) = some u := fun j u hu => by
      rw [← add_blk, add_add]
      refine (Own.names hO1).cell ha (i * 2 + j) u ?_
      rw [← hu, ← nameCells_drop, List.getElem?_drop]
    refine runT_copy und_names hinf hs1 hg1 (cs := nameCells (xs.drop i)) (by rw [hdl, show Nat.min (xs.length + 1 - i) (xs.length + 1 - (i + 1)) = xs.length - i from (Nat.min_eq_right (by omega)).trans (by omega)]) hsrc1 (by rw [hdl, hcl]; omega) (nameCells_one _) fun w2 hg2 hF2 hs2 => ?_
    have hh2 := hF2.heap hh1 (fun h' => hgh h')
    have hsrc2 : ∀ j u, (nameCells [x])[j]? = some u → w2.cell? ((blk h).add j) = some u := fun j u hu => by rw [blk_cell hh2]; exact hu
    refine ⟨by omega, by omega, ?_⟩
    refine runT_copy und_names hinf hs1 hg2 (cs := nameCells [x]) (by rw [hx2, show Nat.min 1 (xs.length + 1 - i) = 1 from Nat.min_eq_left (by omega)]) hsrc2 (by simp only [List.length_append, List.length_take, List.length_drop, hx2, hdl, hcl]; omega) (nameCells_one _) fun w3 hg3 hF3 hs3 => ?_
    have ei : (i + 1) * 2 = i * 2 + 2 := by omega
    rw [ei] at hg3
    obtain ⟨q1, q2⟩ := ins_at (cur := cur) (A := nameCells (xs.take i)) (X := nameCells [x]) (D := nameCells (xs.drop i)) (i := i * 2) (x := 2) (d := (xs.length - i) * 2) hA1 (by rw [nameCells_len, List.length_take]; omega) hx2 hdl (by rw [hcl]; omega)
    refine hR _ w3 ?_ ?_ (.inl ha.symm)
    · have h6 := Own.of (n := xs.length + 1) (cap := s.cap) hg3 (by rw [q2, hcl]) hroom hcm
      rw [show (xs.length + 1) * 2 = i * 2 + 2 + (xs.length - i) * 2 by omega, q1] at h6
      rw [nameCells_app, nameCells_app]
      exact h6
    · exact (hF1.mono (S' := s.bk) (fun _ _ h => h.elim)).trans (S := s.bk) (hF2.trans (S := (· = g)) hF3 (fun _ _ h => h)) (fun k _ h' => by have h5 : k = g := h'; rw [h5]; exact hbk)

end Go.Proofs.YtepclihkniaieaaDoor
