/- rows of texts and of writes; library calls on them. -/
import Derived.Test.YtepclihkniaieaaGreatDoorOw
set_option linter.unusedVariables false
namespace Go.Proofs.YtepclihkniaieaaGreatDoor
open Go Go.Vc Go.RowKit Go.Lib

abbrev Bs := List UInt8
abbrev Wr1 := Int × Bs

def wrCells (ws : List Wr1) : List Value := ws.flatMap fun x => [.int .i64 x.1, .string (tx x.2)]
theorem wrCells_len (ws : List Wr1) : (wrCells ws).length = ws.length * 2 := by
  induction ws with
  | nil => rfl
  | cons a r ih => simp only [wrCells, List.flatMap_cons, List.length_append, List.length_cons, List.length_nil] at ih ⊢; omega
theorem wrCells_one (ws : List Wr1) : ∀ u ∈ wrCells ws, u.oneCell' = true := by
  intro u hu
  simp only [wrCells, List.mem_flatMap] at hu
  obtain ⟨n, _, hu⟩ := hu
  simp only [List.mem_cons, List.not_mem_nil, or_false] at hu
  rcases hu with rfl | rfl <;> rfl
theorem wrCells_app (a b : List Wr1) : wrCells (a ++ b) = wrCells a ++ wrCells b := by simp [wrCells, List.flatMap_append]
theorem wrCells_at : ∀ (ws : List Wr1) (j : Nat) (n : Wr1), ws[j]? = some n → (wrCells ws)[j * 2]? = some (.int .i64 n.1) ∧ (wrCells ws)[j * 2 + 1]? = some (.string (tx n.2))
  | [], j, n, h => by simp at h
  | a :: r, 0, n, h => by
    simp only [List.getElem?_cons_zero, Option.some.injEq] at h
    subst h
    simp [wrCells]
  | a :: r, j + 1, n, h => by
    have h2 := wrCells_at r j n (by simpa using h)
    have e1 : (j + 1) * 2 = j * 2 + 2 := by omega
    have e2 : wrCells (a :: r) = .int .i64 a.1 :: .string (tx a.2) :: wrCells r := rfl
    rw [e1, e2]
    exact ⟨by simpa using h2.1, by simpa using h2.2⟩

theorem und_wr : Pg.underlying T.y_sl_api_Write = some (.slice T.y_api_Write) := by kernel_rfl
theorem info_wr : ∃ i, Pg.info? T.y_api_Write = some i ∧ i.zero = some (.agg #[.int .i64 0, .string sNil]) ∧ i.size = 2 ∧ i.bytes = 24 := by
  have h : (Pg.info? T.y_api_Write).map (fun i => (i.zero, i.size, i.bytes)) = some (some (.agg #[.int .i64 0, .string sNil]), 2, 24) := by kernel_rfl
  obtain ⟨i, hi, h2⟩ := Option.map_eq_some_iff.1 h
  simp only [Prod.mk.injEq] at h2
  exact ⟨i, hi, h2.1, h2.2.1, h2.2.2⟩

/-- the writes of a slice -/
def Wrs (w : World) (sl : Sl) (ws : List Wr1) : Prop :=
  sl.len = ws.length ∧ ∀ j n, ws[j]? = some n → ∃ a, sl.a = some a ∧ w.cell? (a.add (j * 2)) = some (.int .i64 n.1) ∧ w.cell? ((a.add (j * 2)).add 1) = some (.string (tx n.2))

theorem Wrs.keep {w w' : World} {sl : Sl} {ws : List Wr1} (h : Wrs w sl ws) {S : Nat → Prop} (hf : Fr S w w') (hs : ∀ k, sl.bk k → ¬ S k) : Wrs w' sl ws :=
  ⟨h.1, fun j v hj => by
    obtain ⟨a, ha, hc, hd⟩ := h.2 j v hj
    have e1 : (a.add (j * 2)).block = a.block := by unfold Addr.add; split <;> rfl
    have e2 : ((a.add (j * 2)).add 1).block = a.block := by rw [add_add]; unfold Addr.add; split <;> rfl
    exact ⟨a, ha, hf.cell hc (by rw [e1]; exact hs _ ⟨a, ha, rfl⟩), hf.cell hd (by rw [e2]; exact hs _ ⟨a, ha, rfl⟩)⟩⟩

theorem Own.wrs {w : World} {l : Sl} {ws : List Wr1} (h : Own w T.y_api_Write 2 l (wrCells ws)) : Wrs w l ws := by
  refine ⟨by have := h.len; rw [wrCells_len] at this; omega, fun j n hj => ?_⟩
  obtain ⟨h1, h2⟩ := wrCells_at ws j n hj
  obtain ⟨a, ha, hc⟩ := h.cell h1
  obtain ⟨a', ha', hc'⟩ := h.cell h2
  rw [ha] at ha'
  injection ha' with ha'
  subst ha'
  exact ⟨a, ha, hc, by rw [add_add]; exact hc'⟩

theorem Wrs.row {w : World} {g : Nat} {t : TypeId} {ws : List Wr1} (h : w.heap[g]? = some (.cells ⟨wrCells ws⟩ t (0, 0))) (n c : Nat) (hn : n = ws.length) : Wrs w ⟨some (blk g), n, c⟩ ws :=
  ⟨hn, fun j u hj => by
    obtain ⟨h1, h2⟩ := wrCells_at ws j u hj
    exact ⟨blk g, rfl, by rw [blk_cell h]; exact h1, by rw [add_add, blk_cell h]; exact h2⟩⟩

theorem CloneS_spec {w : World} {sl : Sl} {ts : List Bs} (hT : Texts w sl ts) (hb : ts.length ≤ 1000000000) {R : Sl → World → Prop}
    (hR : ∀ l w', Own w' T.y_string 1 l (textCells ts) → (∀ k, l.bk k → w.heap.size ≤ k) → Below w.heap.size w w' → R l w') : F.slices_Clone_sl_string_string sl w R := by
  obtain ⟨i, hi, hz, hs1, hby⟩ := info_str
  apply E.slices_Clone_sl_string_string
  unfold V.slices_Clone_sl_string_string
  have hlen := hT.1
  refine ⟨fun h => ?_, fun h => ?_⟩
  · have hnil : ts = [] := by
      cases ts with
      | nil => rfl
      | cons z r => obtain ⟨a, ha, _⟩ := hT.2 0 z rfl
                    rw [ha] at h; cases h
    subst hnil
    exact hR _ w (Own.nil _ _ _) (fun k hk => bk_nil hk) (Below.refl _ _)
  · obtain ⟨a, ha⟩ : ∃ a, sl.a = some a := by
      cases ha : sl.a with
      | none => rw [ha] at h; cases h
      | some a => exact ⟨a, rfl⟩
    intro w1
    have hO1 : Own w1 T.y_string 1 ⟨some (blk w.heap.size), 0, 0⟩ [] := World.ownsRow_made (base := 0) (size := 1) (e := T.y_string) w #[] 0 (Nat.zero_le _) (Nat.zero_le _) rfl
    have hB1 : Below w.heap.size w w1 := below_fr (Fr.alloc no w _)
    have hz1 : w1.heap.size = w.heap.size + 1 := by simp [w1]
    clear_value w1
    have hT1 := hT.below hB1
    rw [ha]
    refine runT_append (l := ⟨some (blk w.heap.size), 0, 0⟩) und_strs hi hz hs1 hby rfl (by decide) hO1 (m := sl.len) (news := textCells ts) (by simp [textCells, hlen]) (hT1.cell ha) (textCells_one ts) (by simp only [maxLen]; omega) (by simp only; omega) fun l2 w2 ho hl hf hm => ?_
    have hlo : ∀ k, (⟨some (blk w.heap.size), 0, 0⟩ : Sl).bk k → w.heap.size ≤ k := fun k hk => by
      obtain ⟨x, hx, rfl⟩ := hk
      injection hx with hx
      subst hx
      exact Nat.le_refl _
    refine hR l2 w2 (by simpa using ho) (fun k hk => ?_) (hB1.trans (hf.toBelow hlo (by omega)))
    rcases moved_bk hm hk with h | h
    · exact hlo k h
    · omega

theorem Own.setStr {w : World} {l : Sl} {zs : List Bs} (h : Own w T.y_string 1 l (textCells zs)) {k : Nat} (hk : k < zs.length) (x : Bs) {a : Addr} (ha : l.a = some a) :
    Wr w (a.add k) ∧ Own (w.setCell (a.add k) (.string (tx x))) T.y_string 1 l (textCells (zs.set k x)) ∧ Fr l.bk w (w.setCell (a.add k) (.string (tx x))) := by
  have hlen := (Own.texts h).1
  obtain ⟨g, cur, ha', hg, hc, ht, hlc, hm⟩ := Own.row h (by omega)
  rw [ha] at ha'
  injection ha' with ha'
  subst ha'
  have h2 := blk_set hg k (.string (tx x))
  refine ⟨blk_wr hg (by omega), ?_, (fr_set w g k _).mono (fun i _ hi => ⟨blk g, ha, Eq.symm hi⟩)⟩
  have h3 := Own.of (n := l.len) (cap := l.cap) h2 (by rw [List.length_set, hc]) hlc hm
  have e : (cur.set k (.string (tx x))).take (l.len * 1) = textCells (zs.set k x) := by
    rw [List.take_set, ht]
    simp [textCells, List.map_set]
  rw [e] at h3
  have : l = ⟨some (blk g), l.len, l.cap⟩ := by cases l; simp only at ha; subst ha; rfl
  rw [this]; exact h3

theorem wr64c (x : Nat) (h : x < 18446744073709551616) : wr .u64 (x : Int) = (x : Int) := wr64_id (by omega) (by omega)

theorem shr64z (x : Nat) (h : x < 4294967296) : shr .u64 (x : Int) 32 = 0 := by
  unfold shr
  have e : (min (32 : Int).toNat (IntKind.bits .u64)) = 32 := by decide
  rw [e, Int.fdiv_eq_ediv_of_nonneg _ (by decide)]
  have : (2 : Int) ^ 32 = 4294967296 := by decide
  rw [this]; omega

theorem and64m (x : Nat) (h : x < 4294967296) : bits .and .u64 (x : Int) 4294967295 = (x : Int) := by
  have e := u64_and_nat x 4294967295 (by omega) (by decide)
  have e1 : ((4294967295 : Nat) : Int) = 4294967295 := rfl
  rw [e1] at e
  rw [e]
  have : x &&& 4294967295 = x % 2 ^ 32 := Nat.and_two_pow_sub_one_eq_mod x 32
  rw [this, Nat.mod_eq_of_lt (by omega)]

theorem Mul_one {n : Nat} (hn : n ≤ 1000000) {w : World} {R : Int → Int → World → Prop} (hR : R 0 n w) : F.bits_Mul 1 (n : Int) w R := by
  apply E.bits_Mul
  unfold V.bits_Mul
  apply E.bits_Mul64
  unfold V.bits_Mul64
  refine ⟨by decide, by decide, by decide, by decide, by decide, ?_⟩
  have h1 : shr .u64 (1 : Int) 32 = 0 := shr64z 1 (by decide)
  have h2 : shr .u64 (n : Int) 32 = 0 := shr64z n (by omega)
  have h3 : bits .and .u64 (1 : Int) 4294967295 = 1 := and64m 1 (by decide)
  have h4 : bits .and .u64 (n : Int) 4294967295 = (n : Int) := and64m n (by omega)
  have h5 : wr .u64 (n : Int) = (n : Int) := wr64c n (by omega)
  have h0 : wr .u64 (0 : Int) = 0 := wr64c 0 (by decide)
  have h6 : shr .u64 (0 : Int) 32 = 0 := shr64z 0 (by decide)
  have h7 : bits .and .u64 (0 : Int) 4294967295 = 0 := and64m 0 (by decide)
  simp only [h1, h2, h3, h4, Int.zero_mul, Int.one_mul, Int.mul_zero, h0, h5, h6, h7, Int.add_zero]
  exact hR

theorem RepeatS_spec {w : World} {h : Nat} {s : Bs} (hh : w.heap[h]? = some (.cells ⟨[.string (tx s)]⟩ T.y_string (0, 0))) {n : Nat} (h1 : 1 ≤ n) (hn : n ≤ 1000000) {R : Sl → World → Prop}
    (hR : ∀ l w', Own w' T.y_string 1 l (textCells (List.replicate n s)) → (∀ k, l.bk k → w.heap.size ≤ k) → Below w.heap.size w w' → R l w') : F.slices_Repeat_sl_string_string ⟨some (blk h), 1, 1⟩ (n : Int) w R := by
  obtain ⟨i, hi, hz, hs1, hby⟩ := info_str
  apply E.slices_Repeat_sl_string_string
  unfold V.slices_Repeat_sl_string_string
  refine ⟨fun h => by have := of_decide_eq_true h; omega, fun _ => ?_⟩
  have e1 : wr .u64 (((1 : Nat) : Int)) = 1 := wr64c 1 (by decide)
  have e2 : wr .u64 ((n : Nat) : Int) = (n : Int) := wr64c n (by omega)
  rw [e1, e2]
  refine Mul_one hn ⟨fun h => by simp at h, fun _ => ⟨fun h => by have := of_decide_eq_true h; omega, fun _ => ?_⟩⟩
  have e3 : w64 (n : Int) = (n : Int) := w64_id (by omega) (by omega)
  rw [e3]
  refine runT_make und_strs hi hz hs1 (by rw [hby]; omega) (by simp only [maxLen]; omega) fun w2 hO2 hF2 hs2 => ?_
  dsimp -zeta only
  have hmk : (madeCells (Value.string sNil).cells (n * 1)).toList = List.replicate n (.string sNil) := by
    have h := toList_madeCells_one (Value.string sNil) (n * 1)
    rw [show (Value.string sNil).cells = #[Value.string sNil] from rfl, h]
    simp
  rw [hmk] at hO2
  obtain ⟨g, cur, ha, hg, hc, htk, hlc, hm⟩ := Own.row hO2 (show n ≠ 0 by omega)
  have hgw : g = w.heap.size := by
    have h2 : (blk w.heap.size) = blk g := by simpa using ha
    have h3 := congrArg Addr.block h2
    exact h3.symm
  subst hgw
  have hcur : cur = List.replicate n (.string sNil) := by
    rw [← htk]
    simp only
    rw [List.take_of_length_le (by rw [hc]; simp)]
  rw [hcur] at hg
  have hh2 := hF2.heap hh id
  refine runT_copy und_strs hi hs1 (o := 0) (dLen := n) (sLen := 1) (cs := [.string (tx s)]) hg (by rw [Nat.mul_one]; simp [Nat.min_eq_left h1]) (fun j v hj => by rw [blk_cell hh2 j]; exact hj) (by simp; omega) (fun v hv => by
    simp only [List.mem_cons, List.not_mem_nil, or_false] at hv
    subst hv; rfl) fun w3 hg3 hF3 hs3 => ?_
  have hmn : (Nat.min 1 n) = 1 := Nat.min_eq_left h1
  rw [hmn]
  have hg3' : w3.heap[w.heap.size]? = some (.cells ⟨List.replicate 1 (.string (tx s)) ++ List.replicate (n - 1) (.string sNil)⟩ T.y_string (0, 0)) := by
    rw [hg3]; simp
  have hB3 : Below w.heap.size w w3 := (below_fr hF2).trans (hF3.toBelow (fun k hk => by have : k = w.heap.size := hk; omega) hF2.size)
  refine ⟨fun m w' => ∃ c : Nat, m = c ∧ 1 ≤ c ∧ c ≤ n ∧ w'.heap[w.heap.size]? = some (.cells ⟨List.replicate c (.string (tx s)) ++ List.replicate (n - c) (.string sNil)⟩ T.y_string (0, 0)) ∧ Below w.heap.size w w', fun m _ => (n - m).toNat, ⟨1, rfl, Nat.le_refl _, h1, hg3', hB3⟩, ?_⟩
  rintro m w4 ⟨c, rfl, hc1, hcn, hg4, hB4⟩
  refine ⟨fun hlt => ?_, fun hge => ?_⟩
  · have hlt : c < n := by have := of_decide_eq_true hlt; omega
    intro w5
    have hg5 : w5.heap[w.heap.size]? = some (.cells ⟨List.replicate c (.string (tx s)) ++ List.replicate (n - c) (.string sNil)⟩ T.y_string (0, 0)) := hg4
    have hB5 : Below w.heap.size w w5 := hB4.drew
    clear_value w5
    rw [Int.toNat_natCast]
    refine ⟨by omega, by omega, by omega, by omega, ?_⟩
    rw [slA0, slA_ne (show n ≠ c by omega)]
    have hk : (Nat.min c (n - c)) ≤ c := Nat.min_le_left _ _
    have hk2 : (Nat.min c (n - c)) ≤ n - c := Nat.min_le_right _ _
    have hk3 : 0 < Nat.min c (n - c) := by rw [Nat.lt_min]; omega
    refine runT_copy und_strs hi hs1 (o := c * 1) (dLen := n - c) (sLen := c) (cs := List.replicate (Nat.min c (n - c)) (.string (tx s))) hg5 (by rw [List.length_replicate, Nat.mul_one]) (fun j v hj => by
      rw [blk_cell hg5 j]
      have hjl : j < Nat.min c (n - c) := by have := (List.getElem?_eq_some_iff.1 hj).1; simpa using this
      rw [List.getElem?_append_left (by rw [List.length_replicate]; omega), List.getElem?_replicate, if_pos (by omega)]
      rw [List.getElem?_replicate, if_pos hjl] at hj
      exact hj) (by simp only [List.length_append, List.length_replicate]; omega) (fun v hv => by
      rw [List.eq_of_mem_replicate hv]; rfl) fun w6 hg6 hF6 hs6 => ?_
    generalize Nat.min c (n - c) = K at hk hk2 hk3 hg6
    have e4 : w64 ((c : Int) + (K : Int)) = ((c + K : Nat) : Int) := by rw [w64_id (by omega) (by omega)]; omega
    rw [e4]
    refine ⟨⟨c + K, rfl, by omega, by omega, ?_, hB5.trans (hF6.toBelow (fun k hk => by have : k = w.heap.size := hk; omega) hB5.size)⟩, ?_⟩
    · rw [hg6]
      have a1 : (List.replicate c (Value.string (tx s)) ++ List.replicate (n - c) (Value.string sNil)).take (c * 1) = List.replicate c (.string (tx s)) := by
        rw [Nat.mul_one, List.take_append_of_le_length (by simp), List.take_of_length_le (by simp)]
      have a2 : (List.replicate c (Value.string (tx s)) ++ List.replicate (n - c) (Value.string sNil)).drop (c * 1 + (List.replicate K (Value.string (tx s))).length) = List.replicate (n - (c + K)) (.string sNil) := by
        rw [List.length_replicate, Nat.mul_one, List.drop_append, List.drop_of_length_le (by simp), List.length_replicate, List.drop_replicate, List.nil_append]
        have e7 : n - c - (c + K - c) = n - (c + K) := by omega
        rw [e7]
      rw [a1, a2, List.replicate_append_replicate]
    · show ((n : Int) - ((c + K : Nat) : Int)).toNat < ((n : Int) - (c : Int)).toNat
      omega
  · have hcn' : c = n := by have := of_decide_eq_false hge; omega
    subst hcn'
    rw [Nat.sub_self] at hg4
    simp only [List.replicate_zero, List.append_nil] at hg4
    refine hR _ w4 ?_ (fun k hk => ?_) hB4
    · have h3 := Own.of (size := 1) (n := c) (cap := c) hg4 (by simp) (Nat.le_refl _) (by simp only [maxLen]; omega)
      have e5 : (List.replicate c (Value.string (tx s))).take (c * 1) = textCells (List.replicate c s) := by
        rw [List.take_of_length_le (by simp)]; unfold textCells; rw [List.map_replicate]
      rw [e5] at h3
      exact h3
    · obtain ⟨x, hx, rfl⟩ := hk
      injection hx with hx
      subst hx
      exact Nat.le_refl _

theorem repeatL_one1 (b : UInt8) : ∀ n, Lib.repeatL [b] n = List.replicate n b
  | 0 => rfl
  | n + 1 => by rw [Lib.repeatL, repeatL_one1 b n]; rfl

theorem strings_Repeat_spec {w : World} {n : Nat} (hn : n ≤ 1000000) {R : ByteArray → World → Prop} (hR : ∀ w', Below w.heap.size w w' → R (tx (List.replicate n 0)) w') : F.strings_Repeat str_x_ (n : Int) w R := by
  have c : Calls Tryz.prog 125 #[.string str_x_, .int .i64 (n : Int)] w fun e w' => e = .returned (.string ⟨(Lib.repeatL str_x_.data.toList n).toArray⟩) ∧ Below w.heap.size w w' :=
    Proofs.Any.strings_Repeat Tryz.lays105 Tryz.Builder_Extra_105 str_x_ n w (by omega) (by have h1 : str_x_.size = 1 := rfl; rw [h1]; omega)
  refine Calls.mono c fun e w' h => ⟨tx (List.replicate n 0), ?_, hR w' h.2⟩
  rw [h.1]
  have : str_x_.data.toList = [0] := rfl
  rw [this, repeatL_one1]
  rfl

def zeroS : Bs := List.replicate 256 0
theorem Own.set1 {w : World} {t : TypeId} {l : Sl} {xs : List Value} (h : Own w t 1 l xs) {k : Nat} (hk : k < xs.length) (x : Value) {a : Addr} (ha : l.a = some a) :
    Wr w (a.add k) ∧ Own (w.setCell (a.add k) x) t 1 l (xs.set k x) ∧ Fr l.bk w (w.setCell (a.add k) x) := by
  have hlen := h.len
  obtain ⟨g, cur, ha', hg, hc, ht, hlc, hm⟩ := Own.row h (by omega)
  rw [ha] at ha'
  injection ha' with ha'
  subst ha'
  have h2 := blk_set hg k x
  refine ⟨blk_wr hg (by omega), ?_, (fr_set w g k _).mono (fun i _ hi => ⟨blk g, ha, Eq.symm hi⟩)⟩
  have h3 := Own.of (n := l.len) (cap := l.cap) h2 (by rw [List.length_set, hc]) hlc hm
  have e : (cur.set k x).take (l.len * 1) = xs.set k x := by
    rw [List.take_set, ht]
  rw [e] at h3
  have : l = ⟨some (blk g), l.len, l.cap⟩ := by cases l; simp only at ha; subst ha; rfl
  rw [this]; exact h3

end Go.Proofs.YtepclihkniaieaaGreatDoor
