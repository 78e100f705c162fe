/- masonrybook: lists of texts: Short, copies, lent lists. -/
import Derived.Test.YtepclihkniaieaaDoorSu
set_option linter.unusedVariables false
namespace Go.Proofs.YtepclihkniaieaaDoor
open Go Go.Vc Go.RowKit Go.Lib

/-- append of whatever slice, nil too -/
theorem app_any {P : Program} {w : World} {t ty e : TypeId} {i : TypeInfo} {z : Value} {size bytes : Nat} (ht : P.underlying t = some (.slice e)) (hi : P.info? e = some i) (hz : i.zero = some z)
    (hsize : i.size = size) (hby : i.bytes = bytes) (hzs : z.cells.size = size) (hsz : 0 < size) {l : Sl} {xs : List Value} (hown : Own w e size l xs)
    {src : Sl} {news : List Value} (hnil : src.a = none → src = ⟨none, 0, 0⟩) (hl : news.length = src.len * size) (hnews : ∀ a, src.a = some a → ∀ j u, news[j]? = some u → w.cell? (a.add j) = some u) (h1 : ∀ u ∈ news, u.oneCell' = true)
    (h63 : l.len + src.len ≤ maxLen) (hbytes : (l.len + src.len) * bytes ≤ 140737488355328) {R : Sl → World → Prop}
    (hR : ∀ l' w', Own w' e size l' (xs ++ news) → l'.len = l.len + src.len → Fr l.bk w w' → Moved w l l' → R l' w') :
    RunT P (Builtin.append_ #[t, t] ty #[.slice l.a l.len l.cap, .slice src.a src.len src.cap]) [.one .slice] w R := by
  cases ha : src.a with
  | none =>
    have hs := hnil ha
    subst hs
    have hn : news = [] := List.eq_nil_of_length_eq_zero (by rw [hl]; simp)
    subst hn
    have hr := run_append_owned_none (P := P) w 0 t ty e i size ht hi (.slice l.a l.len l.cap) l.len xs hown
    exact runT_slice hr (hR l w (by rw [List.append_nil]; exact hown) rfl (Fr.refl _ _) (moved_refl _ _))
  | some a => exact runT_append ht hi hz hsize hby hzs hsz hown hl (hnews a ha) h1 h63 hbytes hR

def textCells (ts : List (List UInt8)) : List Value := ts.map fun t => .string (tx t)

theorem textCells_one (ts : List (List UInt8)) : ∀ u ∈ textCells ts, u.oneCell' = true := by
  intro u hu
  simp only [textCells, List.mem_map] at hu
  obtain ⟨_, _, rfl⟩ := hu
  rfl

theorem und_strs : Pg.underlying T.y_sl_string = some (.slice T.y_string) := by kernel_rfl
theorem info_str : ∃ i, Pg.info? T.y_string = some i ∧ i.zero = some (.string sNil) ∧ i.size = 1 ∧ i.bytes = 16 := by
  have h : (Pg.info? T.y_string).map (fun i => (i.zero, i.size, i.bytes)) = some (some (.string sNil), 1, 16) := by kernel_rfl
  obtain ⟨i, hi, h2⟩ := Option.map_eq_some_iff.1 h
  simp only [Prod.mk.injEq] at h2
  exact ⟨i, hi, h2.1, h2.2.1, h2.2.2⟩

theorem Own.texts {w : World} {l : Sl} {ts : List (List UInt8)} (h : Own w T.y_string 1 l (textCells ts)) : Texts w l ts := by
  refine ⟨by have := h.len; simp [textCells] at this; omega, fun j t hj => ?_⟩
  obtain ⟨a, ha, hc⟩ := h.cell (j := j) (u := .string (tx t)) (by simp [textCells, hj])
  exact ⟨a, ha, by rw [Nat.mul_one]; exact hc⟩

theorem Texts.cell {w : World} {sl : Sl} {ts : List (List UInt8)} (h : Texts w sl ts) {a : Addr} (ha : sl.a = some a) : ∀ j u, (textCells ts)[j]? = some u → w.cell? (a.add j) = some u := by
  intro j u hu
  simp only [textCells, List.getElem?_map, Option.map_eq_some_iff] at hu
  obtain ⟨t, ht, rfl⟩ := hu
  obtain ⟨a', ha', hc⟩ := h.2 j t ht
  rw [ha] at ha'
  injection ha' with ha'
  subst ha'
  rwa [Nat.mul_one] at hc

/-- a nil slice is the nil slice -/
def NilOk (s : Sl) : Prop := s.a = none → s = ⟨none, 0, 0⟩

theorem bk_nil {P : Prop} {k : Nat} (h : (⟨none, 0, 0⟩ : Sl).bk k) : P := by obtain ⟨a, ha, _⟩ := h; cases ha

theorem copyTexts_spec {w : World} {l : Sl} {ts : List (List UInt8)} (hT : Texts w l ts) (hn : NilOk l) (hb : ts.length ≤ 1000000000) {R : Sl → World → Prop}
    (hR : ∀ l' w', Own w' T.y_string 1 l' (textCells ts) → (∀ k, l'.bk k → w.heap.size ≤ k) → Fr no w w' → R l' w') : F.masonrybook_copyTexts l w R := by
  obtain ⟨i, hi, hz, hs1, hby⟩ := info_str
  apply E.masonrybook_copyTexts
  unfold V.masonrybook_copyTexts
  have hlen := hT.1
  refine app_any (l := ⟨none, 0, 0⟩) und_strs hi hz hs1 hby rfl (by decide) (Own.nil _ _ _) hn (news := textCells ts) (by simp [textCells, hlen]) (fun a ha => hT.cell ha) (textCells_one ts) (by simp only [maxLen]; omega) (by simp only; omega) fun l2 w2 ho _ hf hm => ?_
  refine hR l2 w2 (by simpa using ho) (fun k hk => ?_) (hf.mono (fun k _ hk => bk_nil hk))
  rcases moved_bk hm hk with h | h
  · exact bk_nil h
  · exact h

theorem Short_spec {w : World} {sl : Sl} {ts : List (List UInt8)} (hT : Texts w sl ts) {few room : Int} (hb : few ≤ 1000000000) (hr0 : 0 ≤ room) (hr1 : room < 4611686018427387904) {R : Bool → World → Prop}
    (hR : ∀ b w', (b = true → (ts.length : Int) ≤ few) → Below w.heap.size w w' → R b w') : F.masonrybook_Short few room sl w R := by
  apply E.masonrybook_Short
  unfold V.masonrybook_Short
  have hlen := hT.1
  refine ⟨fun _ => hR _ _ (fun h => by cases h) (Below.refl _ _), fun hfew => ?_⟩
  have hfew : (ts.length : Int) ≤ few := by have := of_decide_eq_false hfew; omega
  refine ⟨fun room1 i w' => ∃ m : Nat, i = m ∧ m ≤ ts.length ∧ -1 ≤ room1 ∧ room1 < 4611686018427387904 ∧ Below w.heap.size w w', fun _ i _ => (ts.length - i).toNat, ⟨0, rfl, Nat.zero_le _, by omega, hr1, Below.refl _ _⟩, ?_⟩
  rintro room1 i w1 ⟨m, rfl, hm, h1, h2, hB⟩
  refine ⟨fun hlt => ⟨fun _ => ?_, fun _ => hR _ _ (fun _ => hfew) hB⟩, fun _ => hR _ _ (fun _ => hfew) hB⟩
  have hlt : m < ts.length := by have := of_decide_eq_true hlt; omega
  obtain ⟨a, ha, hc⟩ := (hT.below hB).2 m ts[m] (by simp [hlt])
  have e1 : w64 ((m : Int) + 1) = ((m + 1 : Nat) : Int) := by rw [w64_id (by omega) (by omega)]; omega
  refine ⟨a, ha, by omega, by omega, tx ts[m], by simpa using hc, ?_⟩
  rw [tx_size]
  intro w2
  have h3 : w2.heap[w1.heap.size]? = some (.cells ⟨[.int .i64 (ts[m].length : Int)]⟩ T.y_int (0, 0)) := heap_new w1 _
  have hB2 : Below w.heap.size w w2 := hB.trans ((below_fr (Fr.alloc no w1 _)).mono hB.size)
  clear_value w2
  have ho := roomOf_one (left := room1) (n := (ts[m].length : Int)) h1 (by omega)
  refine Room_one h3 h1 (by omega) (by omega) ⟨⟨m + 1, e1, hlt, ho.1, by omega, hB2⟩, ?_⟩
  show ((ts.length : Int) - w64 ((m : Int) + 1)).toNat < ((ts.length : Int) - (m : Int)).toNat
  rw [e1]; omega

theorem SameTexts_spec {w : World} {al bl : Sl} {us vs : List (List UInt8)} (hA : Texts w al us) (hB : Texts w bl vs) (hb : us.length ≤ 1000000000) {R : Bool → World → Prop} (hR : ∀ w', Below w.heap.size w w' → R (decide (us = vs)) w') : F.masonrybook_SameTexts al bl w R := by
  apply E.masonrybook_SameTexts
  unfold V.masonrybook_SameTexts
  have hl1 := hA.1
  have hl2 := hB.1
  refine ⟨fun hne => ?_, fun heq => ?_⟩
  · have hne : us.length ≠ vs.length := fun h => by rw [hl1, hl2, h] at hne; simp at hne
    have : decide (us = vs) = false := decide_eq_false fun h => hne (by rw [h])
    rw [← this]; exact hR w (Below.refl _ _)
  have heq : us.length = vs.length := by rw [hl1, hl2] at heq; simp at heq; omega
  refine ⟨fun i w' => ∃ m : Nat, i = m ∧ m ≤ us.length ∧ us.take m = vs.take m ∧ Below w.heap.size w w', fun i _ => (us.length - i).toNat, ⟨0, rfl, Nat.zero_le _, rfl, Below.refl _ _⟩, ?_⟩
  rintro i w1 ⟨m, rfl, hm, htk, hBw⟩
  refine ⟨fun hlt => ?_, fun hge => ?_⟩
  · have hlt : m < us.length := by have := of_decide_eq_true hlt; omega
    have hlt2 : m < vs.length := by omega
    have e1 : w64 ((m : Int) + 1) = ((m + 1 : Nat) : Int) := by rw [w64_id (by omega) (by omega)]; omega
    intro w2
    have hBd : Below w.heap.size w w2 := hBw.drew
    clear_value w2
    obtain ⟨a, ha, hc1⟩ := (hA.below hBd).2 m us[m] (by simp [hlt])
    obtain ⟨b, hb', hd1⟩ := (hB.below hBd).2 m vs[m] (by simp [hlt2])
    refine ⟨a, ha, by omega, by omega, tx us[m], by simpa using hc1, b, hb', by omega, by omega, tx vs[m], by simpa using hd1, ?_⟩
    rw [tx_eq]
    refine ⟨fun h => ?_, fun h => ?_⟩
    · have h : us[m] ≠ vs[m] := by simpa using h
      have : decide (us = vs) = false := decide_eq_false fun h' => h (by subst h'; rfl)
      rw [← this]; exact hR _ hBd
    have h : us[m] = vs[m] := by simpa using h
    refine ⟨⟨m + 1, e1, hlt, ?_, hBd⟩, ?_⟩
    · rw [List.take_succ_eq_append_getElem hlt, List.take_succ_eq_append_getElem hlt2, htk, h]
    · show ((us.length : Int) - w64 ((m : Int) + 1)).toNat < ((us.length : Int) - (m : Int)).toNat
      rw [e1]; omega
  · have hge : us.length ≤ m := by have := of_decide_eq_false hge; omega
    have : m = us.length := by omega
    subst this
    have h : us = vs := by rw [List.take_length, heq, List.take_length] at htk; exact htk
    have : decide (us = vs) = true := decide_eq_true h
    rw [← this]; exact hR w1 hBw

/-- a lent list: room behind it, and a mark in it -/
def LentT (w : World) (m : Sl) (ts : List (List UInt8)) : Prop := m.len = ts.length ∧ Own w T.y_string 1 ⟨m.a, ts.length + 1, m.cap⟩ (textCells (ts ++ [str_mark.data.toList]))

theorem LentT.texts {w : World} {m : Sl} {ts : List (List UInt8)} (h : LentT w m ts) : Texts w m ts := by
  refine ⟨h.1, fun j t hj => ?_⟩
  have hlt : j < ts.length := (List.getElem?_eq_some_iff.1 hj).1
  obtain ⟨a, ha, hc⟩ := (Own.texts h.2).2 j t (by rw [List.getElem?_append_left hlt]; exact hj)
  exact ⟨a, ha, hc⟩

theorem LentTexts_spec {w : World} {l : Sl} {ts : List (List UInt8)} (hT : Texts w l ts) (hn : NilOk l) (hb : ts.length ≤ 100000000) {R : Sl → World → Prop}
    (hR : ∀ m w', LentT w' m ts → (∀ k, m.bk k → w.heap.size ≤ k) → Below w.heap.size w w' → R m w') : F.masonrybook_LentTexts l w R := by
  obtain ⟨i, hi, hz, hs1, hby⟩ := info_str
  apply E.masonrybook_LentTexts
  unfold V.masonrybook_LentTexts
  have hlen := hT.1
  refine copyTexts_spec hT hn (by omega) fun l1 w1 hO1 hbk1 hF1 => ?_
  have hl1 := (Own.texts hO1).1
  intro w2
  have h2 : w2.heap[w1.heap.size]? = some (.cells ⟨[.string str_mark]⟩ T.y_string (0, 0)) := heap_new w1 _
  have hF2 : Fr no w1 w2 := Fr.alloc no w1 _
  clear_value w2
  have hO2 := hO1.keep hF2 (fun _ _ => id)
  refine runT_append und_strs hi hz hs1 hby rfl (by decide) hO2 (m := 1) (news := [.string str_mark]) rfl (fun j u hu => by rw [blk_cell h2 j]; exact hu) (fun u hu => by
    simp only [List.mem_cons, List.not_mem_nil, or_false] at hu
    subst hu; rfl) (by simp only [maxLen]; omega) (by omega) fun l3 w3 ho hl3 hf hm => ?_
  have hcap : l3.len ≤ l3.cap := by
    obtain ⟨_, _, _, _, _, _, h, _⟩ := Own.row ho (by omega)
    exact h
  refine ⟨by omega, by omega, ?_⟩
  rw [slA0, Int.toNat_natCast]
  refine hR _ w3 ⟨hlen, ?_⟩ (fun k hk => ?_) ?_
  · have e : textCells (ts ++ [str_mark.data.toList]) = textCells ts ++ [.string str_mark] := by simp [textCells, tx_self]
    rw [e]
    have : (⟨l3.a, ts.length + 1, l3.cap⟩ : Sl) = l3 := by rw [← hl1, ← hl3]
    rw [this]; exact ho
  · have hk' : l3.bk k := hk
    rcases moved_bk hm hk' with h | h
    · exact hbk1 k h
    · have := hF1.size; have := hF2.size; omega
  · exact ((below_fr hF1).trans ((below_fr hF2).mono hF1.size)).trans (hf.toBelow (fun k hk => hbk1 k hk) (by have := hF1.size; have := hF2.size; omega))

theorem StaysTexts_spec {w : World} {m l : Sl} {ts : List (List UInt8)} (hM : LentT w m ts) (hT : Texts w l ts) (hb : ts.length ≤ 100000000) {R : Bool → World → Prop} (hR : ∀ w', Below w.heap.size w w' → R true w') : F.masonrybook_StaysTexts m l w R := by
  apply E.masonrybook_StaysTexts
  unfold V.masonrybook_StaysTexts
  have hlen := hM.1
  refine SameTexts_spec hM.texts hT (by omega) fun w1 hB => ?_
  refine ⟨fun _ => ?_, fun h => by simp at h⟩
  have e1 : w64 (((m.len : Nat) : Int) + 1) = ((ts.length + 1 : Nat) : Int) := by rw [w64_id (by omega) (by omega)]; omega
  have hcap : ts.length + 1 ≤ m.cap := by
    obtain ⟨_, _, _, _, _, _, h, _⟩ := Own.row hM.2 (by simp)
    exact h
  have hO := hM.2.keep (fr_below hB) (fun _ _ => id)
  obtain ⟨a, ha, hc⟩ := (Own.texts hO).2 ts.length str_mark.data.toList (by simp)
  rw [e1, slA0]
  refine ⟨by omega, by omega, a, ha, by omega, by omega, str_mark, ?_, ?_⟩
  · rw [Int.toNat_natCast, hlen, hc, tx_self]
  · have : sEq str_mark str_mark = true := by simp [sEq]
    rw [this]; exact hR _ hB

end Go.Proofs.YtepclihkniaieaaDoor
