/- masonrybook.Book: lists of numbers that are kept, marked, grown; Apart. -/
import Derived.Test.YtepclihkniaieaaGreatDoorBk
set_option linter.unusedVariables false
namespace Go.Proofs.YtepclihkniaieaaGreatDoor
open Go Go.Vc Go.RowKit Go.Lib

/-- append to a slice with a row of its own: in place, or into a new row, the old one left as it was -/
theorem runT_append2 {P : Program} {w : World} {t ty e : TypeId} {i : TypeInfo} {z : Value} {size bytes : Nat} (ht : P.underlying t = some (.slice e)) (hi : P.info? e = some i) (hz : i.zero = some z)
    (hsize : i.size = size) (hby : i.bytes = bytes) (hzs : z.cells.size = size) (hsz : 0 < size) {l : Sl} {xs : List Value} (hown : Own w e size l xs)
    {a : Addr} {m c : Nat} {news : List Value} (hl : news.length = m * size) (hnews : ∀ j u, news[j]? = some u → w.cell? (a.add j) = some u) (h1 : ∀ u ∈ news, u.oneCell' = true)
    (h63 : l.len + m ≤ maxLen) (hbytes : (l.len + m) * bytes ≤ 140737488355328) {R : Sl → World → Prop}
    (hR : ∀ l' w', Own w' e size l' (xs ++ news) → l'.len = l.len + m → ((l'.a = l.a ∧ Fr l.bk w w') ∨ ((∃ g, l'.a = some (blk g) ∧ w.heap.size ≤ g) ∧ Fr no w w')) → R l' w') :
    RunT P (Builtin.append_ #[t, t] ty #[.slice l.a l.len l.cap, .slice (some a) m c]) [.one .slice] w R := by
  obtain ⟨v', w', hr, ho, hg, hn⟩ := run_append_own (P := P) w 0 t ty e i z size bytes ht hi hz hsize hby hzs hsz _ l.len xs hown a m c news hl hnews h1 h63 hbytes (Nat.zero_le _)
  subst hsize
  subst hby
  have hsmall : l.len + m ≤ 9223372036854775807 := by simp only [maxLen] at h63; omega
  have hfr := fr_of_grown (l := l) hg
  have key : ∃ l' : Sl, v' = .slice l'.a l'.len l'.cap ∧ l'.len = l.len + m ∧ ((l'.a = l.a ∧ Fr l.bk w w') ∨ ((∃ g, l'.a = some (blk g) ∧ w.heap.size ≤ g) ∧ Fr no w w')) := by
    rcases hown.2 with ⟨h2, h0⟩ | ⟨g, cap, cur, h2, hbg, hgg, hnc, hcm, hcs, htake⟩
    · simp only [Value.slice.injEq] at h2
      obtain ⟨ha, hl0, hc0⟩ := h2
      by_cases hm : m = 0
      · exact ⟨⟨none, 0, 0⟩, hn.2 ⟨by rw [ha, hl0, hc0], hm⟩, by simp [hl0, hm], .inl ⟨ha.symm, hfr⟩⟩
      · have h3 := run_append_nil (P := P) w t ty e i z ht hi hz a m c news hl hnews (by omega) (by omega) (by rw [hl0] at hbytes; simp only [Nat.zero_add] at hbytes; omega)
        rw [ha, hl0, hc0] at hr
        rw [h3] at hr
        injection hr with hr hw
        refine ⟨⟨some (blk w.heap.size), m, _⟩, hr.symm, by simp [hl0], .inr ⟨⟨_, rfl, Nat.le_refl _⟩, ?_⟩⟩
        rw [← hw]
        exact (Fr.drew no w).trans (Fr.alloc no _ _) (fun _ _ h => h)
    · simp only [Value.slice.injEq] at h2
      obtain ⟨ha, _, hc0⟩ := h2
      by_cases hroom : l.len + m ≤ l.cap
      · have hfit : l.len * i.size + news.length ≤ cur.size := by rw [hl, hcs, ← Nat.add_mul, ← hc0]; exact Nat.mul_le_mul_right _ hroom
        have h3 := run_append_room (P := P) w t ty e i ht hi g l.len l.cap cur hgg a m c news hl hnews h1 hroom hfit
        rw [ha] at hr
        rw [h3] at hr
        injection hr with hr _
        exact ⟨⟨some (blk g), l.len + m, l.cap⟩, hr.symm, rfl, .inl ⟨ha.symm, hfr⟩⟩
      · have holds : ∀ j u, xs[j]? = some u → w.cell? ((⟨g, 0, none⟩ : Addr).add j) = some u := World.ownsRow.cells hown (g := g) (by rw [ha]; rfl)
        have h3 := run_append_grow (P := P) w t ty e i z ht hi hz ⟨g, 0, none⟩ l.len l.cap xs hown.1 holds a m c news hl hnews (by omega) (by omega) (growslice_fits (by omega) hbytes)
        rw [ha] at hr
        rw [h3] at hr
        injection hr with hr hw
        refine ⟨⟨some (blk w.heap.size), l.len + m, _⟩, hr.symm, rfl, .inr ⟨⟨_, rfl, Nat.le_refl _⟩, ?_⟩⟩
        rw [← hw]
        exact (Fr.drew no w).trans (Fr.alloc no _ _) (fun _ _ h => h)
  obtain ⟨l', rfl, hlen, hmv⟩ := key
  exact runT_slice hr (hR l' w' (by unfold Own; rw [← hlen] at ho; exact ho) hlen hmv)

theorem Own.typ {w : World} {t : TypeId} {size : Nat} {l : Sl} {xs : List Value} (h : Own w t size l xs) {k : Nat} (hk : l.bk k) : ∃ cs, w.heap[k]? = some (.cells cs t (0, 0)) := by
  obtain ⟨a, ha, rfl⟩ := hk
  rcases h.2 with ⟨h2, _⟩ | ⟨g, cap, cur, h2, hbg, hgg, _⟩
  · simp only [Value.slice.injEq] at h2
    rw [ha] at h2; cases h2.1
  · simp only [Value.slice.injEq] at h2
    rw [ha] at h2
    have : a = ⟨g, 0, none⟩ := by simpa using h2.1
    subst this
    exact ⟨cur, hgg⟩

theorem typ_ne {w : World} {k : Nat} {cs cs' : Array Value} {t t' : TypeId} (h : w.heap[k]? = some (.cells cs t (0, 0))) (h' : w.heap[k]? = some (.cells cs' t' (0, 0))) (hn : t ≠ t') : False := by
  rw [h] at h'
  injection h' with h'
  injection h' with _ h'
  exact hn h'

theorem Own.apart {w : World} {t t' : TypeId} {s s' : Nat} {l l' : Sl} {xs xs' : List Value} (h : Own w t s l xs) (h' : Own w t' s' l' xs') (hn : t ≠ t') {k : Nat} (hk : l.bk k) : ¬ l'.bk k := fun hk' => by
  obtain ⟨_, h1⟩ := Own.typ h hk
  obtain ⟨_, h2⟩ := Own.typ h' hk'
  exact typ_ne h1 h2 hn

theorem Own.setInt {w : World} {l : Sl} {zs : List Int} (h : Own w T.y_int 1 l (intCells zs)) {k : Nat} (hk : k < zs.length) (x : Int) {a : Addr} (ha : l.a = some a) :
    Wr w (a.add k) ∧ Own (w.setCell (a.add k) (.int .i64 x)) T.y_int 1 l (intCells (zs.set k x)) ∧ Fr l.bk w (w.setCell (a.add k) (.int .i64 x)) := by
  have hlen := (Own.ints h).1
  obtain ⟨g, cur, ha', hg, hc, ht, hlc, hm⟩ := Own.row h (by omega)
  rw [ha] at ha'
  injection ha' with ha'
  subst ha'
  have h2 := blk_set hg k (.int .i64 x)
  refine ⟨blk_wr hg (by omega), ?_, (fr_set w g k _).mono (fun i _ hi => ⟨blk g, ha, Eq.symm hi⟩)⟩
  have h3 := Own.of (n := l.len) (cap := l.cap) h2 (by rw [List.length_set, hc]) hlc hm
  have e : (cur.set k (.int .i64 x)).take (l.len * 1) = intCells (zs.set k x) := by
    rw [List.take_set, ht]
    simp [intCells, List.map_set]
  rw [e] at h3
  have : l = ⟨some (blk g), l.len, l.cap⟩ := by cases l; simp only at ha; subst ha; rfl
  rw [this]; exact h3

def marks (i a n : Nat) : List Int := (List.range n).map fun k => -1000000 * (i : Int) - ((a + k : Nat) : Int) - 7
theorem marks_len (i a n : Nat) : (marks i a n).length = n := by simp [marks]
theorem marks_succ (i a n : Nat) : marks i a (n + 1) = marks i a n ++ [-1000000 * (i : Int) - ((a + n : Nat) : Int) - 7] := by simp [marks, List.range_succ]
theorem marks_app (i a b : Nat) : marks i 0 a ++ marks i a b = marks i 0 (a + b) := by
  induction b with
  | zero => simp [marks]
  | succ b ih =>
    rw [marks_succ, ← List.append_assoc, ih, ← Nat.add_assoc, marks_succ]
    simp

theorem markInts_spec {w : World} {i a n : Nat} (hi0 : i ≤ 1000) (hn : a + n ≤ 100000000) {R : Sl → World → Prop}
    (hR : ∀ l w', Own w' T.y_int 1 l (intCells (marks i a n)) → (∀ k, l.bk k → w.heap.size ≤ k) → Below w.heap.size w w' → R l w') : F.masonrybook_markInts (i : Int) (a : Int) (n : Int) w R := by
  obtain ⟨inf, hi, hz, hs1, hby⟩ := info_int
  apply E.masonrybook_markInts
  unfold V.masonrybook_markInts
  have e0 : w64 ((a : Int) + (n : Int)) = ((a + n : Nat) : Int) := by rw [w64_id (by omega) (by omega)]; omega
  rw [e0]
  refine ⟨fun out k w' => ∃ m : Nat, k = ((a + m : Nat) : Int) ∧ m ≤ n ∧ Own w' T.y_int 1 out (intCells (marks i a m)) ∧ (∀ k, out.bk k → w.heap.size ≤ k) ∧ Below w.heap.size w w', fun _ k _ => ((a + n : Nat) - k).toNat,
    ⟨0, rfl, Nat.zero_le _, Own.nil _ _ _, fun k hk => bk_nil hk, Below.refl _ _⟩, ?_⟩
  rintro out k w1 ⟨m, rfl, hm, hO, hbk, hB⟩
  refine ⟨fun hlt => ?_, fun hge => ?_⟩
  · have hlt : m < n := by have := of_decide_eq_true hlt; omega
    have e1 : w64 (((a + m : Nat) : Int) + 1) = ((a + (m + 1) : Nat) : Int) := by rw [w64_id (by omega) (by omega)]; omega
    have e2 : w64 ((w64 ((w64 ((-1000000 : Int) * (i : Int))) - ((a + m : Nat) : Int))) - 7) = -1000000 * (i : Int) - ((a + m : Nat) : Int) - 7 := by
      rw [w64_id (x := (-1000000 : Int) * (i : Int)) (by omega) (by omega), w64_id (x := (-1000000 : Int) * (i : Int) - ((a + m : Nat) : Int)) (by omega) (by omega), w64_id (by omega) (by omega)]
    rw [e2]
    intro w2
    have h2 : w2.heap[w1.heap.size]? = some (.cells ⟨[.int .i64 (-1000000 * (i : Int) - ((a + m : Nat) : Int) - 7)]⟩ T.y_int (0, 0)) := heap_new w1 _
    have hF2 : Fr no w1 w2 := Fr.alloc no w1 _
    clear_value w2
    have hO2 := hO.keep hF2 (fun _ _ => id)
    have hol := (Own.ints hO2).1
    rw [marks_len] at hol
    refine runT_append und_ints hi hz hs1 hby rfl (by decide) hO2 (m := 1) (news := intCells [-1000000 * (i : Int) - ((a + m : Nat) : Int) - 7]) rfl (fun j u hu => by rw [blk_cell h2 j]; exact hu) (intCells_one _) (by simp only [maxLen]; omega) (by omega) fun l3 w3 ho hl3 hf hm3 => ?_
    rw [← intCells_app, ← marks_succ] at ho
    have s1 := hB.size
    have s2 := hF2.size
    refine ⟨⟨m + 1, e1, hlt, ho, fun k hk => ?_, (hB.trans ((below_fr hF2).mono s1)).trans (hf.toBelow (fun k hk => hbk k hk) (by omega))⟩, ?_⟩
    · rcases moved_bk hm3 hk with h | h
      · exact hbk k h
      · omega
    · show (((a + n : Nat) : Int) - w64 (((a + m : Nat) : Int) + 1)).toNat < (((a + n : Nat) : Int) - ((a + m : Nat) : Int)).toNat
      rw [e1]; omega
  · have hmm : m = n := by have := of_decide_eq_false hge; omega
    subst hmm
    exact hR out w1 hO hbk hB

theorem und_sl_ints : Pg.underlying T.y_sl_sl_int = some (.slice T.y_sl_int) := by kernel_rfl
theorem info_slint : ∃ i, Pg.info? T.y_sl_int = some i ∧ i.zero = some (.slice none 0 0) ∧ i.size = 1 ∧ i.bytes = 24 := by
  have h : (Pg.info? T.y_sl_int).map (fun i => (i.zero, i.size, i.bytes)) = some (some (.slice none 0 0), 1, 24) := by kernel_rfl
  obtain ⟨i, hi, h2⟩ := Option.map_eq_some_iff.1 h
  simp only [Prod.mk.injEq] at h2
  exact ⟨i, hi, h2.1, h2.2.1, h2.2.2⟩

def slV (s : Sl) : Value := .slice s.a s.len s.cap
def slCells (ss : List Sl) : List Value := ss.map slV
theorem slCells_one (ss : List Sl) : ∀ u ∈ slCells ss, u.oneCell' = true := by
  intro u hu
  simp only [slCells, List.mem_map] at hu
  obtain ⟨_, _, rfl⟩ := hu
  rfl
theorem slCells_app (a b : List Sl) : slCells (a ++ b) = slCells a ++ slCells b := by simp [slCells]

theorem Own.slAt {w : World} {L : Sl} {ss : List Sl} (h : Own w T.y_sl_int 1 L (slCells ss)) {i : Nat} {s : Sl} (hs : ss[i]? = some s) : ∃ a, L.a = some a ∧ w.cell? (a.add (i * 1)) = some (.slice s.a s.len s.cap) := by
  obtain ⟨a, ha, hc⟩ := h.cell (j := i) (u := slV s) (by simp [slCells, hs])
  exact ⟨a, ha, by rw [Nat.mul_one]; exact hc⟩
theorem Own.slLen {w : World} {L : Sl} {ss : List Sl} (h : Own w T.y_sl_int 1 L (slCells ss)) : L.len = ss.length := by
  have := h.len; simp [slCells] at this; omega

abbrev Kept := Sl × List Int

/-- the book's lists of numbers, each with a row of its own -/
structure Bc (B0 : Nat) (w : World) (g : Nat) (L W : Sl) (xs : List Kept) : Prop where
  obj : BookAt w g L W
  own : Own w T.y_sl_int 1 L (slCells (xs.map (·.1)))
  rows : ∀ (i : Nat) (p : Kept), xs[i]? = some p → Own w T.y_int 1 p.1 (intCells p.2)
  dis : ∀ (i j : Nat) (p q : Kept), i ≠ j → xs[i]? = some p → xs[j]? = some q → ∀ k, p.1.bk k → ¬ q.1.bk k
  log : B0 ≤ g
  loL : ∀ k, L.bk k → B0 ≤ k
  loW : ∀ k, W.bk k → B0 ≤ k
  lor : ∀ (i : Nat) (p : Kept), xs[i]? = some p → ∀ k, p.1.bk k → B0 ≤ k

/-- the copies that were made at once -/
def Bw (w : World) (L W : Sl) (xs : List Kept) : Prop :=
  ∃ ws : List Sl, Own w T.y_sl_int 1 W (slCells ws) ∧ ws.length = xs.length ∧ (∀ k, L.bk k → ¬ W.bk k) ∧ ∀ (i : Nat) (p : Kept) (s : Sl), xs[i]? = some p → ws[i]? = some s → Own w T.y_int 1 s (intCells p.2)

theorem Bc.below {B0 : Nat} {w w' : World} {g : Nat} {L W : Sl} {xs : List Kept} (h : Bc B0 w g L W xs) (hB : Below w.heap.size w w') : Bc B0 w' g L W xs where
  obj := (fr_below hB).heap h.obj id
  own := h.own.keep (fr_below hB) (fun _ _ => id)
  rows := fun i p hp => (h.rows i p hp).keep (fr_below hB) (fun _ _ => id)
  dis := h.dis
  log := h.log
  loL := h.loL
  loW := h.loW
  lor := h.lor

theorem Bw.below {w w' : World} {L W : Sl} {xs : List Kept} (h : Bw w L W xs) (hB : Below w.heap.size w w') : Bw w' L W xs := by
  obtain ⟨ws, h1, h2, h3, h4⟩ := h
  exact ⟨ws, h1.keep (fr_below hB) (fun _ _ => id), h2, h3, fun i p s hp hs => (h4 i p s hp hs).keep (fr_below hB) (fun _ _ => id)⟩

theorem bookL {w : World} {g : Nat} {L W : Sl} (h : BookAt w g L W) : w.cell? ((blk g).add 2) = some (.slice L.a L.len L.cap) := by rw [blk_cell h]; rfl
theorem bookW {w : World} {g : Nat} {L W : Sl} (h : BookAt w g L W) : w.cell? ((blk g).add 3) = some (.slice W.a W.len W.cap) := by rw [blk_cell h]; rfl

set_option maxHeartbeats 1000000 in
/-- one more list is kept -/
theorem Ints_spec {B0 : Nat} {w : World} {g : Nat} {L W : Sl} {xs : List Kept} (h : Bc B0 w g L W xs) (hW : Bw w L W xs) (hn : xs.length ≤ 100) {l : Sl} {zs : List Int} (hO : Own w T.y_int 1 l (intCells zs)) (hz : zs.length ≤ 1000000)
    (hdis : ∀ (i : Nat) (p : Kept), xs[i]? = some p → ∀ k, p.1.bk k → ¬ l.bk k) (hlo : ∀ k, l.bk k → B0 ≤ k) {R : World → Prop}
    (hR : ∀ L' W' w', Bc B0 w' g L' W' (xs ++ [(l, zs)]) → Bw w' L' W' (xs ++ [(l, zs)]) → Fr (fun k => k = g ∨ L.bk k ∨ W.bk k) w w' → R w') : F.masonrybook_Book_Ints (some (blk g)) l w R := by
  obtain ⟨inf, hi, hzr, hs1, hby⟩ := info_slint
  obtain ⟨ws, hW1, hW2, hW3, hW4⟩ := hW
  apply E.masonrybook_Book_Ints
  unfold V.masonrybook_Book_Ints
  have hLl : L.len = xs.length := by rw [Own.slLen h.own, List.length_map]
  have hWl : W.len = xs.length := by rw [Own.slLen hW1, hW2]
  refine ⟨blk g, rfl, L, bookL h.obj, fun _ => ⟨blk g, rfl, L, bookL h.obj, ?_⟩, fun hf => by have := of_decide_eq_false hf; omega⟩
  intro w1
  have h1 : w1.heap[w.heap.size]? = some (.cells ⟨[.slice l.a l.len l.cap]⟩ T.y_sl_int (0, 0)) := heap_new w _
  have hF1 : Fr no w w1 := Fr.alloc no w _
  clear_value w1
  have hb1 := h.below (below_fr hF1)
  have hO1 := hO.keep hF1 (fun _ _ => id)
  have hW11 := hW1.keep hF1 (fun _ _ => id)
  refine runT_append und_sl_ints hi hzr hs1 hby rfl (by decide) hb1.own (m := 1) (news := slCells [l]) rfl (fun j u hu => by rw [blk_cell h1 j]; exact hu) (slCells_one _) (by simp only [maxLen]; omega) (by omega) fun L3 w2 hO2 hl2 hF2 hM2 => ?_
  rw [← slCells_app] at hO2
  have s1 := hF1.size
  have s2 := hF2.size
  have gL : ¬ L.bk g := fun hk => by
    obtain ⟨_, h2⟩ := Own.typ h.own hk
    exact typ_ne h.obj h2 (by decide)
  have gW : ¬ W.bk g := fun hk => by
    obtain ⟨_, h2⟩ := Own.typ hW1 hk
    exact typ_ne h.obj h2 (by decide)
  have obj2 := hF2.heap hb1.obj gL
  refine ⟨blk g, rfl, blk_wr obj2 (by simp [bookCells]), ?_⟩
  intro w3
  have obj3 : BookAt w3 g L3 W := by
    have := blk_set obj2 2 (.slice L3.a L3.len L3.cap)
    exact this
  have hF3 : Fr (· = g) w2 w3 := fr_set w2 g 2 _
  clear_value w3
  intro w4
  have obj4 : BookAt w4 g L3 W := obj3
  have hF4 : Fr (· = g) w2 w4 := hF3.trans (Fr.drew (· = g) w3) (fun _ _ h => h)
  clear_value w4
  have gL3 : ¬ L3.bk g := fun hk => by
    rcases moved_bk hM2 hk with h' | h'
    · exact gL h'
    · have := heap_lt hb1.obj; omega
  have hO4 := hO2.keep hF4 (fun k hk h' => gL3 (by have : k = g := h'; subst this; exact hk))
  have hl4 : Own w4 T.y_int 1 l (intCells zs) := (hO1.keep hF2 (fun k hk => Own.apart hO1 hb1.own (by decide) hk)).keep hF4 (fun k hk h' => by
    have : k = g := h'
    subst this
    obtain ⟨_, h2⟩ := Own.typ hO hk
    exact typ_ne h.obj h2 (by decide))
  have hW2' : Own w2 T.y_sl_int 1 W (slCells ws) := hW11.keep hF2 (fun k hk hk' => hW3 k hk' hk)
  have hW4' : Own w4 T.y_sl_int 1 W (slCells ws) := hW2'.keep hF4 (fun k hk h' => gW (by have : k = g := h'; subst this; exact hk))
  refine ⟨blk g, rfl, W, bookW obj4, copyInts_spec (Own.ints hl4) (fun ha => (Own.isNil hl4 ha).1) (by omega) fun l5 w5 hO5 hbk5 hF5 => ?_⟩
  have s4 := hF4.size
  have s5 := hF5.size
  have obj5 := hF5.heap obj4 id
  refine ⟨bookW obj5, ?_⟩
  intro w6
  have h6 : w6.heap[w5.heap.size]? = some (.cells ⟨[.slice l5.a l5.len l5.cap]⟩ T.y_sl_int (0, 0)) := heap_new w5 _
  have hF6 : Fr no w5 w6 := Fr.alloc no w5 _
  clear_value w6
  have obj6 := hF6.heap obj5 id
  have hW6 := (hW4'.keep hF5 (fun _ _ => id)).keep hF6 (fun _ _ => id)
  refine ⟨bookW obj6, ?_⟩
  refine runT_append und_sl_ints hi hzr hs1 hby rfl (by decide) hW6 (m := 1) (news := slCells [l5]) rfl (fun j u hu => by rw [blk_cell h6 j]; exact hu) (slCells_one _) (by simp only [maxLen]; omega) (by omega) fun W7 w7 hO7 hl7 hF7 hM7 => ?_
  rw [← slCells_app] at hO7
  have s6 := hF6.size
  have s7 := hF7.size
  have obj7 := hF7.heap obj6 gW
  refine ⟨blk g, rfl, blk_wr obj7 (by simp [bookCells]), ?_⟩
  intro w8
  have obj8 : BookAt w8 g L3 W7 := by
    have := blk_set obj7 3 (.slice W7.a W7.len W7.cap)
    exact this
  have hF8 : Fr (· = g) w7 w8 := fr_set w7 g 3 _
  clear_value w8
  have s8 := hF8.size
  have hgl : g < w.heap.size := heap_lt h.obj
  have gW7 : ¬ W7.bk g := fun hk => by
    rcases moved_bk hM7 hk with h' | h'
    · exact gW h'
    · omega
  -- everything that has a row of numbers, from w to w8
  have keepInt : ∀ {s : Sl} {ts : List Int}, Own w T.y_int 1 s (intCells ts) → Own w8 T.y_int 1 s (intCells ts) := fun {s ts} hs => by
    have ng : ∀ k, s.bk k → ¬ k = g := fun k hk h' => by
      subst h'
      obtain ⟨_, h2⟩ := Own.typ hs hk
      exact typ_ne h.obj h2 (by decide)
    have a1 := hs.keep hF1 (fun _ _ => id)
    have a2 := a1.keep hF2 (fun k hk => Own.apart a1 hb1.own (by decide) hk)
    have a3 := a2.keep hF4 ng
    have a4 := a3.keep hF5 (fun _ _ => id)
    have a5 := a4.keep hF6 (fun _ _ => id)
    have a6 := a5.keep hF7 (fun k hk => Own.apart a5 hW6 (by decide) hk)
    exact a6.keep hF8 ng
  have lbk3 : ∀ k, L3.bk k → L.bk k ∨ w1.heap.size ≤ k := fun k hk => moved_bk hM2 hk
  have lbk3' : ∀ k, L3.bk k → k < w2.heap.size := fun k hk => hO2.lt hk
  have wbk7 : ∀ k, W7.bk k → W.bk k ∨ w6.heap.size ≤ k := fun k hk => moved_bk hM7 hk
  have LW : ∀ k, L3.bk k → ¬ W7.bk k := fun k hk hk' => by
    have hk3 := lbk3' k hk
    rcases wbk7 k hk' with h' | h'
    · rcases lbk3 k hk with h2 | h2
      · exact hW3 k h2 h'
      · have := hW1.lt h'; omega
    · omega
  have get : ∀ {i : Nat} {p : Kept}, (xs ++ [(l, zs)])[i]? = some p → (i < xs.length ∧ xs[i]? = some p) ∨ (i = xs.length ∧ p = (l, zs)) := fun {i p} hp => by
    rcases Nat.lt_or_ge i xs.length with h' | h'
    · rw [List.getElem?_append_left h'] at hp
      exact .inl ⟨h', hp⟩
    · rw [List.getElem?_append_right h'] at hp
      have hi0 : i - xs.length = 0 := by
        have := (List.getElem?_eq_some_iff.1 hp).1; simp at this; omega
      rw [hi0] at hp
      exact .inr ⟨by omega, by simpa using hp.symm⟩
  refine hR L3 W7 w8 ⟨obj8, ?_, ?_, ?_, h.log, ?_, ?_, ?_⟩ ⟨ws ++ [l5], ?_, by simp [hW2], LW, ?_⟩ ?_
  · have e : (xs ++ [(l, zs)]).map (·.1) = xs.map (·.1) ++ [l] := by simp
    rw [e]
    exact (((hO4.keep hF5 (fun _ _ => id)).keep hF6 (fun _ _ => id)).keep hF7 (fun k hk hk' => by
      have hk3 := lbk3' k hk
      rcases lbk3 k hk with h2 | h2
      · exact hW3 k h2 hk'
      · have := hW1.lt hk'; omega)).keep hF8 (fun k hk h' => gL3 (by have : k = g := h'; subst this; exact hk))
  · intro i p hp
    rcases get hp with ⟨_, hp⟩ | ⟨_, rfl⟩
    · exact keepInt (h.rows i p hp)
    · exact keepInt hO
  · intro i j p q hij hp hq k hk hk'
    rcases get hp with ⟨_, hp⟩ | ⟨e1, rfl⟩
    · rcases get hq with ⟨_, hq⟩ | ⟨_, rfl⟩
      · exact h.dis i j p q hij hp hq k hk hk'
      · exact hdis i p hp k hk hk'
    · rcases get hq with ⟨_, hq⟩ | ⟨e2, rfl⟩
      · exact hdis j q hq k hk' hk
      · omega
  · intro k hk
    rcases lbk3 k hk with h2 | h2
    · exact h.loL k h2
    · have := h.log; omega
  · intro k hk
    rcases wbk7 k hk with h2 | h2
    · exact h.loW k h2
    · have := h.log; omega
  · intro i p hp k hk
    rcases get hp with ⟨_, hp⟩ | ⟨_, rfl⟩
    · exact h.lor i p hp k hk
    · exact hlo k hk
  · exact hO7.keep hF8 (fun k hk h' => gW7 (by have : k = g := h'; subst this; exact hk))
  · intro i p s hp hs
    rcases get hp with ⟨hlt, hp⟩ | ⟨e1, rfl⟩
    · rw [List.getElem?_append_left (by omega)] at hs
      exact keepInt (hW4 i p s hp hs)
    · rw [List.getElem?_append_right (by omega), e1, hW2, Nat.sub_self] at hs
      have : l5 = s := by simpa using hs
      subst this
      have a5 := hO5.keep hF6 (fun _ _ => id)
      have a6 := a5.keep hF7 (fun k hk => Own.apart a5 hW6 (by decide) hk)
      exact a6.keep hF8 (fun k hk h' => by have : k = g := h'; have := hbk5 k hk; omega)
  · have S1 := hF1.mono (S' := fun k => k = g ∨ L.bk k ∨ W.bk k) (fun k _ hk => hk.elim)
    have S2 := S1.trans (S' := L.bk) hF2 (fun k _ hk => .inr (.inl hk))
    have S4 := S2.trans (S' := (· = g)) hF4 (fun k _ hk => .inl hk)
    have S5 := S4.trans (S' := no) hF5 (fun k _ hk => hk.elim)
    have S6 := S5.trans (S' := no) hF6 (fun k _ hk => hk.elim)
    have S7 := S6.trans (S' := W.bk) hF7 (fun k _ hk => .inr (.inr hk))
    exact S7.trans (S' := (· = g)) hF8 (fun k _ hk => .inl hk)

theorem stillInts_spec {B0 : Nat} {w : World} {g : Nat} {L W : Sl} {xs : List Kept} (h : Bc B0 w g L W xs) (hW : Bw w L W xs) (hn : xs.length ≤ 100) (hz : ∀ (i : Nat) (p : Kept), xs[i]? = some p → p.2.length ≤ 1000000) {R : Bool → World → Prop}
    (hR : ∀ w', Below w.heap.size w w' → R true w') : F.masonrybook_Book_stillInts (some (blk g)) w R := by
  apply E.masonrybook_Book_stillInts
  unfold V.masonrybook_Book_stillInts
  have hLl : L.len = xs.length := by rw [Own.slLen h.own, List.length_map]
  refine ⟨fun i w' => ∃ m : Nat, i = m ∧ m ≤ xs.length ∧ Below w.heap.size w w', fun i _ => (xs.length - i).toNat, ⟨0, rfl, Nat.zero_le _, Below.refl _ _⟩, ?_⟩
  rintro i w1 ⟨m, rfl, hm, hB⟩
  refine ⟨blk g, rfl, L, bookL (h.below hB).obj, fun hlt => ?_, fun _ => hR w1 hB⟩
  have hlt : m < xs.length := by have := of_decide_eq_true hlt; omega
  have e1 : w64 ((m : Int) + 1) = ((m + 1 : Nat) : Int) := by rw [w64_id (by omega) (by omega)]; omega
  have hp : xs[m]? = some xs[m] := by simp [hlt]
  intro w2
  have hB2 : Below w.heap.size w w2 := hB.drew
  clear_value w2
  have hc := h.below hB2
  obtain ⟨ws, hW1, hW2, hW3, hW4⟩ := hW.below hB2
  have hWl : W.len = xs.length := by rw [Own.slLen hW1, hW2]
  have hq : ws[m]? = some (ws[m]'(by omega)) := by simp [show m < ws.length by omega]
  obtain ⟨a, ha, hca⟩ := Own.slAt hc.own (i := m) (s := xs[m].1) (by simp [hlt])
  obtain ⟨b, hb, hcb⟩ := Own.slAt hW1 hq
  refine ⟨blk g, rfl, L, bookL hc.obj, a, ha, by omega, by omega, xs[m].1, hca, blk g, rfl, W, bookW hc.obj, b, hb, by omega, by omega, ws[m]'(by omega), hcb, ?_⟩
  refine SameInts_spec (Own.ints (hc.rows m _ hp)) (Own.ints (hW4 m _ _ hp hq)) (by have := hz m _ hp; omega) fun w3 hB3 => ?_
  rw [decide_eq_true rfl]
  have hB03 := hB2.trans (hB3.mono hB2.size)
  have hc3 := h.below hB03
  refine ⟨bookW hc3.obj, bookL hc3.obj, fun h => by simp at h, fun _ => ⟨⟨m + 1, e1, hlt, hB03⟩, ?_⟩⟩
  show ((xs.length : Int) - w64 ((m : Int) + 1)).toNat < ((xs.length : Int) - (m : Int)).toNat
  rw [e1]; omega

end Go.Proofs.YtepclihkniaieaaGreatDoor
