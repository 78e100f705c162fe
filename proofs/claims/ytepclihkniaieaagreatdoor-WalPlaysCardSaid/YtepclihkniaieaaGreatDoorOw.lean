/- slices with rows of their own: what lies apart; an element set. -/
import Derived.Test.YtepclihkniaieaaGreatDoorHy
set_option linter.unusedVariables false
namespace Go.Proofs.YtepclihkniaieaaGreatDoor
open Go Go.Vc Go.RowKit Go.Lib

/-- append to a slice with a row of its own: in place, or into a new row, the old one left as it was -/
theorem runT_append2 {P : Program} {w : World} {t ty e : TypeId} {i : TypeInfo} {z : Value} {size bytes : Nat} (ht : P.underlying t = some (.slice e)) (hi : P.info? e = some i) (hz : i.zero = some z)
    (hsize : i.size = size) (hby : i.bytes = bytes) (hzs : z.cells.size = size) (hsz : 0 < size) {l : Sl} {xs : List Value} (hown : Own w e size l xs)
    {a : Addr} {m c : Nat} {news : List Value} (hl : news.length = m * size) (hnews : ∀ j u, news[j]? = some u → w.cell? (a.add j) = some u) (h1 : ∀ u ∈ news, u.oneCell' = true)
    (h63 : l.len + m ≤ maxLen) (hbytes : (l.len + m) * bytes ≤ 140737488355328) {R : Sl → World → Prop}
    (hR : ∀ l' w', Own w' e size l' (xs ++ news) → l'.len = l.len + m → ((l'.a = l.a ∧ Fr l.bk w w') ∨ ((∃ g, l'.a = some (blk g) ∧ w.heap.size ≤ g) ∧ Fr no w w')) → R l' w') :
    RunT P (Builtin.append_ #[t, t] ty #[.slice l.a l.len l.cap, .slice (some a) m c]) [.one .slice] w R := by
  obtain ⟨v', w', hr, ho, hg, hn⟩ := run_append_own (P := P) w 0 t ty e i z size bytes ht hi hz hsize hby hzs hsz _ l.len xs hown a m c news hl hnews h1 h63 hbytes (Nat.zero_le _)
  subst hsize
  subst hby
  have hsmall : l.len + m ≤ 9223372036854775807 := by simp only [maxLen] at h63; omega
  have hfr := fr_of_grown (l := l) hg
  have key : ∃ l' : Sl, v' = .slice l'.a l'.len l'.cap ∧ l'.len = l.len + m ∧ ((l'.a = l.a ∧ Fr l.bk w w') ∨ ((∃ g, l'.a = some (blk g) ∧ w.heap.size ≤ g) ∧ Fr no w w')) := by
    rcases hown.2 with ⟨h2, h0⟩ | ⟨g, cap, cur, h2, hbg, hgg, hnc, hcm, hcs, htake⟩
    · simp only [Value.slice.injEq] at h2
      obtain ⟨ha, hl0, hc0⟩ := h2
      by_cases hm : m = 0
      · exact ⟨⟨none, 0, 0⟩, hn.2 ⟨by rw [ha, hl0, hc0], hm⟩, by simp [hl0, hm], .inl ⟨ha.symm, hfr⟩⟩
      · have h3 := run_append_nil (P := P) w t ty e i z ht hi hz a m c news hl hnews (by omega) (by omega) (by rw [hl0] at hbytes; simp only [Nat.zero_add] at hbytes; omega)
        rw [ha, hl0, hc0] at hr
        rw [h3] at hr
        injection hr with hr hw
        refine ⟨⟨some (blk w.heap.size), m, _⟩, hr.symm, by simp [hl0], .inr ⟨⟨_, rfl, Nat.le_refl _⟩, ?_⟩⟩
        rw [← hw]
        exact (Fr.drew no w).trans (Fr.alloc no _ _) (fun _ _ h => h)
    · simp only [Value.slice.injEq] at h2
      obtain ⟨ha, _, hc0⟩ := h2
      by_cases hroom : l.len + m ≤ l.cap
      · have hfit : l.len * i.size + news.length ≤ cur.size := by rw [hl, hcs, ← Nat.add_mul, ← hc0]; exact Nat.mul_le_mul_right _ hroom
        have h3 := run_append_room (P := P) w t ty e i ht hi g l.len l.cap cur hgg a m c news hl hnews h1 hroom hfit
        rw [ha] at hr
        rw [h3] at hr
        injection hr with hr _
        exact ⟨⟨some (blk g), l.len + m, l.cap⟩, hr.symm, rfl, .inl ⟨ha.symm, hfr⟩⟩
      · have holds : ∀ j u, xs[j]? = some u → w.cell? ((⟨g, 0, none⟩ : Addr).add j) = some u := World.ownsRow.cells hown (g := g) (by rw [ha]; rfl)
        have h3 := run_append_grow (P := P) w t ty e i z ht hi hz ⟨g, 0, none⟩ l.len l.cap xs hown.1 holds a m c news hl hnews (by omega) (by omega) (growslice_fits (by omega) hbytes)
        rw [ha] at hr
        rw [h3] at hr
        injection hr with hr hw
        refine ⟨⟨some (blk w.heap.size), l.len + m, _⟩, hr.symm, rfl, .inr ⟨⟨_, rfl, Nat.le_refl _⟩, ?_⟩⟩
        rw [← hw]
        exact (Fr.drew no w).trans (Fr.alloc no _ _) (fun _ _ h => h)
  obtain ⟨l', rfl, hlen, hmv⟩ := key
  exact runT_slice hr (hR l' w' (by unfold Own; rw [← hlen] at ho; exact ho) hlen hmv)

theorem Own.typ {w : World} {t : TypeId} {size : Nat} {l : Sl} {xs : List Value} (h : Own w t size l xs) {k : Nat} (hk : l.bk k) : ∃ cs, w.heap[k]? = some (.cells cs t (0, 0)) := by
  obtain ⟨a, ha, rfl⟩ := hk
  rcases h.2 with ⟨h2, _⟩ | ⟨g, cap, cur, h2, hbg, hgg, _⟩
  · simp only [Value.slice.injEq] at h2
    rw [ha] at h2; cases h2.1
  · simp only [Value.slice.injEq] at h2
    rw [ha] at h2
    have : a = ⟨g, 0, none⟩ := by simpa using h2.1
    subst this
    exact ⟨cur, hgg⟩

theorem typ_ne {w : World} {k : Nat} {cs cs' : Array Value} {t t' : TypeId} (h : w.heap[k]? = some (.cells cs t (0, 0))) (h' : w.heap[k]? = some (.cells cs' t' (0, 0))) (hn : t ≠ t') : False := by
  rw [h] at h'
  injection h' with h'
  injection h' with _ h'
  exact hn h'

theorem Own.apart {w : World} {t t' : TypeId} {s s' : Nat} {l l' : Sl} {xs xs' : List Value} (h : Own w t s l xs) (h' : Own w t' s' l' xs') (hn : t ≠ t') {k : Nat} (hk : l.bk k) : ¬ l'.bk k := fun hk' => by
  obtain ⟨_, h1⟩ := Own.typ h hk
  obtain ⟨_, h2⟩ := Own.typ h' hk'
  exact typ_ne h1 h2 hn

theorem Own.setInt {w : World} {l : Sl} {zs : List Int} (h : Own w T.y_int 1 l (intCells zs)) {k : Nat} (hk : k < zs.length) (x : Int) {a : Addr} (ha : l.a = some a) :
    Wr w (a.add k) ∧ Own (w.setCell (a.add k) (.int .i64 x)) T.y_int 1 l (intCells (zs.set k x)) ∧ Fr l.bk w (w.setCell (a.add k) (.int .i64 x)) := by
  have hlen := (Own.ints h).1
  obtain ⟨g, cur, ha', hg, hc, ht, hlc, hm⟩ := Own.row h (by omega)
  rw [ha] at ha'
  injection ha' with ha'
  subst ha'
  have h2 := blk_set hg k (.int .i64 x)
  refine ⟨blk_wr hg (by omega), ?_, (fr_set w g k _).mono (fun i _ hi => ⟨blk g, ha, Eq.symm hi⟩)⟩
  have h3 := Own.of (n := l.len) (cap := l.cap) h2 (by rw [List.length_set, hc]) hlc hm
  have e : (cur.set k (.int .i64 x)).take (l.len * 1) = intCells (zs.set k x) := by
    rw [List.take_set, ht]
    simp [intCells, List.map_set]
  rw [e] at h3
  have : l = ⟨some (blk g), l.len, l.cap⟩ := by cases l; simp only at ha; subst ha; rfl
  rw [this]; exact h3

def slV (s : Sl) : Value := .slice s.a s.len s.cap

end Go.Proofs.YtepclihkniaieaaGreatDoor
