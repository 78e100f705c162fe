/- masonrybook.Book: marks into the lists that are kept, more behind them, and whether they are as they should be. -/
import Derived.Test.YtepclihkniaieaaGreatDoorBl
set_option linter.unusedVariables false
namespace Go.Proofs.YtepclihkniaieaaGreatDoor
open Go Go.Vc Go.RowKit Go.Lib

theorem Bc.set {B0 : Nat} {w : World} {g : Nat} {L W : Sl} {ys : List Kept} (h : Bc B0 w g L W ys) {m : Nat} {p : Kept} (hp : ys[m]? = some p) {k : Nat} (hk : k < p.2.length) (x : Int) {a : Addr} (ha : p.1.a = some a) :
    Wr w (a.add k) ∧ Bc B0 (w.setCell (a.add k) (.int .i64 x)) g L W (ys.set m (p.1, p.2.set k x)) ∧ Fr p.1.bk w (w.setCell (a.add k) (.int .i64 x)) := by
  have hO := h.rows m p hp
  obtain ⟨h1, h2, h3⟩ := Own.setInt hO hk x ha
  have hml : m < ys.length := (List.getElem?_eq_some_iff.1 hp).1
  have get : ∀ {i : Nat} {q : Kept}, (ys.set m (p.1, p.2.set k x))[i]? = some q → (i = m ∧ q = (p.1, p.2.set k x)) ∨ (i ≠ m ∧ ys[i]? = some q) := fun {i q} hq => by
    rw [List.getElem?_set] at hq
    by_cases him : m = i
    · subst him
      rw [if_pos rfl, if_pos hml] at hq
      exact .inl ⟨rfl, (Option.some.inj hq).symm⟩
    · rw [if_neg him] at hq
      exact .inr ⟨fun h => him h.symm, hq⟩
  have hmap : (ys.set m (p.1, p.2.set k x)).map (·.1) = ys.map (·.1) := by
    apply List.ext_getElem?
    intro i
    rw [List.getElem?_map, List.getElem?_map, List.getElem?_set]
    by_cases him : m = i
    · subst him
      rw [if_pos rfl, if_pos hml, hp]; rfl
    · rw [if_neg him]
  refine ⟨h1, ⟨?_, ?_, ?_, ?_, h.log, h.loL, h.loW, ?_⟩, h3⟩
  · exact h3.heap h.obj (fun hk => by
      obtain ⟨_, h2⟩ := Own.typ hO hk
      exact typ_ne h.obj h2 (by decide))
  · rw [hmap]
    exact h.own.keep h3 (fun k hk => Own.apart h.own hO (by decide) hk)
  · intro i q hq
    rcases get hq with ⟨rfl, rfl⟩ | ⟨hne, hq⟩
    · exact h2
    · exact (h.rows i q hq).keep h3 (h.dis i m q p hne hq hp)
  · intro i j q r hij hq hr k hk hk'
    rcases get hq with ⟨e1, e2⟩ | ⟨hne, hq1⟩
    · rcases get hr with ⟨e3, e4⟩ | ⟨hne2, hr1⟩
      · exact hij (by rw [e1, e3])
      · rw [e2] at hk
        exact h.dis m j p r (fun hh => hne2 hh.symm) hp hr1 k hk hk'
    · rcases get hr with ⟨e3, e4⟩ | ⟨hne2, hr1⟩
      · rw [e4] at hk'
        exact h.dis i m q p hne hq1 hp k hk hk'
      · exact h.dis i j q r hij hq1 hr1 k hk hk'
  · intro i q hq k hk
    rcases get hq with ⟨rfl, rfl⟩ | ⟨hne, hq⟩
    · exact h.lor i p hp k hk
    · exact h.lor i q hq k hk

/-- the first m lists hold marks -/
def Mk (xs ys : List Kept) (m : Nat) : Prop := ys.length = xs.length ∧ ∀ i p, xs[i]? = some p → ∃ q, ys[i]? = some q ∧ q.1 = p.1 ∧ q.2.length = p.2.length ∧ (i < m → q.2 = marks i 0 p.2.length)

set_option maxHeartbeats 1000000 in
theorem putInts_spec {B0 : Nat} {w : World} {g : Nat} {L W : Sl} {xs : List Kept} (h : Bc B0 w g L W xs) (hB0 : B0 ≤ w.heap.size) (hn : xs.length ≤ 100) (hz : ∀ (i : Nat) (p : Kept), xs[i]? = some p → p.2.length ≤ 1000000) {R : World → Prop}
    (hR : ∀ ys w', Bc B0 w' g L W ys → Mk xs ys xs.length → Below B0 w w' → R w') : F.masonrybook_Book_putInts (some (blk g)) w R := by
  apply E.masonrybook_Book_putInts
  unfold V.masonrybook_Book_putInts
  have hLl : L.len = xs.length := by rw [Own.slLen h.own, List.length_map]
  refine ⟨fun i w' => ∃ (m : Nat) (ys : List Kept), i = m ∧ m ≤ xs.length ∧ Bc B0 w' g L W ys ∧ Mk xs ys m ∧ Below B0 w w', fun i _ => (xs.length - i).toNat,
    ⟨0, xs, rfl, Nat.zero_le _, h, ⟨rfl, fun i p hp => ⟨p, hp, rfl, rfl, fun hi => absurd hi (Nat.not_lt_zero _)⟩⟩, Below.refl _ _⟩, ?_⟩
  rintro i w1 ⟨m, ys, rfl, hm, hc, hk, hB⟩
  refine ⟨blk g, rfl, L, bookL hc.obj, fun hlt => ?_, fun hge => ?_⟩
  · have hlt : m < xs.length := by have := of_decide_eq_true hlt; omega
    have e1 : w64 ((m : Int) + 1) = ((m + 1 : Nat) : Int) := by rw [w64_id (by omega) (by omega)]; omega
    have hp : xs[m]? = some xs[m] := by simp [hlt]
    have hzm := hz m _ hp
    obtain ⟨q, hq, hq1, hq2, _⟩ := hk.2 m _ hp
    obtain ⟨a, ha, hca⟩ := Own.slAt hc.own (i := m) (s := q.1) (by rw [List.getElem?_map, hq]; rfl)
    have hql : q.1.len = q.2.length := (Own.ints (hc.rows m q hq)).1
    refine ⟨blk g, rfl, L, bookL hc.obj, a, ha, by omega, by omega, q.1, hca, ?_⟩
    rw [hql]
    refine markInts_spec (a := 0) (by omega) (by omega) fun l3 w2 hO2 hbk2 hB2 => ?_
    have hl3 := (Own.ints hO2).1
    rw [marks_len] at hl3
    have s1 := hB.size
    have hB02 : Below B0 w w2 := hB.trans (hB2.mono (by have := hB.size; omega))
    refine ⟨fun k w' => ∃ (c : Nat) (zs : List Kept) (r : Kept), k = c ∧ c ≤ q.2.length ∧ Bc B0 w' g L W zs ∧ Mk xs zs m ∧ zs[m]? = some r ∧ r.1 = q.1 ∧ r.2.length = q.2.length ∧ (∀ j, j < c → r.2[j]? = (marks m 0 q.2.length)[j]?) ∧ Own w' T.y_int 1 l3 (intCells (marks m 0 q.2.length)) ∧ Below B0 w w', fun k _ => (q.2.length - k).toNat,
      ⟨0, ys, q, rfl, Nat.zero_le _, hc.below hB2, hk, hq, rfl, rfl, fun j hj => absurd hj (Nat.not_lt_zero _), hO2, hB02⟩, ?_⟩
    rintro k w3 ⟨c, zs, r, rfl, hcl, hc3, hk3, hr, hr1, hr2, hrc, hO3, hB3⟩
    refine ⟨fun hlt2 => ?_, fun hge2 => ?_⟩
    · have hlt2 : c < q.2.length := by have := of_decide_eq_true hlt2; omega
      have e2 : w64 ((c : Int) + 1) = ((c + 1 : Nat) : Int) := by rw [w64_id (by omega) (by omega)]; omega
      intro w4
      have hF4 : Fr no w3 w4 := Fr.drew no w3
      have hc4 : Bc B0 w4 g L W zs := hc3.below (below_fr hF4)
      have hO4 : Own w4 T.y_int 1 l3 (intCells (marks m 0 q.2.length)) := hO3.keep hF4 (fun _ _ => id)
      clear_value w4
      obtain ⟨b, hb, hcb⟩ := Own.slAt hc4.own (i := m) (s := r.1) (by rw [List.getElem?_map, hr]; rfl)
      obtain ⟨a5, ha5, hc5⟩ := (Own.ints hO4).2 c ((marks m 0 q.2.length)[c]'(by rw [marks_len]; exact hlt2)) (by simp [marks_len, hlt2])
      have hrl : r.1.len = r.2.length := (Own.ints (hc4.rows m r hr)).1
      obtain ⟨a6, ha6, _⟩ := (Own.ints (hc4.rows m r hr)).2 c (r.2[c]'(by omega)) (by simp [show c < r.2.length by omega])
      obtain ⟨wr, hset, hFs⟩ := Bc.set hc4 hr (k := c) (by omega) ((marks m 0 q.2.length)[c]'(by rw [marks_len]; exact hlt2)) ha6
      rw [show ((c : Int)).toNat * 1 = c by omega]
      refine ⟨blk g, rfl, L, bookL hc4.obj, b, hb, by omega, by omega, r.1, by simpa using hcb, a5, ha5, by omega, by omega, _, by simpa using hc5, a6, ha6, by omega, by omega, wr, ?_⟩
      intro w5
      have hset : Bc B0 w5 g L W (zs.set m (r.1, r.2.set c ((marks m 0 q.2.length)[c]'(by rw [marks_len]; exact hlt2)))) := hset
      have hFs : Fr r.1.bk w4 w5 := hFs
      clear_value w5
      have hml : m < zs.length := (List.getElem?_eq_some_iff.1 hr).1
      have s3 := hB3.size
      have hl3lt : ∀ k, l3.bk k → ¬ r.1.bk k := fun k hk hk' => by
        rw [hr1] at hk'
        have h1 := (hc.rows m q hq).lt hk'
        have h2 := hbk2 k hk
        omega
      refine ⟨⟨c + 1, _, (r.1, r.2.set c ((marks m 0 q.2.length)[c]'(by rw [marks_len]; exact hlt2))), e2, hlt2, hset, ?_, ?_, hr1, by simp [hr2], fun j hj => ?_, hO4.keep hFs hl3lt, ?_⟩, ?_⟩
      · refine ⟨by rw [List.length_set]; exact hk3.1, fun i p hpi => ?_⟩
        obtain ⟨q', hq', h1, h2, h3⟩ := hk3.2 i p hpi
        by_cases him : m = i
        · subst him
          rw [hr] at hq'
          have := Option.some.inj hq'
          subst this
          exact ⟨(r.1, r.2.set c ((marks m 0 q.2.length)[c]'(by rw [marks_len]; exact hlt2))), by rw [List.getElem?_set, if_pos rfl, if_pos hml], h1, by simp [h2], fun hlt => absurd hlt (Nat.lt_irrefl _)⟩
        · exact ⟨q', by rw [List.getElem?_set, if_neg him]; exact hq', h1, h2, h3⟩
      · rw [List.getElem?_set, if_pos rfl, if_pos hml]
      · simp only
        rw [List.getElem?_set]
        by_cases hjc : c = j
        · subst hjc
          rw [if_pos rfl, if_pos (by omega)]
          simp [marks_len, hlt2]
        · rw [if_neg hjc]
          exact hrc j (by omega)
      · exact (hB3.trans ((below_fr hF4).mono (by omega))).trans (hFs.toBelow (fun k hk => hc4.lor m r hr k hk) (by have := hF4.size; omega))
      · show ((q.2.length : Int) - w64 ((c : Int) + 1)).toNat < ((q.2.length : Int) - (c : Int)).toNat
        rw [e2]; omega
    · have hcc : c = q.2.length := by have := of_decide_eq_false hge2; omega
      subst hcc
      refine ⟨⟨m + 1, zs, e1, hlt, hc3, ⟨hk3.1, fun i p hpi => ?_⟩, hB3⟩, ?_⟩
      · obtain ⟨q', hq', h1, h2, h3⟩ := hk3.2 i p hpi
        refine ⟨q', hq', h1, h2, fun him => ?_⟩
        rcases Nat.lt_succ_iff_lt_or_eq.1 him with h4 | h4
        · exact h3 h4
        · subst h4
          rw [hr] at hq'
          have := Option.some.inj hq'
          subst this
          rw [← h2, hr2]
          apply List.ext_getElem?
          intro j
          by_cases hj : j < q.2.length
          · exact hrc j hj
          · rw [List.getElem?_eq_none (by omega), List.getElem?_eq_none (by rw [marks_len]; omega)]
      · show ((xs.length : Int) - w64 ((m : Int) + 1)).toNat < ((xs.length : Int) - (m : Int)).toNat
        rw [e1]; omega
  · have hmm : m = xs.length := by have := of_decide_eq_false hge; omega
    subst hmm
    exact hR ys w1 hc hk hB

/-- a list that is grown: in its own row, or in a new one, the old one left as it was -/
structure Gs (w0 : World) (p : Kept) (m : Nat) (l : Sl) (n : Nat) (w : World) : Prop where
  own : Own w T.y_int 1 l (intCells (marks m 0 n))
  alt : l.a = p.1.a ∨ ((∀ k, l.bk k → w0.heap.size ≤ k) ∧ Ints w p.1 p.2)
  fr : Fr (fun k => p.1.bk k ∨ w0.heap.size ≤ k) w0 w

theorem marks_pre {m n0 n j : Nat} {x : Int} (hn : n0 ≤ n) (hj : (marks m 0 n0)[j]? = some x) : (marks m 0 n)[j]? = some x := by
  obtain ⟨d, rfl⟩ : ∃ d, n = n0 + d := ⟨n - n0, by omega⟩
  rw [← marks_app, List.getElem?_append_left (List.getElem?_eq_some_iff.1 hj).1]
  exact hj

theorem Gs.ints {w0 : World} {p : Kept} {m : Nat} {l : Sl} {n : Nat} {w : World} (h : Gs w0 p m l n w) {n0 : Nat} (hp : p.2 = marks m 0 n0) (hn : n0 ≤ n) (hpl : p.1.len = p.2.length) : Ints w p.1 p.2 := by
  rcases h.alt with ha | ⟨_, hi⟩
  · refine ⟨hpl, fun j x hj => ?_⟩
    rw [hp] at hj
    obtain ⟨a, ha', hc⟩ := (Own.ints h.own).2 j x (marks_pre hn hj)
    exact ⟨a, by rw [← ha]; exact ha', hc⟩
  · exact hi

theorem Gs.step {w0 : World} {p : Kept} {m : Nat} {l : Sl} {n : Nat} {w : World} (h : Gs w0 p m l n w) {n0 b : Nat} (hp : p.2 = marks m 0 n0) (hn : n0 ≤ n) (hpl : p.1.len = p.2.length) (hp0 : ∀ k, p.1.bk k → k < w0.heap.size) (hm : m ≤ 1000) (hnb : n + b ≤ 10000000) (hb : 0 < b) {R : Sl → World → Prop}
    (hR : ∀ l' w', Gs w0 p m l' (n + b) w' → R l' w') : F.masonrybook_markInts (m : Int) ((l.len : Nat) : Int) (b : Int) w (fun l4 w2 => RunT Pg (Builtin.append_ #[T.y_sl_int, T.y_sl_int] T.y_sl_int #[.slice l.a l.len l.cap, .slice l4.a l4.len l4.cap]) [.one .slice] w2 R) := by
  obtain ⟨inf, hi, hz, hs1, hby⟩ := info_int
  have hll := (Own.ints h.own).1
  rw [marks_len] at hll
  rw [hll]
  refine markInts_spec hm (by omega) fun l4 w2 hO2 hbk2 hB2 => ?_
  have hOl := h.own.keep (fr_below hB2) (fun _ _ => id)
  have h4l := (Own.ints hO2).1
  rw [marks_len] at h4l
  obtain ⟨a4, ha4, _⟩ := (Own.ints hO2).2 0 _ (by rw [List.getElem?_eq_getElem (by rw [marks_len]; omega)])
  have hcell := (Own.ints hO2).cell ha4
  have s0 := h.fr.size
  have s2 := hB2.size
  have hFr2 : Fr (fun k => p.1.bk k ∨ w0.heap.size ≤ k) w0 w2 := h.fr.trans (fr_below hB2) (fun k _ hk => hk.elim)
  rw [ha4, ← hll]
  refine runT_append2 und_ints hi hz hs1 hby rfl (by decide) hOl (m := l4.len) (news := intCells (marks m n b)) (by simp [intCells, marks_len, h4l]) hcell (intCells_one _) (by simp only [maxLen]; omega) (by omega) fun l5 w5 ho hl5 hmv => ?_
  rw [← intCells_app, marks_app] at ho
  have hpi2 : Ints w2 p.1 p.2 := (h.ints hp hn hpl).below hB2
  rcases hmv with ⟨ha, hF⟩ | ⟨⟨g, hg, hgw⟩, hF⟩
  · rcases h.alt with hal | ⟨hal, _⟩
    · refine hR l5 w5 ⟨ho, .inl (by rw [ha, hal]), hFr2.trans (S' := l.bk) hF (fun k _ hk => .inl (by obtain ⟨x, hx, hx'⟩ := hk; exact ⟨x, by rw [← hal]; exact hx, hx'⟩))⟩
    · refine hR l5 w5 ⟨ho, .inr ⟨fun k hk => hal k (by obtain ⟨x, hx, hx'⟩ := hk; exact ⟨x, by rw [← ha]; exact hx, hx'⟩), hpi2.keep hF (fun k hk hk' => by have := hal k hk'; have := hp0 k hk; omega)⟩, hFr2.trans (S' := l.bk) hF (fun k _ hk => .inr (hal k hk))⟩
  · refine hR l5 w5 ⟨ho, .inr ⟨fun k hk => ?_, hpi2.keep hF (fun _ _ => id)⟩, hFr2.trans (S' := no) hF (fun k _ hk => hk.elim)⟩
    obtain ⟨x, hx, rfl⟩ := hk
    rw [hg] at hx
    injection hx with hx
    subst hx
    show w0.heap.size ≤ g
    omega

set_option maxHeartbeats 1000000 in
theorem growInts_spec {B0 : Nat} {w : World} {g : Nat} {L W : Sl} {ys : List Kept} (h : Bc B0 w g L W ys) (hB0 : B0 ≤ w.heap.size) (hn : ys.length ≤ 100) (hz : ∀ (i : Nat) (p : Kept), ys[i]? = some p → p.2.length ≤ 1000000 ∧ p.2 = marks i 0 p.2.length) {R : Sl → World → Prop}
    (hR : ∀ out os w', Own w' T.y_sl_int 1 out (slCells os) → os.length = ys.length → (∀ (i : Nat) (s : Sl), os[i]? = some s → ∃ n, n ≤ 1000072 ∧ Ints w' s (marks i 0 n)) → BookAt w' g L W → Own w' T.y_sl_int 1 L (slCells (ys.map (·.1))) → (∀ (i : Nat) (p : Kept), ys[i]? = some p → Ints w' p.1 p.2) → Below B0 w w' → R out w') :
    F.masonrybook_Book_growInts (some (blk g)) w R := by
  obtain ⟨inf, hi, hzr, hs1, hby⟩ := info_slint
  apply E.masonrybook_Book_growInts
  unfold V.masonrybook_Book_growInts
  have hLl : L.len = ys.length := by rw [Own.slLen h.own, List.length_map]
  refine ⟨fun out i w' => ∃ (m : Nat) (os : List Sl), i = m ∧ m ≤ ys.length ∧ BookAt w' g L W ∧ Own w' T.y_sl_int 1 L (slCells (ys.map (·.1))) ∧ (∀ (i : Nat) (p : Kept), m ≤ i → ys[i]? = some p → Own w' T.y_int 1 p.1 (intCells p.2)) ∧ (∀ (i : Nat) (p : Kept), i < m → ys[i]? = some p → Ints w' p.1 p.2) ∧
      Own w' T.y_sl_int 1 out (slCells os) ∧ os.length = m ∧ (∀ k, out.bk k → w.heap.size ≤ k) ∧ (∀ (i : Nat) (s : Sl), os[i]? = some s → ∃ n, n ≤ 1000072 ∧ Own w' T.y_int 1 s (intCells (marks i 0 n)) ∧ ∀ k, s.bk k → w.heap.size ≤ k ∨ ∃ p, ys[i]? = some p ∧ p.1.bk k) ∧ w.heap.size ≤ w'.heap.size ∧ Below B0 w w', fun _ i _ => (ys.length - i).toNat,
    ⟨0, [], rfl, Nat.zero_le _, h.obj, h.own, fun i p _ hp => h.rows i p hp, fun i p hi => absurd hi (Nat.not_lt_zero _), Own.nil _ _ _, rfl, fun k hk => bk_nil hk, fun i s hs => by simp at hs, Nat.le_refl _, Below.refl _ _⟩, ?_⟩
  rintro out i w1 ⟨m, os, rfl, hm, hobj, hown, hA, hBi, hout, hosl, hobk, hD, hsz, hB⟩
  refine ⟨blk g, rfl, L, bookL hobj, fun hlt => ?_, fun hge => ?_⟩
  · have hlt : m < ys.length := by have := of_decide_eq_true hlt; omega
    have e1 : w64 ((m : Int) + 1) = ((m + 1 : Nat) : Int) := by rw [w64_id (by omega) (by omega)]; omega
    have hp : ys[m]? = some ys[m] := by simp [hlt]
    generalize ys[m] = p at hp
    obtain ⟨hzm, hmk⟩ := hz m _ hp
    have hOp := hA m p (Nat.le_refl _) hp
    have hpl : p.1.len = p.2.length := (Own.ints hOp).1
    have hp0 : ∀ k, p.1.bk k → k < w1.heap.size := fun k hk => hOp.lt hk
    have hpw : ∀ k, p.1.bk k → k < w.heap.size := fun k hk => (h.rows m p hp).lt hk
    obtain ⟨a, ha, hca⟩ := Own.slAt hown (i := m) (s := p.1) (by rw [List.getElem?_map, hp]; rfl)
    refine ⟨blk g, rfl, L, bookL hobj, a, ha, by omega, by omega, p.1, hca, ?_⟩
    refine ⟨fun l n w' => ∃ c : Nat, n = c ∧ c ≤ 12 ∧ Gs w1 p m l (p.2.length + c) w', fun _ n _ => (12 - n).toNat, ⟨0, rfl, Nat.zero_le _, ⟨by rw [Nat.add_zero, ← hmk]; exact hOp, .inl rfl, Fr.refl _ _⟩⟩, ?_⟩
    rintro l n w2 ⟨c, rfl, hc, hG⟩
    refine ⟨fun hlt2 => ?_, fun hge2 => ?_⟩
    · have hlt2 : c < 12 := by have := of_decide_eq_true hlt2; omega
      have e2 : w64 ((c : Int) + 1) = ((c + 1 : Nat) : Int) := by rw [w64_id (by omega) (by omega)]; omega
      refine hG.step (b := 1) hmk (by omega) hpl hp0 (by omega) (by omega) (by decide) fun l5 w5 hG5 => ⟨⟨c + 1, e2, hlt2, hG5⟩, ?_⟩
      show ((12 : Int) - w64 ((c : Int) + 1)).toNat < ((12 : Int) - (c : Int)).toNat
      rw [e2]; omega
    · have hc12 : c = 12 := by have := of_decide_eq_false hge2; omega
      subst hc12
      refine hG.step (b := 60) hmk (by omega) hpl hp0 (by omega) (by omega) (by decide) fun l7 w5 hG5 => ?_
      intro w6
      have h6 : w6.heap[w5.heap.size]? = some (.cells ⟨[.slice l7.a l7.len l7.cap]⟩ T.y_sl_int (0, 0)) := heap_new w5 _
      have hF6 : Fr no w5 w6 := Fr.alloc no w5 _
      clear_value w6
      have hT : Fr (fun k => p.1.bk k ∨ w1.heap.size ≤ k) w1 w6 := hG5.fr.trans (S' := no) hF6 (fun k _ hk => hk.elim)
      have s5 := hG5.fr.size
      have s6 := hF6.size
      have outlt : ∀ k, out.bk k → k < w1.heap.size := fun k hk => hout.lt hk
      have hout6 := hout.keep hT (fun k hk hk' => by
        rcases hk' with h1 | h1
        · have := hobk k hk; have := hpw k h1; omega
        · have := outlt k hk; omega)
      have hol := Own.slLen hout6
      refine runT_append und_sl_ints hi hzr hs1 hby rfl (by decide) hout6 (m := 1) (news := slCells [l7]) rfl (fun j u hu => by rw [blk_cell h6 j]; exact hu) (slCells_one _) (by simp only [maxLen]; omega) (by omega) fun l8 w7 ho8 hl8 hF8 hM8 => ?_
      rw [← slCells_app] at ho8
      have s7 := hF8.size
      have gne : ∀ k, (p.1.bk k ∨ w1.heap.size ≤ k) → ¬ k = g := fun k hk h' => by
        subst h'
        rcases hk with h1 | h1
        · obtain ⟨_, h2⟩ := Own.typ hOp h1
          exact typ_ne hobj h2 (by decide)
        · have := heap_lt hobj; omega
      have hobj6 : BookAt w6 g L W := hT.heap hobj (fun hk => gne g hk rfl)
      have hobj7 : BookAt w7 g L W := hF8.heap hobj6 (fun hk => by
        obtain ⟨_, h2⟩ := Own.typ hout6 hk
        exact typ_ne hobj6 h2 (by decide))
      have hown6 := hown.keep hT (fun k hk hk' => by
        rcases hk' with h1 | h1
        · exact Own.apart hown hOp (by decide) hk h1
        · have := hown.lt hk; omega)
      have hLout : ∀ k, L.bk k → ¬ out.bk k := fun k hk hk' => by have := h.own.lt hk; have := hobk k hk'; omega
      have hown7 := hown6.keep hF8 hLout
      have intT : ∀ {s : Sl} {ts : List Int}, Own w1 T.y_int 1 s (intCells ts) → (∀ k, s.bk k → ¬ p.1.bk k) → Own w7 T.y_int 1 s (intCells ts) := fun {s ts} hs hd => by
        have a1 := hs.keep hT (fun k hk hk' => by
          rcases hk' with h1 | h1
          · exact hd k hk h1
          · have := hs.lt hk; omega)
        exact a1.keep hF8 (fun k hk => Own.apart a1 hout6 (by decide) hk)
      have hl7 : Own w7 T.y_int 1 l7 (intCells (marks m 0 (p.2.length + 12 + 60))) := by
        have a1 := hG5.own.keep hF6 (fun _ _ => id)
        exact a1.keep hF8 (fun k hk => Own.apart a1 hout6 (by decide) hk)
      have hpi7 : Ints w7 p.1 p.2 := by
        have a1 := (hG5.ints hmk (by omega) hpl).keep hF6 (fun _ _ => id)
        exact a1.keep hF8 (fun k hk hk' => by have := hpw k hk; have := hobk k hk'; omega)
      refine ⟨⟨m + 1, os ++ [l7], e1, hlt, hobj7, hown7, fun i q hmi hq => intT (hA i q (by omega) hq) (h.dis i m q p (by omega) hq hp), fun i q hmi hq => ?_, ho8, by simp [hosl], fun k hk => ?_, fun i s hs => ?_, by omega, ?_⟩, ?_⟩
      · rcases Nat.lt_succ_iff_lt_or_eq.1 hmi with h1 | h1
        · have a1 := (hBi i q h1 hq).keep hT (fun k hk hk' => by
            have hqw := (h.rows i q hq).lt hk
            rcases hk' with h2 | h2
            · exact h.dis i m q p (by omega) hq hp k hk h2
            · omega)
          exact a1.keep hF8 (fun k hk hk' => by have := (h.rows i q hq).lt hk; have := hobk k hk'; omega)
        · subst h1
          rw [hp] at hq
          have := Option.some.inj hq
          subst this
          exact hpi7
      · rcases moved_bk hM8 hk with h1 | h1
        · exact hobk k h1
        · omega
      · rcases Nat.lt_or_ge i os.length with h1 | h1
        · rw [List.getElem?_append_left h1] at hs
          obtain ⟨n, hn1, hn2, hn3⟩ := hD i s hs
          refine ⟨n, hn1, intT hn2 (fun k hk hk' => ?_), hn3⟩
          rcases hn3 k hk with h2 | ⟨q, hq, h2⟩
          · have := hpw k hk'; omega
          · exact h.dis i m q p (by omega) hq hp k h2 hk'
        · have hi0 : i = m := by
            have := (List.getElem?_eq_some_iff.1 hs).1; simp at this; omega
          subst hi0
          rw [List.getElem?_append_right (by omega), hosl, Nat.sub_self] at hs
          have : l7 = s := by simpa using hs
          subst this
          refine ⟨p.2.length + 12 + 60, by omega, hl7, fun k hk => ?_⟩
          rcases hG5.alt with h2 | ⟨h2, _⟩
          · exact .inr ⟨p, hp, by obtain ⟨x, hx, hx'⟩ := hk; exact ⟨x, by rw [← h2]; exact hx, hx'⟩⟩
          · have := h2 k hk; exact .inl (by omega)
      · have b6 : Below B0 w1 w6 := hT.toBelow (fun k hk => by
          rcases hk with h1 | h1
          · exact h.lor m p hp k h1
          · omega) (by omega)
        exact (hB.trans b6).trans (hF8.toBelow (fun k hk => by have := hobk k hk; omega) (by omega))
      · show ((ys.length : Int) - w64 ((m : Int) + 1)).toNat < ((ys.length : Int) - (m : Int)).toNat
        rw [e1]; omega
  · have hmm : m = ys.length := by have := of_decide_eq_false hge; omega
    subst hmm
    refine hR out os w1 hout hosl (fun i s hs => ?_) hobj hown (fun i p hp => hBi i p (List.getElem?_eq_some_iff.1 hp).1 hp) hB
    obtain ⟨n, h1, h2, _⟩ := hD i s hs
    exact ⟨n, h1, Own.ints h2⟩

theorem markedInts_spec {w : World} {L : Sl} {ss : List Sl} (h : Own w T.y_sl_int 1 L (slCells ss)) (hn : ss.length ≤ 100) (hm : ∀ (i : Nat) (s : Sl), ss[i]? = some s → ∃ n, n ≤ 1000072 ∧ Ints w s (marks i 0 n)) {R : Bool → World → Prop}
    (hR : ∀ w', Below w.heap.size w w' → R true w') : F.masonrybook_markedInts L w R := by
  apply E.masonrybook_markedInts
  unfold V.masonrybook_markedInts
  have hLl := Own.slLen h
  refine ⟨fun i w' => ∃ m : Nat, i = m ∧ m ≤ ss.length ∧ Below w.heap.size w w', fun i _ => (ss.length - i).toNat, ⟨0, rfl, Nat.zero_le _, Below.refl _ _⟩, ?_⟩
  rintro i w1 ⟨m, rfl, hm0, hB⟩
  refine ⟨fun hlt => ?_, fun _ => hR w1 hB⟩
  have hlt : m < ss.length := by have := of_decide_eq_true hlt; omega
  have e1 : w64 ((m : Int) + 1) = ((m + 1 : Nat) : Int) := by rw [w64_id (by omega) (by omega)]; omega
  have hs : ss[m]? = some ss[m] := by simp [hlt]
  obtain ⟨n, hn1, hn2⟩ := hm m _ hs
  intro w2
  have hB2 : Below w.heap.size w w2 := hB.drew
  clear_value w2
  have cc : ∀ {w'}, Below w.heap.size w w' → ∃ a, L.a = some a ∧ w'.cell? (a.add ((m : Int).toNat * 1)) = some (.slice ss[m].a ss[m].len ss[m].cap) := fun hb => Own.slAt (h.keep (fr_below hb) (fun _ _ => id)) hs
  obtain ⟨a, ha, hc⟩ := cc hB2
  have hl := hn2.1
  rw [marks_len] at hl
  refine ⟨a, ha, by omega, by omega, ss[m], hc, a, ha, by omega, by omega, ss[m], hc, ?_⟩
  rw [hl]
  refine markInts_spec (a := 0) (by omega) (by omega) fun l3 w3 hO3 hbk3 hB3 => ?_
  have hB03 := hB2.trans (hB3.mono hB2.size)
  have c3 : w3.cell? (a.add ((m : Int).toNat * 1)) = some (.slice ss[m].a ss[m].len ss[m].cap) := by
    obtain ⟨a', ha', hc'⟩ := cc hB03
    rw [ha] at ha'; injection ha' with ha'; subst ha'; exact hc'
  rw [hl] at c3
  refine ⟨c3, c3, SameInts_spec (hn2.below hB03) (Own.ints hO3) (by rw [marks_len]; omega) fun w4 hB4 => ?_⟩
  have hB04 := hB03.trans (hB4.mono hB03.size)
  have c4 : w4.cell? (a.add ((m : Int).toNat * 1)) = some (.slice ss[m].a ss[m].len ss[m].cap) := by
    obtain ⟨a', ha', hc'⟩ := cc hB04
    rw [ha] at ha'; injection ha' with ha'; subst ha'; exact hc'
  rw [hl] at c4
  rw [decide_eq_true rfl]
  refine ⟨c4, fun h => by simp at h, fun _ => ⟨⟨m + 1, e1, hlt, hB04⟩, ?_⟩⟩
  show ((ss.length : Int) - w64 ((m : Int) + 1)).toNat < ((ss.length : Int) - (m : Int)).toNat
  rw [e1]; omega

end Go.Proofs.YtepclihkniaieaaGreatDoor
