/- masonrybook: SameInts, Room; masonrylaw12: need, Light; chain.Need of all numbers. -/
import Derived.Test.YtmokmbhhnbcelaaGreatDoorPm
import Derived.Test.YtmokmbhhnbcelaaGreatDoorGi
import Derived.Test.YtmokmbhhnbcelaaGreatDoorShelg
import Derived.OpenShut
import Derived.Test.YtmokmbhhnbcelaaGreatDoorRows
set_option linter.unusedVariables false
namespace Go.Proofs.YtmokmbhhnbcelaaGreatDoor
open Go Go.Vc Go.RowKit Go.Lib
theorem Has.int {w : World} {l : Sl} {xs : List Int} (h : Has EI w l xs) {m : Nat} (hm : m < xs.length) : ∃ ad, l.a = some ad ∧ m < l.len ∧ w.cell? (ad.add (m * 1)) = some (.int .i64 xs[m]) := by
  obtain ⟨ad, ha, hl, hc⟩ := h.at hm
  have h0 := hc 0 _ rfl
  rw [Vc.addr_add0] at h0
  exact ⟨ad, ha, hl, h0⟩
section
variable {w : World} {X : List As}
end
/-! ### What is done -/
structure OpC where
  kind : Int
  k : Int
  gen : Int
  tag : Int
  by_ : Int
  s : Bs
  more : Int
def EOC : Enc OpC := ⟨fun o => [.int .i64 o.kind, .int .i64 o.k, .int .i64 o.gen, .int .i64 o.tag, .int .i64 o.by_, .string (tx o.s), .int .i64 o.more], 7, fun _ => rfl, fun _ u hu => by simp only [List.mem_cons, List.not_mem_nil, or_false] at hu; rcases hu with rfl | rfl | rfl | rfl | rfl | rfl | rfl <;> rfl⟩
theorem Has.op {w : World} {l : Sl} {xs : List OpC} (h : Has EOC w l xs) {m : Nat} (hm : m < xs.length) : ∃ ad, l.a = some ad ∧ m < l.len ∧ w.cell? (ad.add (m * 7)) = some (.int .i64 xs[m].kind) ∧ w.cell? ((ad.add (m * 7)).add 1) = some (.int .i64 xs[m].k) ∧ w.cell? ((ad.add (m * 7)).add 2) = some (.int .i64 xs[m].gen) ∧ w.cell? ((ad.add (m * 7)).add 3) = some (.int .i64 xs[m].tag) ∧ w.cell? ((ad.add (m * 7)).add 4) = some (.int .i64 xs[m].by_) ∧ w.cell? ((ad.add (m * 7)).add 5) = some (.string (tx xs[m].s)) ∧ w.cell? ((ad.add (m * 7)).add 6) = some (.int .i64 xs[m].more) := by
  obtain ⟨ad, ha, hl, hc⟩ := h.at hm
  have h0 := hc 0 _ rfl
  rw [Vc.addr_add0] at h0
  exact ⟨ad, ha, hl, h0, hc 1 _ rfl, hc 2 _ rfl, hc 3 _ rfl, hc 4 _ rfl, hc 5 _ rfl, hc 6 _ rfl⟩
section
variable {w : World} {X : List As}
end
end Go.Proofs.YtmokmbhhnbcelaaGreatDoor

/- BrickMany: the walk. -/
set_option linter.unusedVariables false
namespace Go.Proofs.YtmokmbhhnbcelaaGreatDoor
open Go Go.Vc Go.RowKit Go.Lib
def ats (es : List Ent) : List Int := es.map fun e => e.x.at_
def rfs (es : List Ent) : List Int := es.map fun e => e.x.refs
theorem ats_len (es : List Ent) : (ats es).length = es.length := by simp [ats]
theorem rfs_len (es : List Ent) : (rfs es).length = es.length := by simp [rfs]
theorem ats_snoc (es : List Ent) (e : Ent) : ats (es ++ [e]) = ats es ++ [e.x.at_] := by simp [ats]
theorem rfs_snoc (es : List Ent) (e : Ent) : rfs (es ++ [e]) = rfs es ++ [e.x.refs] := by simp [rfs]
/-- the pieces so far -/
structure BM (gen : Int) (l : List Bs) (es : List Ent) : Prop where
  ok : ∀ (j : Nat) (e : Ent), es[j]? = some e → e.x.gen = gen ∧ BrOk e.x ∧ l[j]? = some (e.x.data.drop 33)
theorem BM.snoc {gen : Int} {l : List Bs} {es : List Ent} {e : Ent} (h : BM gen l es) (h1 : e.x.gen = gen) (h2 : BrOk e.x) (h3 : l[es.length]? = some (e.x.data.drop 33)) : BM gen l (es ++ [e]) := ⟨fun j e' hj => by
  by_cases hlt : j < es.length
  · rw [List.getElem?_append_left hlt] at hj
    exact h.ok j e' hj
  · rw [List.getElem?_append_right (by omega)] at hj
    have hj0 : j - es.length = 0 := by
      by_cases h0 : j - es.length = 0
      · exact h0
      · rw [List.getElem?_eq_none (by simp; omega)] at hj; cases hj
    rw [hj0] at hj
    simp only [List.getElem?_cons_zero, Option.some.injEq] at hj
    subst hj
    have : j = es.length := by omega
    subst this
    exact ⟨h1, h2, h3⟩⟩
theorem Have.at_ne {D : DkV} {a b : List Ent} {e e2 : Ent} (h : Have D (a ++ e :: b)) (he : e2 ∈ a) : e2.x.at_ ≠ e.x.at_ := fun hh => by
  have h1 := h.ok e (by simp)
  have h2 := h.ok e2 (List.mem_append_left _ he)
  have hnd := h.nd
  rw [allP_app, allP_cons] at hnd
  have p1 := h1.chn.pos
  have p2 := h2.chn.pos
  have m1 : e.x.at_ ∈ e.ps := ps_mem.2 ⟨0, by omega, h1.at_⟩
  have m2 : e2.x.at_ ∈ allP a := allP_mem.2 ⟨e2, he, 0, by omega, h2.at_⟩
  exact (List.nodup_append.1 hnd).2.2 _ m2 _ (List.mem_append_left _ m1) hh
theorem ats_ne {D : DkV} {es : List Ent} (h : Have D es) {j i : Nat} (hj : j < i) (hi : i < es.length) : (ats es)[j]'(by rw [ats_len]; omega) ≠ (ats es)[i]'(by rw [ats_len]; exact hi) := by
  have e : es = es.take i ++ es[i] :: es.drop (i + 1) := by rw [← List.drop_eq_getElem_cons hi, List.take_append_drop]
  have hm : es[j] ∈ es.take i := by
    rw [List.mem_take_iff_getElem]
    exact ⟨j, by omega, rfl⟩
  rw [e] at h
  have := h.at_ne hm
  unfold ats
  rw [List.getElem_map, List.getElem_map]
  exact this
section
variable {w : World} {X : List As}
set_option maxHeartbeats 2000000 in
theorem BrickMany_st (h : St w X) {gen : Int} {sl ul : Sl} {l : List Bs} {us : List Int} (hx : ∀ w', St w' X → Has ET w' sl l) (hu : ∀ w', St w' X → Has EI w' ul us) {R : Bool → World → Prop} (hR : ∀ w', St w' X → R true w') : F.masonrylaw16_BrickMany gen sl ul w R := by
  apply E.masonrylaw16_BrickMany
  unfold V.masonrylaw16_BrickMany
  try simp (config := { zeta := false }) only [cnd_all, Nat.reduceAdd]
  have hsl := (hx w h).1
  have hul := (hu w h).1
  refine ⟨fun b w' => St w' X ∧ (b = false → l.length ≤ 25 ∧ us.length ≤ 25 ∧ 1 ≤ gen ∧ gen ≤ 3), ⟨fun _ => ⟨h, fun h => (by cases h)⟩, fun c1 => ⟨fun _ => ⟨h, fun h => (by cases h)⟩, fun c2 => ⟨fun _ => ⟨h, fun h => (by cases h)⟩, fun c3 => ⟨fun _ => ⟨h, fun h => (by cases h)⟩, fun c4 => alive16_st h fun w1 hw => ⟨hw, fun _ => ⟨by omega, by omega, by omega, by omega⟩⟩⟩⟩⟩⟩, ?_⟩
  rintro b w1 ⟨h1, hb⟩
  refine ⟨fun _ => alive16_st h1 hR, fun hbf => ?_⟩
  obtain ⟨hn, hun, hg1, hg2⟩ := hb hbf
  have hf : freeN (fmt0 200).bs = 87 := by rw [fmt0_bs, freeN_bs0 (by decide)]
  refine Fresh_st h1 (n := 200) (by decide) (by decide) fun k g w2 h2 => ⟨fun h => (by cases h), fun _ => ?_⟩
  have hH0 := Have.fmt (n := 200) (by decide) (by decide)
  refine ⟨fun at_ refs i w' => ∃ (es : List Ent) (c : Nat) (D : DkV), i = ((es.length : Nat) : Int) ∧ es.length ≤ l.length ∧ BM gen l es ∧ Have D es ∧ freeN D.bs + es.length = 87 ∧ c ≤ 1001 + 41 * es.length ∧ St w' (Row EI T.y_int at_ (ats es) :: Row EI T.y_int refs (rfs es) :: DeskS k g c D :: X), fun _ _ i _ => (25 - i).toNat, ⟨[], 1001, fmt0 200, rfl, Nat.zero_le _, ⟨fun j e hj => by simp at hj⟩, hH0, by rw [hf]; rfl, by simp, (h2.row0 EI T.y_int).row0 EI T.y_int⟩, ?_⟩
  rintro at_ refs i w4 ⟨es, c, D, rfl, hm, hbm, hH, hfr, hc, h4⟩
  have hal := ats_len es
  have hrl := rfs_len es
  refine ⟨fun hlt => ?_, fun hge => ?_⟩
  · have hlt : es.length < l.length := by omega
    obtain ⟨a, ha, hal2, c0⟩ := Has.txt (hx _ h4.drop.drop.drop) hlt
    have hsz := tx_size l[es.length]
    refine ⟨fun b w' => w' = w4 ∧ (b = false → 1 ≤ l[es.length].length ∧ l[es.length].length ≤ 128), ⟨a, ha, by omega, by omega, _, c0, fun _ => ⟨rfl, fun h => (by cases h)⟩, fun e1 => ⟨a, ha, by omega, by omega, _, c0, rfl, fun hf2 => ?_⟩⟩, ?_⟩
    · have := of_decide_eq_false hf2
      omega
    rintro b w5 ⟨rfl, hb5⟩
    refine ⟨fun _ => hR _ h4.drop.drop.drop, fun hbf5 => ?_⟩
    obtain ⟨l1, l2⟩ := hb5 hbf5
    refine ⟨a, ha, by omega, by omega, _, c0, ?_⟩
    intro wa1
    replace h4 : St wa1 (Cs _ _ _ :: _) := h4.new _ _
    clear_value wa1
    generalize w5.heap.size = q at *
    have ej : joinB [l[es.length]] = l[es.length] := by simp [joinB]
    refine Put_brick h4.up3 hH (l := [l[es.length]]) (h4.lit (En := ET) (xs := [l[es.length]]) rfl rfl 1) (fun a ha => by injection ha with ha; subst ha; exact ⟨rfl, heap_lt h4.bl⟩) (Nat.le_refl _) (by simp) (by rw [ej]; omega) (by omega) (fun w6 hno _ => absurd ⟨⟨hg1, hg2⟩, by rw [ej]; exact ⟨l1, l2⟩⟩ hno) (fun w6 hlt2 _ => by omega) fun w6 D1 e1 _ _ _ x1 x2 x3 x4 hok hfr1 hH1 h6 => ⟨fun e => absurd rfl e, fun _ => ?_⟩
    rw [ej] at x4
    have x5 : e1.x.data.drop 33 = l[es.length] := by rw [x4]; exact (brB_take ⟨hg1, hg2⟩ _).2.2
    refine ⟨fun n w' => ∃ (c2 : Nat) (D2 : DkV) (e2 : Ent), n = e2.x.refs ∧ e2.x.at_ = e1.x.at_ ∧ e2.x.gen = gen ∧ BrOk e2.x ∧ e2.x.data.drop 33 = l[es.length] ∧ Have D2 (es ++ [e2]) ∧ freeN D2.bs + (es.length + 1) = 87 ∧ c2 ≤ 1001 + 41 * (es.length + 1) ∧ St w' (DeskS k g c2 D2 :: Cs q [.string (tx l[es.length])] T.y_string :: Row EI T.y_int at_ (ats es) :: Row EI T.y_int refs (rfs es) :: X), ?_, ?_⟩
    · refine ⟨fun b w' => w' = w6 ∧ (b = true → ∃ hi : es.length < us.length, 0 ≤ us[es.length] ∧ us[es.length] < 1000), ⟨fun hi => ?_, fun _ => ⟨rfl, fun h => (by cases h)⟩⟩, ?_⟩
      · have hi : es.length < us.length := by omega
        obtain ⟨b, hb1, hb2, d0⟩ := Has.int (hu _ h6.drop.drop.drop.drop) hi
        exact ⟨b, hb1, by omega, by omega, _, d0, fun h0 => ⟨b, hb1, by omega, by omega, _, d0, rfl, fun h9 => ⟨hi, h0, of_decide_eq_true h9⟩⟩, fun _ => ⟨rfl, fun h => (by cases h)⟩⟩
      rintro b w7 ⟨rfl, hb3⟩
      refine ⟨fun e => ?_, fun e => ⟨c + 40, D1, e1, x3.symm, rfl, x1, hok, x5, hH1, by omega, by omega, h6⟩⟩
      obtain ⟨hi, hu2, hu3⟩ := hb3 e
      obtain ⟨b, hb1, hb2, d0⟩ := Has.int (hu _ h6.drop.drop.drop.drop) hi
      refine ⟨b, hb1, by omega, by omega, _, d0, ?_⟩
      refine Use_brick h6 (a := es) (b := []) hH1 (by omega) (fun w8 hno _ => absurd hok hno) (fun w8 _ hb _ => by rw [x3] at hb; omega) fun w8 D2 _ _ _ hbs hH2 h8 => ?_
      obtain ⟨b2, hb12, hb22, d02⟩ := Has.int (hu _ h8.drop.drop.drop.drop) hi
      refine ⟨fun v w' => w' = w8 ∧ v = false, ⟨fun e => absurd rfl e, fun _ => ⟨b2, hb12, by omega, by omega, _, d02, rfl, ?_⟩⟩, ?_⟩
      · rw [x3, w64_id (x := 1 + us[es.length]) (by omega) (by omega)]
        simp
      rintro v w9 ⟨rfl, rfl⟩
      exact ⟨fun e => (by cases e), fun _ => ⟨c + 40 + 1, D2, e1.use (e1.x.refs + us[es.length]), rfl, rfl, x1, hok, x5, hH2, by rw [hbs]; omega, by omega, h8⟩⟩
    · rintro n w7 ⟨c2, D2, e2, rfl, ea, y1, y2, y3, hH2, hfr2, hc2, h7⟩
      intro wa2
      replace h7 : St wa2 (Cs _ _ _ :: _) := h7.new _ _
      clear_value wa2
      refine St.app elt_int h7.up3 (sl := ⟨some (blk _), 1, 1⟩) (ys := [e1.x.at_]) (h7.lit (En := EI) (xs := [e1.x.at_]) rfl rfl 1) rfl (by simp; omega) (by simp; omega) fun la w8 h8 _ => ?_
      intro wa3
      replace h8 : St wa3 (Cs _ _ _ :: _) := h8.new _ _
      clear_value wa3
      refine St.app elt_int h8.up5 (sl := ⟨some (blk _), 1, 1⟩) (ys := [e2.x.refs]) (h8.lit (En := EI) (xs := [e2.x.refs]) rfl rfl 1) rfl (by simp; omega) (by simp; omega) fun lr w9 h9 _ => ?_
      rw [← ea, ← ats_snoc, ← rfs_snoc] at h9
      have el : (es ++ [e2]).length = es.length + 1 := by simp
      rw [w64_succ (by omega)]
      refine ⟨⟨es ++ [e2], c2, D2, by rw [el], by omega, hbm.snoc y1 y2 (by rw [y3]; simp [hlt]), hH2, by rw [el]; exact hfr2, by rw [el]; exact hc2, h9.d2.sw.d3.d4⟩, by show (25 - ((es.length + 1 : Nat) : Int)).toNat < (25 - ((es.length : Nat) : Int)).toNat; omega⟩
  · have hel : es.length = l.length := by omega
    refine ⟨fun i w' => ∃ (n : Nat) (a : List Ent) (c : Nat) (D : DkV), i = n ∧ n ≤ l.length ∧ Have D (a ++ es.drop n) ∧ St w' (DeskS k g c D :: Row EI T.y_int at_ (ats es) :: Row EI T.y_int refs (rfs es) :: X), fun i _ => (25 - i).toNat, ⟨0, [], c, D, rfl, Nat.zero_le _, hH, h4.up2⟩, ?_⟩
    have hne := fun {j i : Nat} (hj : j < i) (hi : i < es.length) => ats_ne hH hj hi
    clear hH hfr hc h4 c D
    rintro i w5 ⟨n, a, c, D, rfl, hnl, hH, h5⟩
    refine ⟨fun hlt => ?_, fun hge => hR _ h5.drop.drop.drop⟩
    have hlt : n < l.length := by omega
    have hne2 : n < es.length := by omega
    rw [List.drop_eq_getElem_cons hne2] at hH
    have hz : (ats es)[n]'(by omega) = es[n].x.at_ := by unfold ats; rw [List.getElem_map]
    have hzr : (rfs es)[n]'(by omega) = es[n].x.refs := by unfold rfs; rw [List.getElem_map]
    obtain ⟨z1, z2, z3⟩ := hbm.ok n es[n] (by simp [hne2])
    have z3 : es[n].x.data.drop 33 = l[n] := by
      rw [List.getElem?_eq_getElem hlt] at z3
      exact (Option.some.inj z3).symm
    obtain ⟨b, hb1, hb2, d0⟩ := Has.int (h5.sw.has (by decide)) (m := n) (by omega)
    rw [hz] at d0
    refine ⟨b, hb1, by omega, by omega, _, d0, ?_⟩
    refine Get_brick h5 hH (List.mem_append_right _ (List.mem_cons_self ..)) (fun w6 hno _ => absurd z2 hno) fun w6 _ h6 => ?_
    rw [z3]
    intro wa4
    replace h6 : St wa4 (Cs _ _ _ :: _) := h6.new _ _
    clear_value wa4
    refine ⟨h6.wr0 (by simp), ?_⟩
    intro wa5
    replace h6 : St wa5 _ := h6.set0 _
    clear_value wa5
    refine ⟨h6.wr (by simp), ?_⟩
    intro wa6
    replace h6 : St wa6 _ := h6.set 1 _
    clear_value wa6
    refine ⟨h6.wr (by simp), ?_⟩
    intro wa7
    replace h6 : St wa7 _ := h6.set 2 _
    clear_value wa7
    refine ⟨h6.wr (by simp), ?_⟩
    intro wa8
    replace h6 : St wa8 _ := h6.set 3 _
    clear_value wa8
    refine ⟨h6.wr (by simp), ?_⟩
    intro wa9
    replace h6 : St wa9 _ := h6.set 4 _
    clear_value wa9
    simp only [List.set_cons_zero, List.set_cons_succ] at h6
    refine ⟨fun v w' => v = false ∧ St w' (DeskS k g c D :: Row EI T.y_int at_ (ats es) :: Row EI T.y_int refs (rfs es) :: X), ?_, ?_⟩
    · intro wa10
      replace h6 : St wa10 _ := h6.drew
      clear_value wa10
      obtain ⟨a2, ha2, hal3, c0⟩ := Has.txt (hx _ h6.drop.drop.drop.drop) hlt
      obtain ⟨b3, hb3, hbl3, r0⟩ := Has.int (h6.up3.has (by decide)) (m := n) (by omega)
      rw [hzr] at r0
      refine ⟨fun e => absurd rfl e, fun _ => ⟨_, h6.cell 4, a2, ha2, by omega, by omega, _, c0, fun e => ?_, fun e => ⟨_, h6.cell 1, b3, hb3, by omega, by omega, _, r0, fun e => absurd rfl e, fun e => ⟨_, h6.cell0, fun e => absurd z1 e, fun e => ⟨_, h6.cell 2, Kind_st ⟨h6.cell 2, h6.cell0, r0, h6.cell 1, c0, h6.cell 4, ?_, h6.drop⟩⟩⟩⟩⟩⟩
      · rw [tx_eq, decide_eq_true rfl] at e; cases e
      · simp [z1]
    rintro v w7 ⟨rfl, h7⟩
    refine ⟨fun e => (by cases e), fun _ => ?_⟩
    refine ⟨fun j w' => ∃ t : Nat, j = t ∧ t ≤ n ∧ St w' (DeskS k g c D :: Row EI T.y_int at_ (ats es) :: Row EI T.y_int refs (rfs es) :: X), fun j _ => (25 - j).toNat, ⟨0, rfl, Nat.zero_le _, h7⟩, ?_⟩
    rintro j w8 ⟨t, rfl, ht, h8⟩
    refine ⟨fun hjt => ?_, fun hjt => ?_⟩
    · have hjt : t < n := by omega
      intro wa11
      replace h8 : St wa11 _ := h8.drew
      clear_value wa11
      obtain ⟨b3, hb3, hbl3, r0⟩ := Has.int (h8.sw.has (by decide)) (m := t) (by omega)
      obtain ⟨b4, hb4, hbl4, r1⟩ := Has.int (h8.sw.has (by decide)) (m := n) (by omega)
      refine ⟨b3, hb3, by omega, by omega, _, r0, b4, hb4, by omega, by omega, _, r1, fun e => absurd e (hne hjt hne2), fun _ => ?_⟩
      rw [w64_succ (by omega)]
      exact ⟨⟨t + 1, rfl, hjt, h8⟩, by show (25 - ((t + 1 : Nat) : Int)).toNat < (25 - ((t : Nat) : Int)).toNat; omega⟩
    · have hms : (25 - ((n + 1 : Nat) : Int)).toNat < (25 - ((n : Nat) : Int)).toNat := by omega
      have hH' : Have D ((a ++ [es[n]]) ++ es.drop (n + 1)) := by rw [List.append_assoc]; exact hH
      rw [w64_succ (by omega)]
      refine ⟨by decide, fun _ => ⟨fun _ => ?_, fun _ => ⟨⟨n + 1, a ++ [es[n]], c, D, rfl, hlt, hH', h8⟩, hms⟩⟩, fun _ => ⟨⟨n + 1, a ++ [es[n]], c, D, rfl, hlt, hH', h8⟩, hms⟩⟩
      obtain ⟨b4, hb4, hbl4, r1⟩ := Has.int (h8.sw.has (by decide)) (m := n) (by omega)
      rw [hz] at r1
      refine ⟨b4, hb4, by omega, by omega, _, r1, ?_⟩
      exact Drop_brick h8 hH (fun w9 hno _ => absurd z2 hno) fun w9 _ hH9 h9 => ⟨fun e => absurd rfl e, fun _ => ⟨⟨n + 1, a, c, _, rfl, hlt, hH9, h9⟩, hms⟩⟩
end
end Go.Proofs.YtmokmbhhnbcelaaGreatDoor

/- What a typed reading of the handed values meets, told by the words of what lies where. -/
set_option linter.unusedVariables false
namespace Go.Proofs.YtmokmbhhnbcelaaGreatDoor
open Go Go.Vc Go.RowKit Go.Lib
/-- whatever is read as of this type is laid as that -/
def Reads (P : Program) (t : TypeId) {α : Type} (En : Enc α) (Q : World → α → Prop) : Prop :=
  ∀ (H : Type) (enc : TypeId × Value → H) (W : World) (fuel : Nat) (cs : List Value) (x : DataW H × List MemPlace), DataW.trod enc P W 0 (fun _ => true) true fuel t cs = some x → ∃ v, cs = En.cells v ∧ Q W v
def ES (α : Type) : Enc (Sl × List α) := ⟨fun v => [slV v.1], 1, fun _ => rfl, fun _ u hu => by simp at hu; subst hu; rfl⟩
def EU : Enc Unit := ⟨fun _ => [], 0, fun _ => rfl, fun _ u hu => by cases hu⟩
def EP {α β : Type} (A : Enc α) (B : Enc β) : Enc (α × β) := ⟨fun v => A.cells v.1 ++ B.cells v.2, A.n + B.n, fun v => by rw [List.length_append, A.len, B.len], fun v u hu => by
  rcases List.mem_append.1 hu with h | h
  · exact A.one _ u h
  · exact B.one _ u h⟩
abbrev QI : World → Int → Prop := fun _ v => -9223372036854775808 ≤ v ∧ v < 9223372036854775808
abbrev QS {α : Type} (En : Enc α) (Q : World → α → Prop) : World → Sl × List α → Prop := fun W v => Has En W v.1 v.2 ∧ NilOk v.1 ∧ v.1.len ≤ v.1.cap ∧ v.1.cap ≤ maxLen ∧ ∀ x ∈ v.2, Q W x
section
variable {P : Program}
theorem reads_int {t : TypeId} (hu : P.underlying t = some (.int .i64)) : Reads P t EI QI := fun H enc W fuel cs x h => by
  obtain ⟨n, rfl, _, hw⟩ := DataW.trod_int hu h
  refine ⟨n, rfl, ?_⟩
  have h1 : IntKind.i64.min ≤ n ∧ n ≤ 9223372036854775807 := by simpa [Lit.wf] using hw
  have h2 : IntKind.i64.min = -9223372036854775808 := by decide
  omega
theorem reads_str {t : TypeId} (hu : P.underlying t = some .string) : Reads P t ET fun _ _ => True := fun H enc W fuel cs x h => by
  obtain ⟨s, rfl, _⟩ := DataW.trod_string hu h
  exact ⟨s.data.toList, by show _ = [Value.string (tx _)]; rw [tx_self], trivial⟩
theorem reads_slice {t e : TypeId} {α : Type} [Nonempty α] {En : Enc α} {Q : World → α → Prop} (hu : P.underlying t = some (.slice e)) (hc : P.cellsOf e = En.n) (he : Reads P e En Q) :
    Reads P t (ES α) (QS En Q) := fun H enc W fuel cs x h => by
  rcases DataW.trod_slice hu h with ⟨hcs, _⟩ | ⟨ad, len, c, elems, rest, n, _, hcs, _, _, hlc, hcm, hel, hi, _⟩
  · subst hcs
    exact ⟨(⟨none, 0, 0⟩, []), rfl, Has.nil, fun _ => rfl, Nat.le_refl _, Nat.zero_le _, fun x hx => by cases hx⟩
  · have hx : ∀ i, ∃ x : α, i < len → (∀ k u, (En.cells x)[k]? = some u → W.cell? (ad.add (i * En.n + k)) = some u) ∧ Q W x := by
      intro i
      by_cases hil : i < len
      · have h1 := hi i hil
        rw [hc, List.getElem?_eq_getElem (by omega)] at h1
        obtain ⟨cs', hcc, ht⟩ := Option.bind_eq_some_iff.1 h1
        obtain ⟨v, rfl, hq⟩ := he _ _ _ _ _ _ ht
        obtain ⟨_, hcl, hat⟩ := World.cells?_some hcc
        refine ⟨v, fun _ => ⟨fun k u hk => ?_, hq⟩⟩
        have hk2 := (List.getElem?_eq_some_iff.1 hk).1
        rw [En.len] at hk2
        have := hat k hk2
        rw [Vc.addr_add] at this
        rw [this]; exact hk
      · obtain ⟨y⟩ := ‹Nonempty α›
        exact ⟨y, fun h => absurd h hil⟩
    obtain ⟨f, hf⟩ := Classical.axiomOfChoice hx
    refine ⟨(⟨some ad, len, c⟩, (List.range len).map f), hcs, ⟨by simp, fun j x hj => ?_⟩, fun h => (by cases h), hlc, hcm, fun x hx => ?_⟩
    · have hlt : j < len := by have := (List.getElem?_eq_some_iff.1 hj).1; simpa using this
      simp [hlt] at hj
      subst hj
      exact ⟨ad, rfl, (hf j hlt).1⟩
    · simp only [List.mem_map, List.mem_range] at hx
      obtain ⟨j, hj, rfl⟩ := hx
      exact (hf j hj).2
/-- fields, from an offset on -/
inductive RdF (P : Program) : Nat → List Field → {α : Type} → Enc α → (World → α → Prop) → Prop where
  | nil {off} : RdF P off [] EU fun _ _ => True
  | cons {off : Nat} {f : Field} {fs : List Field} {α β : Type} {A : Enc α} {B : Enc β} {Q : World → α → Prop} {Q' : World → β → Prop} (ho : f.offset = off) (hc : P.cellsOf f.type = A.n) (h : Reads P f.type A Q) (r : RdF P (off + A.n) fs B Q') :
      RdF P off (f :: fs) (EP A B) fun W v => Q W v.1 ∧ Q' W v.2
theorem RdF.get {off : Nat} {fs : List Field} {α : Type} {En : Enc α} {Q : World → α → Prop} (h : RdF P off fs En Q) : ∀ {H : Type} {enc : TypeId × Value → H} {W : World} {n : Nat} {cs : List Value}, cs.length = off + En.n →
    (∀ (i : Nat) (f : Field), fs[i]? = some f → ∃ y, DataW.trod enc P W 0 (fun _ => true) true n f.type ((cs.drop f.offset).take (P.cellsOf f.type)) = some y) → ∃ v, cs.drop off = En.cells v ∧ Q W v := by
  induction h with
  | nil => intro H enc W n cs hl _; exact ⟨(), List.drop_eq_nil_of_le (by rw [hl]; exact Nat.le_refl _), trivial⟩
  | @cons off f fs α β A B Q Q' ho hc h r ih =>
    intro H enc W n cs hl hy
    obtain ⟨y, h0⟩ := hy 0 f rfl
    rw [ho, hc] at h0
    obtain ⟨v, hv, hq⟩ := h _ _ _ _ _ _ h0
    have hl' : cs.length = off + A.n + B.n := by rw [hl]; show off + (A.n + B.n) = _; omega
    obtain ⟨v', hv', hq'⟩ := ih (H := H) (enc := enc) (W := W) (n := n) (cs := cs) hl' fun i g hg => hy (i + 1) g (by simpa using hg)
    refine ⟨(v, v'), ?_, hq, hq'⟩
    show cs.drop off = A.cells v ++ B.cells v'
    rw [← hv, ← hv']
    have : cs.drop (off + A.n) = (cs.drop off).drop A.n := by rw [List.drop_drop]
    rw [this, List.take_append_drop]
theorem Has.map {α β : Type} {A : Enc α} {B : Enc β} {w : World} {l : Sl} {xs : List α} (h : Has A w l xs) (f : α → β) (hn : A.n = B.n) (hf : ∀ x, A.cells x = B.cells (f x)) : Has B w l (xs.map f) :=
  ⟨by rw [List.length_map]; exact h.1, fun j y hy => by
    rw [List.getElem?_map] at hy
    obtain ⟨x, hx, rfl⟩ := Option.map_eq_some_iff.1 hy
    obtain ⟨a, ha, hc⟩ := h.2 j x hx
    exact ⟨a, ha, fun i u hu => by rw [← hn]; exact hc i u (by rw [hf]; exact hu)⟩⟩
theorem Reads.to {t : TypeId} {α β : Type} {A : Enc α} {B : Enc β} {Q : World → α → Prop} {Q' : World → β → Prop} (h : Reads P t A Q) (f : α → β) (hf : ∀ x, A.cells x = B.cells (f x)) (hq : ∀ W x, Q W x → Q' W (f x)) : Reads P t B Q' := fun H enc W fuel cs x hx => by
  obtain ⟨v, hv, q⟩ := h _ _ _ _ _ _ hx
  exact ⟨f v, by rw [hv, hf], hq _ _ q⟩
/-- a slice that came in -/
theorem Reads.slice {t : TypeId} {α : Type} {Q : World → Sl × List α → Prop} (hr : Reads P t (ES α) Q) {H : Type} {enc : TypeId × Value → H} {W : World} {a : Option Addr} {len cap : Nat} {d : DataW H} {p : List MemPlace} (h : DataW.Trod enc P W 0 (fun _ => true) true t (.slice a len cap) d p) : ∃ xs, Q W (⟨a, len, cap⟩, xs) := by
  obtain ⟨fuel, hf⟩ := h
  obtain ⟨⟨s, xs⟩, hcs, hq⟩ := hr _ _ _ _ _ _ hf
  have e : (⟨a, len, cap⟩ : Sl) = s := by
    have h3 : [Value.slice a len cap] = [.slice s.a s.len s.cap] := hcs
    simp only [List.cons.injEq, Value.slice.injEq, and_true] at h3
    obtain ⟨rfl, rfl, rfl⟩ := h3
    rfl
  exact ⟨xs, by rw [e]; exact hq⟩
end
end Go.Proofs.YtmokmbhhnbcelaaGreatDoor

/- BrickMany: its walk, and the readings. -/
set_option linter.unusedVariables false
namespace Go.Proofs.YtmokmbhhnbcelaaGreatDoor
open Go Go.Vc Go.RowKit Go.Lib
abbrev Txs16 (w : World) (l : Sl) (xs : List Bs) : Prop := Has ET w l xs
theorem rd_txs16 : Reads Tryz.prog 100 (ES Bs) fun W v => Txs16 W v.1 v.2 := (reads_slice Tryz.underlying100 (by kernel_rfl) (reads_str Tryz.underlying9)).to id (fun _ => rfl) fun W v h => h.1
abbrev Ints16 (w : World) (l : Sl) (xs : List Int) : Prop := Has EI w l xs
theorem rd_int16 : Reads Tryz.prog 3 EI QI := reads_int Tryz.underlying3
theorem rd_ints16 : Reads Tryz.prog 29 (ES Int) fun W v => Ints16 W v.1 v.2 := (reads_slice Tryz.underlying29 (by kernel_rfl) rd_int16).to id (fun _ => rfl) fun W v h => h.1
theorem BrickMany_spec {w : World} {gen : Int} {l uses : Sl} {lZ : List Bs} {usesZ : List Int} (hl : Txs16 w l lZ) (huses : Ints16 w uses usesZ) {R : Bool → World → Prop} (hR : ∀ w', Below w.heap.size w w' → R true w') : F.masonrylaw16_BrickMany gen l uses w R :=
  BrickMany_st (St.start w) (fun w' h => hl.fr (fr_below (St.old h))) (fun w' h => huses.fr (fr_below (St.old h))) fun w' h => hR w' (St.old h)
end Go.Proofs.YtmokmbhhnbcelaaGreatDoor
