/- masonrylaw9: Light, after; masonrybook: Room, LentWrites, StaysWrites. -/
import Derived.Test.YtepclihkniaieaaGreatDoorWi
import Derived.Test.YtepclihkniaieaaGreatDoorPu
set_option linter.unusedVariables false
namespace Go.Proofs.YtepclihkniaieaaGreatDoor
open Go Go.Vc Go.RowKit Go.Lib Go.Maps Go.Proofs

theorem roomOf_facts : ∀ (ns : List Int) (left : Int), -1 ≤ left → (∀ n ∈ ns, 0 ≤ n) → -1 ≤ roomOf left ns ∧ roomOf left ns ≤ left ∧ (0 ≤ roomOf left ns → 0 ≤ left ∧ ∀ n ∈ ns, n ≤ left)
  | [], left, h, _ => ⟨h, Int.le_refl _, fun h => ⟨h, fun n hn => by cases hn⟩⟩
  | n :: r, left, h, hn => by
    have h0 := hn n (List.mem_cons_self ..)
    unfold roomOf
    split
    · exact ⟨Int.le_refl _, h, fun h => by omega⟩
    · split
      · exact ⟨Int.le_refl _, h, fun h => by omega⟩
      · obtain ⟨h1, h2, h3⟩ := roomOf_facts r (left - n) (by omega) fun m hm => hn m (List.mem_cons_of_mem _ hm)
        refine ⟨h1, by omega, fun h => ⟨by omega, fun m hm => ?_⟩⟩
        rcases List.mem_cons.1 hm with rfl | hm
        · omega
        · have := (h3 h).2 m hm; omega

structure OpV where
  kind : Int
  a : Int
  W : Sl
  L : Sl
  ws : List Wr1
  ks : List Int
def EO : Enc OpV := ⟨fun o => [.int .i64 o.kind, .int .i64 o.a, slV o.W, slV o.L], 4, fun _ => rfl, fun _ u hu => by simp only [List.mem_cons, List.not_mem_nil, or_false] at hu; rcases hu with rfl | rfl | rfl | rfl <;> rfl⟩

section
variable {w w' : World} {X : List As}
theorem Room_st {sl : Sl} {ns : List Int} (hx : Has EI w sl ns) {left : Int} (hl : -1 ≤ left ∧ left < 4611686018427387904) (hn : ∀ n ∈ ns, 0 ≤ n) (hlen : ns.length ≤ 1000) {R : Int → World → Prop} (hR : R (roomOf left ns) w) : F.masonrybook_Room left sl w R := by
  apply E.masonrybook_Room
  unfold V.masonrybook_Room
  try simp (config := { zeta := false }) only [cnd_all, Nat.reduceAdd]
  have hs := hx.1
  generalize hy : roomOf left ns = y at *
  refine ⟨fun x i w' => w' = w ∧ ∃ m : Nat, i = m ∧ m ≤ ns.length ∧ -1 ≤ x ∧ x ≤ left ∧ y = roomOf x (ns.drop m), fun _ i _ => ((ns.length : Int) - i).toNat, ⟨rfl, 0, rfl, Nat.zero_le _, hl.1, Int.le_refl _, hy.symm⟩, ?_⟩
  rintro x i w1 ⟨rfl, m, rfl, hm, hx1, hx2, he⟩
  refine ⟨fun hlt => ?_, fun hge => ?_⟩
  · have hlt : m < ns.length := by omega
    obtain ⟨a, ha, hal, hc⟩ := hx.at (j := m) hlt
    have hc0 := hc 0 _ rfl
    rw [addr_add0] at hc0
    have e : ns.drop m = ns[m] :: ns.drop (m + 1) := List.drop_eq_getElem_cons hlt
    rw [e] at he
    unfold roomOf at he
    have h0 := hn ns[m] (List.getElem_mem hlt)
    refine ⟨fun hneg => ?_, fun hpos => ⟨a, ha, by omega, by omega, ns[m], hc0, fun hbig => ?_, fun hsm => ⟨a, ha, by omega, by omega, ns[m], hc0, ?_⟩⟩⟩
    · rw [if_pos hneg] at he
      rw [he] at hR; exact hR
    · rw [if_neg hpos, if_pos (by omega)] at he
      rw [he] at hR; exact hR
    · rw [if_neg hpos, if_neg (by omega)] at he
      rw [w64_succ (by omega), show w64 (x - ns[m]) = x - ns[m] from w64_id (by omega) (by omega)]
      exact ⟨⟨rfl, m + 1, rfl, hlt, by omega, by omega, he⟩, by show ((ns.length : Int) - ((m + 1 : Nat) : Int)).toNat < ((ns.length : Int) - (m : Int)).toNat; omega⟩
  · have e : ns.drop m = [] := List.drop_eq_nil_of_le (by omega)
    rw [e] at he
    rw [he] at hR; exact hR

/-- what the acts say -/
def OpsIn (w : World) (sl : Sl) (os : List OpV) : Prop := Has EO w sl os ∧ ∀ o ∈ os, Has EW w o.W o.ws ∧ NilOk o.W ∧ Ints w o.L o.ks
theorem OpsIn.at {sl : Sl} {os : List OpV} (h : OpsIn w sl os) {m : Nat} (hm : m < os.length) : ∃ a, sl.a = some a ∧ m < sl.len ∧ w.cell? (a.add (m * 4)) = some (.int .i64 os[m].kind) ∧ w.cell? ((a.add (m * 4)).add 1) = some (.int .i64 os[m].a) ∧ w.cell? ((a.add (m * 4)).add 2) = some (.slice os[m].W.a os[m].W.len os[m].W.cap) ∧ w.cell? ((a.add (m * 4)).add 3) = some (.slice os[m].L.a os[m].L.len os[m].L.cap) := by
  obtain ⟨a, ha, hl, hc⟩ := h.1.at hm
  have h0 := hc 0 _ rfl
  rw [addr_add0] at h0
  exact ⟨a, ha, hl, h0, hc 1 _ rfl, hc 2 _ rfl, hc 3 _ rfl⟩
theorem OpsIn.fr {sl : Sl} {os : List OpV} (h : OpsIn w sl os) (hB : Below w.heap.size w w') : OpsIn w' sl os :=
  ⟨h.1.fr (fr_below hB), fun o ho => by
    obtain ⟨h1, h2, h3⟩ := h.2 o ho
    exact ⟨h1.fr (fr_below hB), h2, h3.below hB⟩⟩

set_option maxHeartbeats 1000000 in
theorem Light_st (h : St w X) {sl : Sl} {os : List OpV} (hx : ∀ w', St w' X → OpsIn w' sl os) {R : Bool → World → Prop}
    (hR : ∀ b w', St w' X → (b = true → os.length ≤ 30 ∧ ∀ o ∈ os, o.W.len ≤ 6000 ∧ o.L.len ≤ 6000) → R b w') : F.masonrylaw9_Light sl w R := by
  apply E.masonrylaw9_Light
  unfold V.masonrylaw9_Light
  try simp (config := { zeta := false }) only [cnd_all, Nat.reduceAdd]
  have hs := (hx w h).1.1
  refine ⟨fun room i w' => ∃ m : Nat, i = m ∧ m ≤ os.length ∧ m ≤ 100 ∧ -1 ≤ room ∧ room ≤ 6000 ∧ St w' X ∧ (0 ≤ room → ∀ o ∈ os.take m, o.W.len ≤ 6000 ∧ o.L.len ≤ 6000), fun _ i _ => ((100 : Int) - i).toNat, ⟨0, rfl, Nat.zero_le _, Nat.zero_le _, by decide, by decide, h, fun _ o ho => by simp at ho⟩, ?_⟩
  rintro room i w1 ⟨m, rfl, hm, hm2, hr1, hr2, h1, hall⟩
  have stop : (m = os.length ∨ m = 100 ∨ room < 0) → ((((sl.len : Nat) : Int) ≤ 30 → R (decide (room ≥ 0)) w1) ∧ (¬((sl.len : Nat) : Int) ≤ 30 → R false w1)) := fun hor => by
    refine ⟨fun hle => hR _ w1 h1 fun hb => ?_, fun _ => hR false w1 h1 fun h => by cases h⟩
    have hb := of_decide_eq_true hb
    have : m = os.length := by omega
    subst this
    rw [List.take_length] at hall
    exact ⟨by omega, hall hb⟩
  have done : ∀ room1 w2, -1 ≤ room1 ∧ room1 ≤ 6000 → St w2 X → (hlt : m < os.length) → m < 100 → (0 ≤ room1 → 0 ≤ room ∧ os[m].W.len ≤ 6000 ∧ os[m].L.len ≤ 6000) →
      (∃ m' : Nat, w64 ((m : Int) + 1) = m' ∧ m' ≤ os.length ∧ m' ≤ 100 ∧ -1 ≤ room1 ∧ room1 ≤ 6000 ∧ St w2 X ∧ (0 ≤ room1 → ∀ o ∈ os.take m', o.W.len ≤ 6000 ∧ o.L.len ≤ 6000)) ∧ ((100 : Int) - w64 ((m : Int) + 1)).toNat < ((100 : Int) - (m : Int)).toNat := fun room1 w2 hr hw hlt h100 hp => by
    rw [w64_succ (by omega)]
    refine ⟨⟨m + 1, rfl, hlt, h100, hr.1, hr.2, hw, fun h0 o ho => ?_⟩, by omega⟩
    rw [List.take_succ_eq_append_getElem hlt] at ho
    rcases List.mem_append.1 ho with ho | ho
    · exact hall (hp h0).1 o ho
    · simp only [List.mem_cons, List.not_mem_nil, or_false] at ho
      subst ho; exact (hp h0).2
  refine ⟨fun hlt => ⟨fun h100 => ⟨fun hpos => ?_, fun hneg => stop (by omega)⟩, fun h100 => stop (by omega)⟩, fun hge => stop (by omega)⟩
  have hlt : m < os.length := by omega
  intro wa1
  replace h1 : St wa1 _ := h1.drew
  clear_value wa1
  have hop := hx _ h1
  obtain ⟨a, ha, hal, c0, c1, c2, c3⟩ := hop.at hlt
  refine ⟨a, ha, by omega, by omega, _, c2, a, ha, by omega, by omega, _, c3, ?_⟩
  intro wa2
  replace h1 : St wa2 (Cs _ _ _ :: _) := h1.new _ _
  clear_value wa2
  have hop := hx _ h1.drop
  obtain ⟨a', ha', _, _, _, d2, d3⟩ := hop.at hlt
  rw [ha] at ha'
  injection ha' with ha'
  subst ha'
  refine ⟨d3, d2, Room_st (ns := [((os[m].W.len : Nat) : Int), ((os[m].L.len : Nat) : Int)]) (h1.lit rfl rfl 2) (by omega) (fun n hn => by simp only [List.mem_cons, List.not_mem_nil, or_false] at hn; rcases hn with rfl | rfl <;> omega) (by simp) ⟨d3, d2, ?_⟩⟩
  obtain ⟨f1, f2, f3⟩ := roomOf_facts [((os[m].W.len : Nat) : Int), ((os[m].L.len : Nat) : Int)] room hr1 (fun n hn => by simp only [List.mem_cons, List.not_mem_nil, or_false] at hn; rcases hn with rfl | rfl <;> omega)
  generalize roomOf room [((os[m].W.len : Nat) : Int), ((os[m].L.len : Nat) : Int)] = r1 at *
  have f4 : 0 ≤ r1 → 0 ≤ room ∧ os[m].W.len ≤ 6000 ∧ os[m].L.len ≤ 6000 := fun h0 => by
    obtain ⟨g1, g2⟩ := f3 h0
    have e1 := g2 _ (List.mem_cons_self ..)
    have e2 := g2 _ (List.mem_cons_of_mem _ (List.mem_cons_self ..))
    exact ⟨g1, by omega, by omega⟩
  refine ⟨fun x k w' => ∃ j : Nat, k = j ∧ j ≤ os[m].W.len ∧ -1 ≤ x ∧ x ≤ r1 ∧ St w' X, fun _ k _ => ((os[m].W.len : Int) - k).toNat, ⟨0, rfl, Nat.zero_le _, f1, Int.le_refl _, h1.drop⟩, ?_⟩
  rintro x k w4 ⟨j, rfl, hj, hx1, hx2, h4⟩
  have hop := hx _ h4
  obtain ⟨a', ha', _, _, _, d2, d3⟩ := hop.at hlt
  rw [ha] at ha'
  injection ha' with ha'
  subst ha'
  have fin := done x w4 ⟨hx1, by omega⟩ h4 hlt (by omega) fun h0 => f4 (by omega)
  refine ⟨a, ha, by omega, by omega, _, d2, fun hkl => ⟨fun hxp => ?_, fun _ => fin⟩, fun _ => fin⟩
  obtain ⟨hws, _⟩ := hop.2 _ (List.getElem_mem hlt)
  have hwl := hws.1
  obtain ⟨b, hb, hbl, e0, e1⟩ := Has.wr hws (m := j) (by omega)
  refine ⟨a, ha, by omega, by omega, _, d2, b, hb, by omega, by omega, _, e1, ?_⟩
  intro wa3
  replace h4 : St wa3 (Cs _ _ _ :: _) := h4.new _ _
  clear_value wa3
  refine Room_st (ns := [((tx (os[m].ws[j]'(by omega)).2).size : Int)]) (h4.lit rfl rfl 1) (by omega) (fun n hn => by simp only [List.mem_cons, List.not_mem_nil, or_false] at hn; subst hn; omega) (by simp) ?_
  obtain ⟨g1, g2, _⟩ := roomOf_facts [((tx (os[m].ws[j]'(by omega)).2).size : Int)] x hx1 (fun n hn => by simp only [List.mem_cons, List.not_mem_nil, or_false] at hn; subst hn; omega)
  have hk : (j : Int) < 9223372036854775807 := by
    have := f4 (by omega)
    omega
  rw [show w64 ((j : Int) + 1) = ((j + 1 : Nat) : Int) by rw [w64_id (by omega) (by omega)]; omega]
  exact ⟨⟨j + 1, rfl, by omega, g1, by omega, h4.drop⟩, by show ((os[m].W.len : Int) - ((j + 1 : Nat) : Int)).toNat < ((os[m].W.len : Int) - (j : Int)).toNat; omega⟩

theorem after_st (h : St w X) {hl : Sl} {hs : List Bs} (hh : Has ET w hl hs) (hnil : NilOk hl) (hlen : hs.length ≤ 100000) {sl : Sl} {ws : List Wr1} (hw : ∀ w', St w' X → Has EW w' sl ws) (hwl : ws.length ≤ 1000000000) (hok : ∀ x ∈ ws, 0 ≤ x.1 ∧ x.1 < (hs.length : Int)) {R : Sl → World → Prop}
    (hR : ∀ l' w', St w' (Row ET T.y_string l' (setAll hs ws) :: X) → R l' w') : F.masonrylaw9_after hl sl w R := by
  apply E.masonrylaw9_after
  unfold V.masonrylaw9_after
  try simp (config := { zeta := false }) only [cnd_all, Nat.reduceAdd]
  have hsl := (hw w h).1
  refine St.app0 elt_str h hh hnil (by omega) (by omega) fun l1 w1 h1 hl1 => ?_
  refine ⟨Cnt ws.length fun m w' => St w' (Row ET T.y_string l1 (setAll hs (ws.take m)) :: X), cntM ws.length, Cnt.zero h1, ?_⟩
  rintro _ w2 ⟨m, rfl, hm, h2⟩
  refine ⟨fun hlt => ?_, fun hge => ?_⟩
  · have hlt : m < ws.length := by omega
    intro wa1
    replace h2 : St wa1 _ := h2.drew
    clear_value wa1
    obtain ⟨a, ha, hal, c0, c1⟩ := Has.wr (hw _ h2.drop) hlt
    have ho := hok ws[m] (List.getElem_mem hlt)
    have hsz : (setAll hs (ws.take m)).length = hs.length := setAll_len _ _
    obtain ⟨a3, ha3, hlt3, _⟩ := (h2.has (by decide)).at (j := ws[m].1.toNat) (by rw [hsz]; omega)
    obtain ⟨k1, k2⟩ := St.setR rfl h2 (k := ws[m].1.toNat) (by rw [hsz]; omega) ws[m].2 rfl ha3
    refine ⟨a, ha, by omega, by omega, _, c0, a, ha, by omega, by omega, _, c1, a3, ha3, ho.1, by omega, k1, ?_⟩
    intro w3
    have h3 : St w3 _ := k2
    clear_value w3
    refine Cnt.next hlt (by omega) ?_
    rw [List.take_succ_eq_append_getElem hlt, setAll_app]
    exact h3
  · have hmm : m = ws.length := by omega
    subst hmm
    rw [List.take_length] at h2
    exact hR l1 w2 h2

/-- the first of a longer row -/
theorem Has.pre {α : Type} {En : Enc α} {l : Sl} {xs ys : List α} (h : Has En w l (xs ++ ys)) (c : Nat) : Has En w ⟨l.a, xs.length, c⟩ xs :=
  ⟨rfl, fun j x hj => h.2 j x (by rw [List.getElem?_append_left (List.getElem?_eq_some_iff.1 hj).1]; exact hj)⟩
theorem SameW_st (h : St w X) {al bl : Sl} {ws : List Wr1} (ha : ∀ w', St w' X → Has EW w' al ws) (hb : ∀ w', St w' X → Has EW w' bl ws) (hl : ws.length ≤ 1000000000) {R : Bool → World → Prop} (hR : ∀ w', St w' X → R true w') : F.masonrybook_SameWrites al bl w R := by
  apply E.masonrybook_SameWrites
  unfold V.masonrybook_SameWrites
  try simp (config := { zeta := false }) only [cnd_all, Nat.reduceAdd]
  have h1 := (ha w h).1
  have h2 := (hb w h).1
  refine ⟨fun hne => absurd (by omega) hne, fun _ => ⟨Cnt ws.length fun _ w' => St w' X, cntM ws.length, Cnt.zero h, ?_⟩⟩
  rintro _ w1 ⟨m, rfl, hm, h3⟩
  refine ⟨fun hlt => ?_, fun _ => hR w1 h3⟩
  have hlt : m < ws.length := by omega
  intro wa1
  replace h3 : St wa1 _ := h3.drew
  clear_value wa1
  obtain ⟨a, ha1, hal, c0, c1⟩ := Has.wr (ha _ h3) hlt
  obtain ⟨b, hb1, hbl, e0, e1⟩ := Has.wr (hb _ h3) hlt
  refine ⟨a, ha1, by omega, by omega, _, c0, _, c1, b, hb1, by omega, by omega, _, e0, _, e1, fun hf => ?_, fun _ => Cnt.next hlt (by omega) h3⟩
  rw [tx_eq] at hf
  simp at hf
theorem LentW_st (h : St w X) {sl : Sl} {ws : List Wr1} (hx : Has EW w sl ws) (hnil : NilOk sl) (hl : ws.length ≤ 1000000) {R : Sl → World → Prop}
    (hR : ∀ l2 w', St w' (Row EW T.y_api_Write l2 (ws ++ [(-77, [])]) :: X) → ws.length + 1 ≤ l2.cap → R ⟨l2.a, ws.length, l2.cap⟩ w') : F.masonrybook_LentWrites sl w R := by
  apply E.masonrybook_LentWrites
  unfold V.masonrybook_LentWrites
  try simp (config := { zeta := false }) only [cnd_all, Nat.reduceAdd]
  have hs := hx.1
  apply E.masonrybook_copyWrites
  unfold V.masonrybook_copyWrites
  try simp (config := { zeta := false }) only [cnd_all, Nat.reduceAdd]
  refine St.app0 elt_wr h hx hnil (by omega) (by omega) fun l1 w1 h1 hl1 => ?_
  intro wa1
  replace h1 : St wa1 (Cs _ _ _ :: _) := h1.new _ _
  clear_value wa1
  refine St.app elt_wr h1.sw (sl := ⟨some (blk w1.heap.size), 1, 1⟩) (ys := [((-77 : Int), ([] : Bs))]) (h1.lit (xs := [((-77 : Int), ([] : Bs))]) rfl rfl 1) rfl (by simp; omega) (by simp; omega) fun l2 w3 h3 hl3 => ?_
  have h4 := h3.d2
  have hcap := Own.cap_ge h4.own
  simp only [List.length_cons, List.length_nil] at hl3
  refine ⟨by omega, by omega, ?_⟩
  rw [slA0, Int.toNat_natCast, hs]
  exact hR l2 w3 h4 (by omega)
theorem StaysW_st {l2 sl : Sl} {ws : List Wr1} (h : St w (Row EW T.y_api_Write l2 (ws ++ [(-77, [])]) :: X)) (hx : ∀ w', St w' X → Has EW w' sl ws) (hl : ws.length ≤ 1000000) (hc : ws.length + 1 ≤ l2.cap) {R : Bool → World → Prop}
    (hR : ∀ w', St w' (Row EW T.y_api_Write l2 (ws ++ [(-77, [])]) :: X) → R true w') : F.masonrybook_StaysWrites ⟨l2.a, ws.length, l2.cap⟩ sl w R := by
  apply E.masonrybook_StaysWrites
  unfold V.masonrybook_StaysWrites
  try simp (config := { zeta := false }) only [cnd_all, Nat.reduceAdd]
  refine SameW_st h (fun w' hw => Has.pre (hw.has (by decide)) _) (fun w' hw => hx w' hw.drop) (by omega) fun w1 h1 => ⟨fun _ => ?_, fun h => (by cases h)⟩
  have e1 : w64 (((ws.length : Nat) : Int) + 1) = ((ws.length + 1 : Nat) : Int) := w64_succ (by omega)
  rw [e1, slA0]
  obtain ⟨a, ha, _, c0, _⟩ := Has.wr (h1.has (by decide)) (m := ws.length) (by simp)
  refine ⟨by omega, by omega, a, ha, by omega, by omega, -77, by simpa using c0, ?_⟩
  exact hR w1 h1
end
end Go.Proofs.YtepclihkniaieaaGreatDoor
