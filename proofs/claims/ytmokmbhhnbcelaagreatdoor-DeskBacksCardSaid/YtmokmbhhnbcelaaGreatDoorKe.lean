/- masonrybook: SameInts, Room; masonrylaw12: need, Light; chain.Need of all numbers. -/
import Derived.Test.YtmokmbhhnbcelaaGreatDoorPm
import Derived.Test.YtmokmbhhnbcelaaGreatDoorKd
import Derived.Test.YtmokmbhhnbcelaaGreatDoorCx
set_option linter.unusedVariables false
namespace Go.Proofs.YtmokmbhhnbcelaaGreatDoor
open Go Go.Vc Go.RowKit Go.Lib

theorem Has.int {w : World} {l : Sl} {xs : List Int} (h : Has EI w l xs) {m : Nat} (hm : m < xs.length) : ∃ ad, l.a = some ad ∧ m < l.len ∧ w.cell? (ad.add (m * 1)) = some (.int .i64 xs[m]) := by
  obtain ⟨ad, ha, hl, hc⟩ := h.at hm
  have h0 := hc 0 _ rfl
  rw [Vc.addr_add0] at h0
  exact ⟨ad, ha, hl, h0⟩
theorem up_len : ∀ {l : List Int} {lo hi : Int}, Up l → (∀ x ∈ l, lo ≤ x ∧ x < hi) → lo ≤ hi → (l.length : Int) ≤ hi - lo
  | [], lo, hi, _, _, h => by simp; omega
  | a :: r, lo, hi, hu, hr, h => by
    obtain ⟨h1, h2⟩ := List.pairwise_cons.1 hu
    have ha := hr a (List.mem_cons_self ..)
    have := up_len (l := r) (lo := a + 1) (hi := hi) h2 (fun x hx => by
      have h3 := h1 x hx
      have h4 := hr x (List.mem_cons_of_mem _ hx)
      omega) (by omega)
    simp only [List.length_cons]
    omega
theorem keys_len {D : DkV} {c : Nat} (h : DOk c D) : (keysW (written D)).length ≤ D.bs.length := by
  have hu : Up (keysW (written D)) := by rw [← written_keys D]; exact (nextT_up _).1
  have := up_len (lo := 0) (hi := (D.bs.length : Int)) hu (fun x hx => by
    obtain ⟨p, hp, rfl⟩ := List.mem_map.1 hx
    have := written_mem h p hp
    exact ⟨this.1, this.2.1⟩) (by omega)
  omega
section
variable {w : World} {X : List As}
theorem Room_any {sl : Sl} {ns : List Int} (hx : Has EI w sl ns) {left : Int} (hl : -1 ≤ left ∧ left < 4611686018427387904) (hn : ∀ n ∈ ns, 0 ≤ n) (hlen : ns.length ≤ 1000) {R : Int → World → Prop} (hR : ∀ x, -1 ≤ x → x ≤ left → (0 ≤ x → ∀ n ∈ ns, n ≤ left) → R x w) : F.masonrybook_Room left sl w R := by
  apply E.masonrybook_Room
  unfold V.masonrybook_Room
  try simp (config := { zeta := false }) only [cnd_all, Nat.reduceAdd]
  have hs := hx.1
  refine ⟨fun x i w' => w' = w ∧ ∃ m : Nat, i = m ∧ m ≤ ns.length ∧ -1 ≤ x ∧ x ≤ left ∧ ∀ n ∈ ns.take m, n ≤ left, fun _ i _ => ((ns.length : Int) - i).toNat, ⟨rfl, 0, rfl, Nat.zero_le _, hl.1, Int.le_refl _, by simp⟩, ?_⟩
  rintro x i w1 ⟨rfl, m, rfl, hm, hx1, hx2, hall⟩
  refine ⟨fun hlt => ?_, fun hge => ?_⟩
  · have hlt : m < ns.length := by omega
    obtain ⟨a, ha, hal, hc0⟩ := Has.int hx hlt
    have h0 := hn ns[m] (List.getElem_mem hlt)
    refine ⟨fun hneg => hR _ (by omega) (by omega) (fun h => by omega), fun hpos => ⟨a, ha, by omega, by omega, ns[m], hc0, fun hbig => hR _ (by omega) (by omega) (fun h => by omega), fun hsm => ⟨a, ha, by omega, by omega, ns[m], hc0, ?_⟩⟩⟩
    rw [w64_succ (by omega), show w64 (x - ns[m]) = x - ns[m] from w64_id (by omega) (by omega)]
    refine ⟨⟨rfl, m + 1, rfl, hlt, by omega, by omega, fun n hn => ?_⟩, by show ((ns.length : Int) - ((m + 1 : Nat) : Int)).toNat < ((ns.length : Int) - (m : Int)).toNat; omega⟩
    rw [List.take_succ_eq_append_getElem hlt] at hn
    rcases List.mem_append.1 hn with hn | hn
    · exact hall n hn
    · simp only [List.mem_cons, List.not_mem_nil, or_false] at hn
      subst hn; omega
  · have hmm : m = ns.length := by omega
    subst hmm
    rw [List.take_length] at hall
    exact hR x hx1 hx2 fun _ => hall
end

/-! ### What is done -/
structure OpC where
  kind : Int
  k : Int
  gen : Int
  tag : Int
  by_ : Int
  s : Bs
  more : Int
def EOC : Enc OpC := ⟨fun o => [.int .i64 o.kind, .int .i64 o.k, .int .i64 o.gen, .int .i64 o.tag, .int .i64 o.by_, .string (tx o.s), .int .i64 o.more], 7, fun _ => rfl, fun _ u hu => by simp only [List.mem_cons, List.not_mem_nil, or_false] at hu; rcases hu with rfl | rfl | rfl | rfl | rfl | rfl | rfl <;> rfl⟩
theorem Has.op {w : World} {l : Sl} {xs : List OpC} (h : Has EOC w l xs) {m : Nat} (hm : m < xs.length) : ∃ ad, l.a = some ad ∧ m < l.len ∧ w.cell? (ad.add (m * 7)) = some (.int .i64 xs[m].kind) ∧ w.cell? ((ad.add (m * 7)).add 1) = some (.int .i64 xs[m].k) ∧ w.cell? ((ad.add (m * 7)).add 2) = some (.int .i64 xs[m].gen) ∧ w.cell? ((ad.add (m * 7)).add 3) = some (.int .i64 xs[m].tag) ∧ w.cell? ((ad.add (m * 7)).add 4) = some (.int .i64 xs[m].by_) ∧ w.cell? ((ad.add (m * 7)).add 5) = some (.string (tx xs[m].s)) ∧ w.cell? ((ad.add (m * 7)).add 6) = some (.int .i64 xs[m].more) := by
  obtain ⟨ad, ha, hl, hc⟩ := h.at hm
  have h0 := hc 0 _ rfl
  rw [Vc.addr_add0] at h0
  exact ⟨ad, ha, hl, h0, hc 1 _ rfl, hc 2 _ rfl, hc 3 _ rfl, hc 4 _ rfl, hc 5 _ rfl, hc 6 _ rfl⟩
section
variable {w : World} {X : List As}
end
end Go.Proofs.YtmokmbhhnbcelaaGreatDoor

/- masonrylaw11: Light, run, seen. -/
set_option linter.unusedVariables false
namespace Go.Proofs.YtmokmbhhnbcelaaGreatDoor
open Go Go.Vc Go.RowKit Go.Lib Go.Maps Go.Proofs

structure OpD where
  kind : Int
  a : Int
  s : Bs
  L : Sl
  ks : List Int
def EOD : Enc OpD := ⟨fun o => [.int .i64 o.kind, .int .i64 o.a, .string (tx o.s), slV o.L], 4, fun _ => rfl, fun _ u hu => by simp only [List.mem_cons, List.not_mem_nil, or_false] at hu; rcases hu with rfl | rfl | rfl | rfl <;> rfl⟩
def Ops11 (w : World) (sl : Sl) (os : List OpD) : Prop := Has EOD w sl os ∧ ∀ o ∈ os, Ints w o.L o.ks ∧ o.L.len ≤ o.L.cap
theorem Ops11.fr {w w' : World} {sl : Sl} {os : List OpD} (h : Ops11 w sl os) (hB : Below w.heap.size w w') : Ops11 w' sl os :=
  ⟨h.1.fr (fr_below hB), fun o ho => ⟨(h.2 o ho).1.below hB, (h.2 o ho).2⟩⟩
theorem Ops11.at {w : World} {l : Sl} {xs : List OpD} (h : Ops11 w l xs) {m : Nat} (hm : m < xs.length) : ∃ ad, l.a = some ad ∧ m < l.len ∧ w.cell? (ad.add (m * 4)) = some (.int .i64 xs[m].kind) ∧ w.cell? ((ad.add (m * 4)).add 1) = some (.int .i64 xs[m].a) ∧ w.cell? ((ad.add (m * 4)).add 2) = some (.string (tx xs[m].s)) ∧ w.cell? ((ad.add (m * 4)).add 3) = some (.slice xs[m].L.a xs[m].L.len xs[m].L.cap) := by
  obtain ⟨ad, ha, hl, hc⟩ := h.1.at hm
  have h0 := hc 0 _ rfl
  rw [Vc.addr_add0] at h0
  exact ⟨ad, ha, hl, h0, hc 1 _ rfl, hc 2 _ rfl, hc 3 _ rfl⟩
def Lt11 (os : List OpD) : Prop := os.length ≤ 60 ∧ ∀ o ∈ os, o.s.length ≤ 4000 ∧ o.L.len ≤ 4000
section
variable {w : World} {X : List As}
theorem Light11_st (h : St w X) {sl : Sl} {os : List OpD} (hx : ∀ w', St w' X → Ops11 w' sl os) {R : Bool → World → Prop}
    (hR : ∀ b w', St w' X → (b = true → Lt11 os) → R b w') : F.masonrylaw11_Light sl w R := by
  apply E.masonrylaw11_Light
  unfold V.masonrylaw11_Light
  try simp (config := { zeta := false }) only [cnd_all, Nat.reduceAdd]
  have hs := (hx w h).1.1
  refine ⟨fun room i w' => ∃ m : Nat, i = m ∧ m ≤ os.length ∧ m ≤ 100 ∧ -1 ≤ room ∧ room ≤ 4000 ∧ St w' X ∧ (0 ≤ room → ∀ o ∈ os.take m, o.s.length ≤ 4000 ∧ o.L.len ≤ 4000), fun _ i _ => ((100 : Int) - i).toNat, ⟨0, rfl, Nat.zero_le _, Nat.zero_le _, by decide, by decide, h, fun _ o ho => by simp at ho⟩, ?_⟩
  rintro room i w1 ⟨m, rfl, hm, hm2, hr1, hr2, h1, hall⟩
  have stop : (m = os.length ∨ m = 100 ∨ room < 0) → ((((sl.len : Nat) : Int) ≤ 60 → R (decide (room ≥ 0)) w1) ∧ (¬((sl.len : Nat) : Int) ≤ 60 → R false w1)) := fun hor => by
    refine ⟨fun h60 => hR _ _ h1 fun hb => ?_, fun _ => hR _ _ h1 fun h => (by cases h)⟩
    have hb := of_decide_eq_true hb
    have hmm : m = os.length := by omega
    subst hmm
    rw [List.take_length] at hall
    exact ⟨by omega, hall hb⟩
  refine ⟨fun hlt => ⟨fun h100 => ⟨fun hr0 => ?_, fun hr0 => stop (by omega)⟩, fun h100 => stop (by omega)⟩, fun hge => stop (by omega)⟩
  have hlt : m < os.length := by omega
  intro wa1
  replace h1 : St wa1 _ := h1.drew
  clear_value wa1
  obtain ⟨ad, ha, hal, _, _, c2, c3⟩ := (hx _ h1).at hlt
  refine ⟨ad, ha, by omega, by omega, _, c2, ad, ha, by omega, by omega, os[m].L, c3, ?_⟩
  intro wa2
  have h2 : St wa2 (Cs _ _ _ :: _) := h1.new _ _
  clear_value wa2
  have again : ∀ {w'}, St w' X → w'.cell? ((ad.add (m * 4)).add 2) = some (.string (tx os[m].s)) ∧ w'.cell? ((ad.add (m * 4)).add 3) = some (.slice os[m].L.a os[m].L.len os[m].L.cap) := fun hw => by
    obtain ⟨ad2, ha2, _, _, _, d2, d3⟩ := (hx _ hw).at hlt
    rw [ha] at ha2
    injection ha2 with ha2
    subst ha2
    exact ⟨d2, d3⟩
  obtain ⟨d2, d3⟩ := again h2.drop
  refine ⟨d3, d2, ?_⟩
  refine Room_any (ns := [((tx os[m].s).size : Int), ((os[m].L.len : Nat) : Int)]) (h2.lit rfl rfl 2) (by omega) (fun n hn => by simp only [List.mem_cons, List.not_mem_nil, or_false] at hn; rcases hn with rfl | rfl <;> omega) (by simp) fun x x1 x2 x3 => ⟨d3, d2, ?_⟩
  rw [w64_succ (by omega)]
  refine ⟨⟨m + 1, rfl, hlt, by omega, x1, by omega, h2.drop, fun hx0 o ho => ?_⟩, by show ((100 : Int) - ((m + 1 : Nat) : Int)).toNat < ((100 : Int) - (m : Int)).toNat; omega⟩
  rw [List.take_succ_eq_append_getElem hlt] at ho
  rcases List.mem_append.1 ho with ho | ho
  · exact hall hr0 o ho
  · simp only [List.mem_cons, List.not_mem_nil, or_false] at ho
    subst ho
    have y1 := x3 hx0 _ (List.mem_cons_self ..)
    have y2 := x3 hx0 _ (List.mem_cons_of_mem _ (List.mem_cons_self ..))
    rw [tx_size] at y1
    omega
theorem Fill_st (h : St w X) {s : Bs} (hs : s.length ≤ 1000000000) {R : ByteArray → World → Prop} (hR : ∀ w', St w' X → R (tx (fillS s)) w') : F.masonrylaw7_Fill (tx s) w R :=
  Fill_spec hs fun w' hB => hR w' (h.below hB)
set_option maxHeartbeats 1000000 in
theorem run_st {k g c : Nat} {D : DkV} (h : St w (DeskS k g c D :: X)) {sl : Sl} {os : List OpD} (hx : ∀ w', St w' X → Ops11 w' sl os) (hl : Lt11 os) (hc : c ≤ 900000) {R : World → Prop}
    (hR : ∀ D' w', Same D D' → St w' (DeskS k g (c + 60) D' :: X) → R w') : F.masonrylaw11_run (some (blk k)) sl w R := by
  apply E.masonrylaw11_run
  unfold V.masonrylaw11_run
  try simp (config := { zeta := false }) only [cnd_all, Nat.reduceAdd]
  have hs := (hx w h.drop).1.1
  obtain ⟨hl1, hl2⟩ := hl
  refine ⟨fun i w' => ∃ (m : Nat) (D' : DkV), i = m ∧ m ≤ os.length ∧ Same D D' ∧ St w' (DeskS k g (c + m) D' :: X), fun i _ => ((os.length : Int) - i).toNat, ⟨0, D, rfl, Nat.zero_le _, Same.refl D, h⟩, ?_⟩
  rintro i w1 ⟨m, D1, rfl, hm, hS, h1⟩
  refine ⟨fun hlt => ?_, fun hge => hR D1 _ hS (DeskS.mono h1 (by omega))⟩
  have hlt : m < os.length := by omega
  have hom := hl2 _ (List.getElem_mem hlt)
  obtain ⟨ad, ha, hal, _, _, c2, _⟩ := (hx _ h1.drop).at hlt
  refine ⟨ad, ha, by omega, by omega, _, c2, Fill_st h1 (by omega) fun w2 h2 => ?_⟩
  have hfl := fillS_len os[m].s
  obtain ⟨ad2, ha2, _, c0, c1, _, c3⟩ := (hx _ h2.drop).at hlt
  have hme : ((os.length : Int) - w64 ((m : Int) + 1)).toNat < ((os.length : Int) - (m : Int)).toNat := by rw [w64_succ (by omega)]; omega
  have nx : ∀ {D' w'}, Same D1 D' → St w' (DeskS k g (c + m + 1) D' :: X) → (∃ (m' : Nat) (D' : DkV), w64 ((m : Int) + 1) = m' ∧ m' ≤ os.length ∧ Same D D' ∧ St w' (DeskS k g (c + m') D' :: X)) ∧ ((os.length : Int) - w64 ((m : Int) + 1)).toNat < ((os.length : Int) - (m : Int)).toNat := fun {D' w'} hS' h' =>
    ⟨⟨m + 1, D', w64_succ (by omega), hlt, hS.trans hS', h'⟩, hme⟩
  have st : ∀ {w'}, St w' (DeskS k g (c + m) D1 :: X) → _ := fun {w'} h' => nx (Same.refl D1) (DeskS.mono h' (Nat.le_succ _))
  have hI : ∀ w', St w' X → Ints w' os[m].L os[m].ks := fun w' hw => ((hx _ hw).2 _ (List.getElem_mem hlt)).1
  have hIl := (hI _ h2.drop).1
  have hIc := ((hx _ h2.drop).2 _ (List.getElem_mem hlt)).2
  refine ⟨ad2, ha2, by omega, by omega, _, c0, fun k1 => ?_, fun k1 => ⟨fun k2 => ?_, fun k2 => ⟨fun k3 => ?_, fun k3 => ⟨fun k4 => ?_, fun k4 => st h2⟩⟩⟩⟩
  · refine ⟨ad2, ha2, by omega, by omega, _, c1, ?_⟩
    exact Set_st h2 (by omega) (by omega) (fun _ => st h2) (fun _ _ _ => st h2) fun w3 _ _ _ h3 => nx (D' := setD D1 os[m].a (fillS os[m].s)) ⟨rfl, rfl, rfl, rfl, rfl⟩ h3
  · exact New_st h2 (by omega) (by omega) (fun _ => st h2) (fun _ _ => st h2) fun w3 _ _ h3 => nx (D' := newD' D1 (fillS os[m].s)) ⟨rfl, rfl, rfl, rfl, by show (D1.bs.set _ _).length = _; rw [List.length_set]⟩ h3
  · refine ⟨ad2, ha2, by omega, by omega, os[m].L, c3, ?_⟩
    exact Drop_any h2 hI hIc (by omega) fun e D' w3 hS' h3 => nx hS' (DeskS.mono h3 (Nat.le_succ _))
  · refine ⟨ad2, ha2, by omega, by omega, os[m].L, c3, ?_⟩
    exact Keep_any h2 hI (by omega) fun e D' w3 hS' h3 => nx hS' (DeskS.mono h3 (Nat.le_succ _))
end
end Go.Proofs.YtmokmbhhnbcelaaGreatDoor
