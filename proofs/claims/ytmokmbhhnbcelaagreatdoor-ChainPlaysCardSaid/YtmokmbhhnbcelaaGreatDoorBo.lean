/- masonrybook: SameInts, Room; masonrylaw12: need, Light; chain.Need of all numbers. -/
import Derived.Test.YtmokmbhhnbcelaaGreatDoorPm
import Derived.Test.YtmokmbhhnbcelaaGreatDoorSq
import Derived.Test.YtmokmbhhnbcelaaGreatDoorDa
set_option linter.unusedVariables false
namespace Go.Proofs.YtmokmbhhnbcelaaGreatDoor
open Go Go.Vc Go.RowKit Go.Lib

theorem Has.int {w : World} {l : Sl} {xs : List Int} (h : Has EI w l xs) {m : Nat} (hm : m < xs.length) : ∃ ad, l.a = some ad ∧ m < l.len ∧ w.cell? (ad.add (m * 1)) = some (.int .i64 xs[m]) := by
  obtain ⟨ad, ha, hl, hc⟩ := h.at hm
  have h0 := hc 0 _ rfl
  rw [Vc.addr_add0] at h0
  exact ⟨ad, ha, hl, h0⟩
def needI (n : Int) : Int := if n < 0 then 0 else needN n.toNat
section
variable {w : World} {X : List As}
theorem SameI_st (h : St w X) {al bl : Sl} {xs ys : List Int} (ha : ∀ w', St w' X → Has EI w' al xs) (hb : ∀ w', St w' X → Has EI w' bl ys) (hl : xs.length ≤ 1000000000000000) {R : Bool → World → Prop} (hR : ∀ w', St w' X → R (decide (xs = ys)) w') : F.masonrybook_SameInts al bl w R := by
  apply E.masonrybook_SameInts
  unfold V.masonrybook_SameInts
  try simp (config := { zeta := false }) only [cnd_all, Nat.reduceAdd]
  have h1 := (ha w h).1
  have h2 := (hb w h).1
  refine ⟨fun hne => ?_, fun heq => ?_⟩
  · have := hR w h
    rw [decide_eq_false (fun e => hne (by rw [h1, h2, e]))] at this
    exact this
  have hlen : xs.length = ys.length := by omega
  refine ⟨Cnt xs.length fun m w' => xs.take m = ys.take m ∧ St w' X, cntM xs.length, Cnt.zero ⟨rfl, h⟩, ?_⟩
  rintro _ w1 ⟨m, rfl, hm, htk, h3⟩
  refine ⟨fun hlt => ?_, fun hge => ?_⟩
  · have hlt : m < xs.length := by omega
    intro wa1
    replace h3 : St wa1 _ := h3.drew
    clear_value wa1
    obtain ⟨a, ha1, hal, c0⟩ := Has.int (ha _ h3) hlt
    obtain ⟨b, hb1, hbl, e0⟩ := Has.int (hb _ h3) (m := m) (by omega)
    refine ⟨a, ha1, by omega, by omega, _, c0, b, hb1, by omega, by omega, _, e0, fun hf => ?_, fun ht => Cnt.next hlt (by omega) ⟨?_, h3⟩⟩
    · have := hR _ h3
      rw [decide_eq_false (fun e => by subst e; simp at hf)] at this
      exact this
    · rw [List.take_succ_eq_append_getElem hlt, List.take_succ_eq_append_getElem (by omega), htk]
      rw [ht]
  · have hmm : m = xs.length := by omega
    subst hmm
    rw [List.take_length] at htk
    have e : xs = ys := by rw [htk, hlen, List.take_length]
    have := hR _ h3
    rw [decide_eq_true e] at this; exact this
theorem Room_any {sl : Sl} {ns : List Int} (hx : Has EI w sl ns) {left : Int} (hl : -1 ≤ left ∧ left < 4611686018427387904) (hn : ∀ n ∈ ns, 0 ≤ n) (hlen : ns.length ≤ 1000) {R : Int → World → Prop} (hR : ∀ x, -1 ≤ x → x ≤ left → (0 ≤ x → ∀ n ∈ ns, n ≤ left) → R x w) : F.masonrybook_Room left sl w R := by
  apply E.masonrybook_Room
  unfold V.masonrybook_Room
  try simp (config := { zeta := false }) only [cnd_all, Nat.reduceAdd]
  have hs := hx.1
  refine ⟨fun x i w' => w' = w ∧ ∃ m : Nat, i = m ∧ m ≤ ns.length ∧ -1 ≤ x ∧ x ≤ left ∧ ∀ n ∈ ns.take m, n ≤ left, fun _ i _ => ((ns.length : Int) - i).toNat, ⟨rfl, 0, rfl, Nat.zero_le _, hl.1, Int.le_refl _, by simp⟩, ?_⟩
  rintro x i w1 ⟨rfl, m, rfl, hm, hx1, hx2, hall⟩
  refine ⟨fun hlt => ?_, fun hge => ?_⟩
  · have hlt : m < ns.length := by omega
    obtain ⟨a, ha, hal, hc0⟩ := Has.int hx hlt
    have h0 := hn ns[m] (List.getElem_mem hlt)
    refine ⟨fun hneg => hR _ (by omega) (by omega) (fun h => by omega), fun hpos => ⟨a, ha, by omega, by omega, ns[m], hc0, fun hbig => hR _ (by omega) (by omega) (fun h => by omega), fun hsm => ⟨a, ha, by omega, by omega, ns[m], hc0, ?_⟩⟩⟩
    rw [w64_succ (by omega), show w64 (x - ns[m]) = x - ns[m] from w64_id (by omega) (by omega)]
    refine ⟨⟨rfl, m + 1, rfl, hlt, by omega, by omega, fun n hn => ?_⟩, by show ((ns.length : Int) - ((m + 1 : Nat) : Int)).toNat < ((ns.length : Int) - (m : Int)).toNat; omega⟩
    rw [List.take_succ_eq_append_getElem hlt] at hn
    rcases List.mem_append.1 hn with hn | hn
    · exact hall n hn
    · simp only [List.mem_cons, List.not_mem_nil, or_false] at hn
      subst hn; omega
  · have hmm : m = ns.length := by omega
    subst hmm
    rw [List.take_length] at hall
    exact hR x hx1 hx2 fun _ => hall
theorem need12_st {n : Int} (hn : n ≤ 1099511627776) {R : Int → World → Prop} (hR : R (needI n) w) : F.masonrylaw12_need n w R := by
  apply E.masonrylaw12_need
  unfold V.masonrylaw12_need
  try simp (config := { zeta := false }) only [cnd_all, Nat.reduceAdd]
  unfold needI at hR
  refine ⟨fun h => by rw [if_pos h] at hR; exact hR, fun h => ⟨by decide, ?_⟩⟩
  rw [if_neg h] at hR
  obtain ⟨m, rfl⟩ := Int.eq_ofNat_of_zero_le (by omega : 0 ≤ n)
  rw [Int.toNat_natCast] at hR
  have e1 : w64 (w64 ((m : Int) + 236) - 1) = ((m + 235 : Nat) : Int) := by rw [w64_id (x := (m : Int) + 236) (by omega) (by omega), w64_id (by omega) (by omega)]; omega
  have e2 : (((m + 235 : Nat) : Int)).tdiv 236 = (((m + 235) / 236 : Nat) : Int) := (Int.ofNat_tdiv (m + 235) 236).symm
  rw [e1, e2, w64_id (by omega) (by omega)]
  have e : (needN m : Int) = imax (((m + 235) / 236 : Nat) : Int) 1 := by unfold needN imax; split <;> split <;> omega
  rw [e] at hR; exact hR
theorem Need_all {n : Int} (hn : n ≤ 1099511627776) {R : Int → World → Prop} (hR : R (needI n) w) : F.chain_Need n w R := by
  apply E.chain_Need
  unfold V.chain_Need
  try simp (config := { zeta := false }) only [cnd_all, Nat.reduceAdd]
  unfold needI at hR
  refine ⟨fun h => by rw [if_pos h] at hR; exact hR, fun h => ?_⟩
  rw [if_neg h] at hR
  obtain ⟨m, rfl⟩ := Int.eq_ofNat_of_zero_le (by omega : 0 ≤ n)
  rw [Int.toNat_natCast] at hR
  refine ⟨fun h => ?_, fun h => ⟨by decide, ?_⟩⟩
  · have e : needN m = 1 := by unfold needN; rw [if_pos (by omega)]
    rw [e] at hR; exact hR
  · have e1 : w64 ((m : Int) - 1) = ((m - 1 : Nat) : Int) := by rw [w64_id (by omega) (by omega)]; omega
    have e2 : (((m - 1 : Nat) : Int)).tdiv 236 = (((m - 1) / 236 : Nat) : Int) := (Int.ofNat_tdiv (m - 1) 236).symm
    have e3 : w64 (((m - 1) / 236 : Nat) : Int) = (((m - 1) / 236 : Nat) : Int) := w64_id (by omega) (by omega)
    rw [e1, e2, e3, w64_id (by omega) (by omega)]
    have e : (needN m : Int) = (((m - 1) / 236 : Nat) : Int) + 1 := by unfold needN; rw [if_neg (by omega)]; omega
    rw [e] at hR; exact hR
end

/-! ### What is done -/
structure OpC where
  kind : Int
  k : Int
  gen : Int
  tag : Int
  by_ : Int
  s : Bs
  more : Int
def EOC : Enc OpC := ⟨fun o => [.int .i64 o.kind, .int .i64 o.k, .int .i64 o.gen, .int .i64 o.tag, .int .i64 o.by_, .string (tx o.s), .int .i64 o.more], 7, fun _ => rfl, fun _ u hu => by simp only [List.mem_cons, List.not_mem_nil, or_false] at hu; rcases hu with rfl | rfl | rfl | rfl | rfl | rfl | rfl <;> rfl⟩
theorem Has.op {w : World} {l : Sl} {xs : List OpC} (h : Has EOC w l xs) {m : Nat} (hm : m < xs.length) : ∃ ad, l.a = some ad ∧ m < l.len ∧ w.cell? (ad.add (m * 7)) = some (.int .i64 xs[m].kind) ∧ w.cell? ((ad.add (m * 7)).add 1) = some (.int .i64 xs[m].k) ∧ w.cell? ((ad.add (m * 7)).add 2) = some (.int .i64 xs[m].gen) ∧ w.cell? ((ad.add (m * 7)).add 3) = some (.int .i64 xs[m].tag) ∧ w.cell? ((ad.add (m * 7)).add 4) = some (.int .i64 xs[m].by_) ∧ w.cell? ((ad.add (m * 7)).add 5) = some (.string (tx xs[m].s)) ∧ w.cell? ((ad.add (m * 7)).add 6) = some (.int .i64 xs[m].more) := by
  obtain ⟨ad, ha, hl, hc⟩ := h.at hm
  have h0 := hc 0 _ rfl
  rw [Vc.addr_add0] at h0
  exact ⟨ad, ha, hl, h0, hc 1 _ rfl, hc 2 _ rfl, hc 3 _ rfl, hc 4 _ rfl, hc 5 _ rfl, hc 6 _ rfl⟩
section
variable {w : World} {X : List As}
theorem Light12_st (h : St w X) {sl : Sl} {os : List OpC} (hx : ∀ w', St w' X → Has EOC w' sl os) {R : Bool → World → Prop}
    (hR : ∀ b w', St w' X → (b = true → os.length ≤ 40 ∧ ∀ o ∈ os, o.s.length ≤ 8000) → R b w') : F.masonrylaw12_Light sl w R := by
  apply E.masonrylaw12_Light
  unfold V.masonrylaw12_Light
  try simp (config := { zeta := false }) only [cnd_all, Nat.reduceAdd]
  have hs := (hx w h).1
  refine ⟨fun room i w' => ∃ m : Nat, i = m ∧ m ≤ os.length ∧ m ≤ 100 ∧ -1 ≤ room ∧ room ≤ 8000 ∧ St w' X ∧ (0 ≤ room → ∀ o ∈ os.take m, o.s.length ≤ 8000), fun _ i _ => ((100 : Int) - i).toNat, ⟨0, rfl, Nat.zero_le _, Nat.zero_le _, by decide, by decide, h, fun _ o ho => by simp at ho⟩, ?_⟩
  rintro room i w1 ⟨m, rfl, hm, hm2, hr1, hr2, h1, hall⟩
  have stop : (m = os.length ∨ m = 100 ∨ room < 0) → ((((sl.len : Nat) : Int) ≤ 40 → R (decide (room ≥ 0)) w1) ∧ (¬((sl.len : Nat) : Int) ≤ 40 → R false w1)) := fun hor => by
    refine ⟨fun h40 => hR _ _ h1 fun hb => ?_, fun _ => hR _ _ h1 fun h => (by cases h)⟩
    have hb := of_decide_eq_true hb
    have hmm : m = os.length := by omega
    subst hmm
    rw [List.take_length] at hall
    exact ⟨by omega, hall hb⟩
  refine ⟨fun hlt => ⟨fun h100 => ⟨fun hr0 => ?_, fun hr0 => stop (by omega)⟩, fun h100 => stop (by omega)⟩, fun hge => stop (by omega)⟩
  have hlt : m < os.length := by omega
  obtain ⟨ad, ha, hal, _, _, _, _, _, c5, _⟩ := Has.op (hx _ h1) hlt
  refine ⟨ad, ha, by omega, by omega, _, c5, ?_⟩
  intro wa1
  have h2 : St wa1 (Cs _ _ _ :: _) := h1.new _ _
  clear_value wa1
  refine Room_any (ns := [((tx os[m].s).size : Int)]) (h2.lit rfl rfl 1) (by omega) (fun n hn => by simp only [List.mem_cons, List.not_mem_nil, or_false] at hn; subst hn; omega) (by simp) fun x x1 x2 x3 => ?_
  rw [w64_succ (by omega)]
  refine ⟨⟨m + 1, rfl, hlt, by omega, x1, by omega, h2.drop, fun hx0 o ho => ?_⟩, by show ((100 : Int) - ((m + 1 : Nat) : Int)).toNat < ((100 : Int) - (m : Int)).toNat; omega⟩
  rw [List.take_succ_eq_append_getElem hlt] at ho
  rcases List.mem_append.1 ho with ho | ho
  · exact hall hr0 o ho
  · simp only [List.mem_cons, List.not_mem_nil, or_false] at ho
    subst ho
    have := x3 hx0 _ (List.mem_cons_self ..)
    rw [tx_size] at this
    omega
end
end Go.Proofs.YtmokmbhhnbcelaaGreatDoor

/- words: many rows, each of its own. -/
set_option linter.unusedVariables false
namespace Go.Proofs.YtmokmbhhnbcelaaGreatDoor
open Go Go.Vc Go.RowKit Go.Lib

theorem StP.perm {L L' : List As} (h : L.Perm L') : ∀ {w : World} {S : Nat → Prop}, StP L w S → StP L' w S := by
  induction h with
  | nil => exact fun h => h
  | cons A _ ih => exact fun h => StP.cons (fun S hS => ih hS) h
  | swap A B l => exact fun h => StP.swap h
  | trans _ _ ih1 ih2 => exact fun h => ih2 (ih1 h)
theorem St.perm {w : World} {L L' : List As} (h : St w L) (hp : L.Perm L') : St w L' := by
  obtain ⟨S, h⟩ := h
  exact ⟨S, StP.perm hp h⟩

section
variable {α : Type} {En : Enc α} {t : TypeId} {w : World} {X : List As}
def rowsL (En : Enc α) (t : TypeId) (xs : List (Sl × List α)) : List As := xs.map fun p => Row En t p.1 p.2
/-- lists, each with a row of its own -/
def Rows' (En : Enc α) (t : TypeId) (xs : List (Sl × List α)) : As := As.all (rowsL En t xs)
theorem Rows'.nil (h : St w X) : St w (Rows' En t [] :: X) := h.fold []
theorem Rows'.split {a b : List (Sl × List α)} {p : Sl × List α} (h : St w (Rows' En t (a ++ p :: b) :: X)) : St w (Row En t p.1 p.2 :: Rows' En t a :: Rows' En t b :: X) := by
  have h1 := h.unfold
  have e : rowsL En t (a ++ p :: b) = rowsL En t a ++ Row En t p.1 p.2 :: rowsL En t b := by simp [rowsL]
  rw [e] at h1
  have h2 : St w (rowsL En t b ++ (rowsL En t a ++ (Row En t p.1 p.2 :: X))) := St.perm h1 (by
    have p1 : (rowsL En t a ++ Row En t p.1 p.2 :: rowsL En t b ++ X).Perm (Row En t p.1 p.2 :: (rowsL En t a ++ rowsL En t b) ++ X) := List.Perm.append_right X List.perm_middle
    refine p1.trans ?_
    have p2 : (rowsL En t b ++ (rowsL En t a ++ Row En t p.1 p.2 :: X)).Perm (Row En t p.1 p.2 :: (rowsL En t b ++ (rowsL En t a ++ X))) := by
      rw [← List.append_assoc, ← List.append_assoc]
      exact List.perm_middle
    refine List.Perm.trans ?_ p2.symm
    rw [List.cons_append]
    refine List.Perm.cons _ ?_
    rw [← List.append_assoc]
    exact List.Perm.append_right X List.perm_append_comm)
  have h3 := (h2.fold (rowsL En t b))
  have h4 := (St.perm h3 (L' := rowsL En t a ++ (As.all (rowsL En t b) :: Row En t p.1 p.2 :: X)) (by
    exact (List.perm_middle).symm)).fold (rowsL En t a)
  exact h4.up2
theorem Rows'.has {xs : List (Sl × List α)} (h : St w (Rows' En t xs :: X)) (hn : 0 < En.n) {i : Nat} {p : Sl × List α} (hi : xs[i]? = some p) : Has En w p.1 p.2 := by
  obtain ⟨hlt, rfl⟩ := List.getElem?_eq_some_iff.1 hi
  have e : xs = xs.take i ++ xs[i] :: xs.drop (i + 1) := by rw [← List.drop_eq_getElem_cons hlt, List.take_append_drop]
  rw [e] at h
  have := (Rows'.split h).has hn
  exact this
end
/-! ### Appends, with what the old slice reads -/
section
variable {w : World} {L : List As} {α : Type} {En : Enc α} {t : TypeId} {l : Sl} {xs : List α}
/-- the first elements of a slice -/
theorem Has.pre {sl sl' : Sl} {ys : List α} (h : Has En w sl' (xs ++ ys)) (ha : sl'.a = sl.a) (hl : sl.len = xs.length) : Has En w sl xs :=
  ⟨hl, fun j x hj => by
    have hlt := (List.getElem?_eq_some_iff.1 hj).1
    obtain ⟨a, h1, h2⟩ := h.2 j x (by rw [List.getElem?_append_left hlt]; exact hj)
    exact ⟨a, by rw [← ha]; exact h1, h2⟩⟩
/-- the elements behind some -/
theorem Has.post {sl : Sl} (h : Has En w sl xs) {k : Nat} (hk : k ≤ xs.length) (hc : sl.len ≤ sl.cap) : Has En w ⟨slA sl.a sl.cap k En.n, sl.len - k, sl.cap - k⟩ (xs.drop k) :=
  ⟨by rw [List.length_drop, h.1], fun j x hj => by
    rw [List.getElem?_drop] at hj
    have hlt := (List.getElem?_eq_some_iff.1 hj).1
    obtain ⟨a, h1, h2⟩ := h.2 (k + j) x hj
    have hl := h.1
    refine ⟨a.add (k * En.n), ?_, fun i u hu => ?_⟩
    · unfold slA
      rw [if_neg (by omega), h1]; rfl
    · rw [Vc.addr_add]
      have := h2 i u hu
      rw [show k * En.n + (j * En.n + i) = (k + j) * En.n + i by rw [Nat.add_mul]; omega]
      exact this⟩
theorem slA_some {a : Addr} {cap k size : Nat} : ∃ b, slA (some a) cap k size = some b := by
  unfold slA
  split
  · exact ⟨a, rfl⟩
  · exact ⟨_, rfl⟩
theorem Row.cap (h : St w (Row En t l xs :: L)) : l.len ≤ l.cap := by
  have hO := h.own
  rcases hO.2 with ⟨h2, h0⟩ | ⟨g, cap, cur, h2, hbg, hgg, hnc, hcm, hcs, htake⟩
  · simp only [Value.slice.injEq] at h2; omega
  · simp only [Value.slice.injEq] at h2; omega
end
end Go.Proofs.YtmokmbhhnbcelaaGreatDoor
