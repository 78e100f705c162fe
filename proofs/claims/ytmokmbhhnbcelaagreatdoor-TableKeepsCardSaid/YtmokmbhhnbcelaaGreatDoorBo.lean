/- table: names as bytes and back; lists of names; plain, same, Light of masonrylaw21. -/
import Derived.Test.YtmokmbhhnbcelaaGreatDoorRb
import Derived.Test.YtmokmbhhnbcelaaGreatDoorTn
import Derived.Test.YtmokmbhhnbcelaaGreatDoorPn
import Derived.Test.YtmokmbhhnbcelaaGreatDoorCl
import Derived.Test.YtmokmbhhnbcelaaGreatDoorDa
set_option linter.unusedVariables false
namespace Go.Proofs.YtmokmbhhnbcelaaGreatDoor
open Go Go.Vc Go.RowKit Go.Lib

theorem name1In_lay {n : Nm} (h1 : n.1.length < 256) (h2 : 0 ≤ n.2 ∧ n.2 < 65536) (rest : Bs) : name1In (name1 n ++ rest) 0 = (n, rest, 0) := by
  have e1 : (256 : Int) ^ 1 = 256 := by decide
  have e2 : (256 : Int) ^ 2 = 65536 := by decide
  unfold name1In name1
  rw [List.append_assoc, List.append_assoc, lowIn_layI (by omega) (by omega) (by decide)]
  simp only
  rw [rawIn_app]
  simp only
  rw [lowIn_layI h2.1 (by omega) (by decide)]
theorem namesIn_lay {ns : List Nm} (h : ∀ n ∈ ns, n.1.length < 256 ∧ 0 ≤ n.2 ∧ n.2 < 65536) : ∀ rest : Bs, namesIn ns.length (ns.flatMap name1 ++ rest, 0) = (ns, rest, 0) := by
  refine snoc_ind (P := fun ns => (∀ n ∈ ns, n.1.length < 256 ∧ 0 ≤ n.2 ∧ n.2 < 65536) → ∀ rest : Bs, namesIn ns.length (ns.flatMap name1 ++ rest, 0) = (ns, rest, 0)) (fun _ rest => rfl) (fun l x ih h rest => ?_) ns h
  have ih := ih (fun n hn => h n (List.mem_append_left _ hn))
  have hx := h x (by simp)
  rw [List.length_append, List.length_singleton, namesIn, List.flatMap_append, List.append_assoc, ih]
  simp only [List.flatMap_cons, List.flatMap_nil, List.append_nil]
  rw [name1In_lay hx.1 hx.2]
theorem layN_ok {ns : List Nm} (h : (layNames ns).2 = 0) : ns.length ≤ 40 ∧ (layNames ns).1 = leBytes 1 ns.length ++ ns.flatMap name1 ∧ ∀ n ∈ ns, 1 ≤ n.1.length ∧ n.1.length ≤ 12 ∧ 1 ≤ n.2 ∧ n.2 < 2000 := by
  unfold layNames at h ⊢
  split at h
  · rename_i hall
    rw [if_pos hall]
    split at h
    · cases h
    · rename_i hn
      rw [if_neg hn]
      refine ⟨by omega, rfl, fun n hm => ?_⟩
      obtain ⟨j, hj, rfl⟩ := List.mem_iff_getElem.1 hm
      have := List.all_eq_true.1 hall j (List.mem_range.2 hj)
      unfold okAt at this
      rw [List.getElem?_eq_getElem hj] at this
      simp only [Bool.and_eq_true, decide_eq_true_eq, validN] at this
      exact ⟨this.1.1, this.1.2.1, this.2.1, this.2.2.1⟩
  · cases h
theorem layNames_len {ns : List Nm} (h : (layNames ns).2 = 0) : (layNames ns).1.length ≤ 1000 := by
  obtain ⟨h1, h2, h3⟩ := layN_ok h
  rw [h2, List.length_append, leBytes_len]
  have : ∀ l : List Nm, (∀ n ∈ l, 1 ≤ n.1.length ∧ n.1.length ≤ 12 ∧ 1 ≤ n.2 ∧ n.2 < 2000) → (l.flatMap name1).length ≤ 15 * l.length := by
    intro l
    induction l with
    | nil => intro _; simp
    | cons a r ih =>
      intro hl
      have h4 := ih fun n hn => hl n (List.mem_cons_of_mem _ hn)
      have h5 := hl a (List.mem_cons_self ..)
      simp only [List.flatMap_cons, List.length_append, List.length_cons, name1, leBytes_len]
      omega
  have := this ns h3
  omega
theorem read_names {ns : List Nm} (h : (layNames ns).2 = 0) : readNames (layNames ns).1 = (ns, 0) := by
  obtain ⟨h1, h2, h3⟩ := layN_ok h
  have e1 : (256 : Int) ^ 1 = 256 := by decide
  have hrd : lowIn 1 (layNames ns).1 0 = ((ns.length : Int), ns.flatMap name1, 0) := by rw [h2, lowIn_layI (by omega) (by omega) (by decide)]
  have hni : namesIn ns.length (ns.flatMap name1, 0) = (ns, [], 0) := by
    have := namesIn_lay (ns := ns) (fun n hn => by have := h3 n hn; omega) []
    rw [List.append_nil] at this; exact this
  unfold readNames
  simp only [hrd, Int.toNat_natCast, hni]
  have hend : endIn [] 0 = 0 := rfl
  simp only [hend, h, ne_eq, not_true_eq_false, if_false]

def EN : Enc Nm := ⟨fun n => [.string (tx n.1), .int .i64 n.2], 2, fun _ => rfl, fun _ u hu => by simp only [List.mem_cons, List.not_mem_nil, or_false] at hu; rcases hu with rfl | rfl <;> rfl⟩
theorem Has.nm {w : World} {l : Sl} {xs : List Nm} (h : Has EN w l xs) {m : Nat} (hm : m < xs.length) : ∃ ad, l.a = some ad ∧ m < l.len ∧ w.cell? (ad.add (m * 2)) = some (.string (tx xs[m].1)) ∧ w.cell? ((ad.add (m * 2)).add 1) = some (.int .i64 xs[m].2) := by
  obtain ⟨ad, ha, hl, hc⟩ := h.at hm
  have h0 := hc 0 _ rfl
  rw [Vc.addr_add0] at h0
  exact ⟨ad, ha, hl, h0, hc 1 _ rfl⟩
theorem Has.names {w : World} {l : Sl} {xs : List Nm} (h : Has EN w l xs) : Names w l xs :=
  ⟨h.1, fun j n hj => by
    have hlt := (List.getElem?_eq_some_iff.1 hj).1
    obtain ⟨ad, ha, _, h0, h1⟩ := Has.nm h hlt
    rw [List.getElem?_eq_getElem hlt] at hj
    injection hj with hj
    subst hj
    exact ⟨ad, ha, h0, h1⟩⟩
theorem EN_all (ns : List Nm) : EN.all ns = nameCells ns := rfl
theorem elt_rn : Elt Pg T.y_sl_masonryref1_Name T.y_masonryref1_Name 2 24 := by
  refine ⟨by kernel_rfl, ?_, by decide⟩
  have h : (Pg.info? T.y_masonryref1_Name).map (fun i => (i.zero, i.size, i.bytes)) = some (some (.agg #[.string sNil, .int .i64 0]), 2, 24) := by kernel_rfl
  obtain ⟨i, hi, h2⟩ := Option.map_eq_some_iff.1 h
  simp only [Prod.mk.injEq] at h2
  exact ⟨i, _, hi, h2.1, h2.2.1, h2.2.2, rfl⟩

section
variable {w : World} {X : List As}
theorem plain_st (h : St w X) {sl : Sl} {ns : List Nm} (hx : ∀ w', St w' X → Has EN w' sl ns) (hn : ns.length ≤ 1000) {R : Sl → World → Prop} (hR : ∀ o w', St w' (Row EN T.y_masonryref1_Name o ns :: X) → R o w') : F.masonrylaw21_plain sl w R := by
  apply E.masonrylaw21_plain
  unfold V.masonrylaw21_plain
  try simp (config := { zeta := false }) only [cnd_all, Nat.reduceAdd]
  have hs := (hx w h).1
  refine ⟨fun o i w' => ∃ m : Nat, i = m ∧ m ≤ ns.length ∧ St w' (Row EN T.y_masonryref1_Name o (ns.take m) :: X), fun _ i _ => ((ns.length : Int) - i).toNat, ⟨0, rfl, Nat.zero_le _, h.row0 EN T.y_masonryref1_Name⟩, ?_⟩
  rintro o i w1 ⟨m, rfl, hm, h1⟩
  refine ⟨fun hlt => ?_, fun hge => ?_⟩
  · have hlt : m < ns.length := by omega
    intro wa1
    replace h1 : St wa1 _ := h1.drew
    clear_value wa1
    obtain ⟨ad, ha, hal, c0, c1⟩ := Has.nm (hx _ h1.drop) hlt
    refine ⟨ad, ha, by omega, by omega, _, c0, ad, ha, by omega, by omega, _, c1, ?_⟩
    intro wa2
    replace h1 : St wa2 (Cs _ _ _ :: _) := h1.new _ _
    clear_value wa2
    have again : ∀ {w'}, St w' X → w'.cell? (ad.add (m * 2)) = some (.string (tx ns[m].1)) ∧ w'.cell? ((ad.add (m * 2)).add 1) = some (.int .i64 ns[m].2) := fun hw => by
      obtain ⟨ad2, ha2, _, d0, d1⟩ := Has.nm (hx _ hw) hlt
      rw [ha] at ha2
      injection ha2 with ha2
      subst ha2
      exact ⟨d0, d1⟩
    obtain ⟨d0, d1⟩ := again h1.drop.drop
    refine ⟨d1, d0, ?_⟩
    refine St.app elt_rn h1.sw (sl := ⟨some (blk wa1.heap.size), 1, 1⟩) (ys := [ns[m]]) (h1.lit (xs := [ns[m]]) rfl rfl 1) rfl (by simp; omega) (by simp; omega) fun o2 w2 h2 _ => ?_
    obtain ⟨d0, d1⟩ := again h2.drop.drop
    rw [w64_succ (by omega)]
    refine ⟨d1, d0, ⟨m + 1, rfl, hlt, ?_⟩, by show ((ns.length : Int) - ((m + 1 : Nat) : Int)).toNat < ((ns.length : Int) - (m : Int)).toNat; omega⟩
    rw [List.take_succ_eq_append_getElem hlt]
    exact h2.d2
  · have hmm : m = ns.length := by omega
    subst hmm
    rw [List.take_length] at h1
    exact hR o w1 h1
theorem same21_st (h : St w X) {al bl : Sl} {xs : List Nm} (ha : ∀ w', St w' X → Has EN w' al xs) (hb : ∀ w', St w' X → Has EN w' bl xs) (hl : xs.length ≤ 1000000) {R : Bool → World → Prop} (hR : ∀ w', St w' X → R true w') : F.masonrylaw21_same al bl w R := by
  apply E.masonrylaw21_same
  unfold V.masonrylaw21_same
  try simp (config := { zeta := false }) only [cnd_all, Nat.reduceAdd]
  have h1 := (ha w h).1
  have h2 := (hb w h).1
  refine ⟨fun hne => absurd (by omega) hne, fun _ => ?_⟩
  refine ⟨Cnt xs.length fun m w' => St w' X, cntM xs.length, Cnt.zero h, ?_⟩
  rintro _ w1 ⟨m, rfl, hm, h3⟩
  refine ⟨fun hlt => ?_, fun hge => hR _ h3⟩
  have hlt : m < xs.length := by omega
  intro wa1
  replace h3 : St wa1 _ := h3.drew
  clear_value wa1
  obtain ⟨a, ha1, hal, c0, c1⟩ := Has.nm (ha _ h3) hlt
  obtain ⟨b, hb1, hbl, e0, e1⟩ := Has.nm (hb _ h3) hlt
  refine ⟨a, ha1, by omega, by omega, _, c0, b, hb1, by omega, by omega, _, e0, fun hf => ?_, fun _ => ⟨a, ha1, by omega, by omega, _, c1, b, hb1, by omega, by omega, _, e1, fun hf => absurd rfl hf, fun _ => Cnt.next hlt (by omega) h3⟩⟩
  rw [tx_eq] at hf
  simp at hf
theorem Light21_st (h : St w X) {sl : Sl} {ns : List Nm} (hx : ∀ w', St w' X → Has EN w' sl ns) {R : Bool → World → Prop}
    (hR : ∀ b w', St w' X → (b = true → ns.length ≤ 60 ∧ ∀ n ∈ ns, n.1.length ≤ 2000) → R b w') : F.masonrylaw21_Light sl w R := by
  apply E.masonrylaw21_Light
  unfold V.masonrylaw21_Light
  try simp (config := { zeta := false }) only [cnd_all, Nat.reduceAdd]
  have hs := (hx w h).1
  refine ⟨fun room i w' => ∃ m : Nat, i = m ∧ m ≤ ns.length ∧ m ≤ 100 ∧ -1 ≤ room ∧ room ≤ 2000 ∧ St w' X ∧ (0 ≤ room → ∀ n ∈ ns.take m, n.1.length ≤ 2000), fun _ i _ => ((100 : Int) - i).toNat, ⟨0, rfl, Nat.zero_le _, Nat.zero_le _, by decide, by decide, h, fun _ n hn => by simp at hn⟩, ?_⟩
  rintro room i w1 ⟨m, rfl, hm, hm2, hr1, hr2, h1, hall⟩
  have stop : (m = ns.length ∨ m = 100 ∨ room < 0) → ((((sl.len : Nat) : Int) ≤ 60 → R (decide (room ≥ 0)) w1) ∧ (¬((sl.len : Nat) : Int) ≤ 60 → R false w1)) := fun hor => by
    refine ⟨fun h60 => hR _ _ h1 fun hb => ?_, fun _ => hR _ _ h1 fun h => (by cases h)⟩
    have hb := of_decide_eq_true hb
    have hmm : m = ns.length := by omega
    subst hmm
    rw [List.take_length] at hall
    exact ⟨by omega, hall hb⟩
  refine ⟨fun hlt => ⟨fun h100 => ⟨fun hr0 => ?_, fun hr0 => stop (by omega)⟩, fun h100 => stop (by omega)⟩, fun hge => stop (by omega)⟩
  have hlt : m < ns.length := by omega
  obtain ⟨ad, ha, hal, c0, _⟩ := Has.nm (hx _ h1) hlt
  refine ⟨ad, ha, by omega, by omega, _, c0, ?_⟩
  intro wa1
  have h2 : St wa1 (Cs _ _ _ :: _) := h1.new _ _
  clear_value wa1
  refine Room_any (ns := [((tx ns[m].1).size : Int)]) (h2.lit rfl rfl 1) (by omega) (fun n hn => by simp only [List.mem_cons, List.not_mem_nil, or_false] at hn; subst hn; omega) (by simp) fun x x1 x2 x3 => ?_
  rw [w64_succ (by omega)]
  refine ⟨⟨m + 1, rfl, hlt, by omega, x1, by omega, h2.drop, fun hx0 n hn => ?_⟩, by show ((100 : Int) - ((m + 1 : Nat) : Int)).toNat < ((100 : Int) - (m : Int)).toNat; omega⟩
  rw [List.take_succ_eq_append_getElem hlt] at hn
  rcases List.mem_append.1 hn with hn | hn
  · exact hall hr0 n hn
  · simp only [List.mem_cons, List.not_mem_nil, or_false] at hn
    subst hn
    have := x3 hx0 _ (List.mem_cons_self ..)
    rw [tx_size] at this
    omega
end
end Go.Proofs.YtmokmbhhnbcelaaGreatDoor

/- words: many rows, each of its own. -/
set_option linter.unusedVariables false
namespace Go.Proofs.YtmokmbhhnbcelaaGreatDoor
open Go Go.Vc Go.RowKit Go.Lib

theorem StP.perm {L L' : List As} (h : L.Perm L') : ∀ {w : World} {S : Nat → Prop}, StP L w S → StP L' w S := by
  induction h with
  | nil => exact fun h => h
  | cons A _ ih => exact fun h => StP.cons (fun S hS => ih hS) h
  | swap A B l => exact fun h => StP.swap h
  | trans _ _ ih1 ih2 => exact fun h => ih2 (ih1 h)
theorem St.perm {w : World} {L L' : List As} (h : St w L) (hp : L.Perm L') : St w L' := by
  obtain ⟨S, h⟩ := h
  exact ⟨S, StP.perm hp h⟩

section
variable {α : Type} {En : Enc α} {t : TypeId} {w : World} {X : List As}
def rowsL (En : Enc α) (t : TypeId) (xs : List (Sl × List α)) : List As := xs.map fun p => Row En t p.1 p.2
/-- lists, each with a row of its own -/
def Rows' (En : Enc α) (t : TypeId) (xs : List (Sl × List α)) : As := As.all (rowsL En t xs)
theorem Rows'.nil (h : St w X) : St w (Rows' En t [] :: X) := h.fold []
theorem Rows'.split {a b : List (Sl × List α)} {p : Sl × List α} (h : St w (Rows' En t (a ++ p :: b) :: X)) : St w (Row En t p.1 p.2 :: Rows' En t a :: Rows' En t b :: X) := by
  have h1 := h.unfold
  have e : rowsL En t (a ++ p :: b) = rowsL En t a ++ Row En t p.1 p.2 :: rowsL En t b := by simp [rowsL]
  rw [e] at h1
  have h2 : St w (rowsL En t b ++ (rowsL En t a ++ (Row En t p.1 p.2 :: X))) := St.perm h1 (by
    have p1 : (rowsL En t a ++ Row En t p.1 p.2 :: rowsL En t b ++ X).Perm (Row En t p.1 p.2 :: (rowsL En t a ++ rowsL En t b) ++ X) := List.Perm.append_right X List.perm_middle
    refine p1.trans ?_
    have p2 : (rowsL En t b ++ (rowsL En t a ++ Row En t p.1 p.2 :: X)).Perm (Row En t p.1 p.2 :: (rowsL En t b ++ (rowsL En t a ++ X))) := by
      rw [← List.append_assoc, ← List.append_assoc]
      exact List.perm_middle
    refine List.Perm.trans ?_ p2.symm
    rw [List.cons_append]
    refine List.Perm.cons _ ?_
    rw [← List.append_assoc]
    exact List.Perm.append_right X List.perm_append_comm)
  have h3 := (h2.fold (rowsL En t b))
  have h4 := (St.perm h3 (L' := rowsL En t a ++ (As.all (rowsL En t b) :: Row En t p.1 p.2 :: X)) (by
    exact (List.perm_middle).symm)).fold (rowsL En t a)
  exact h4.up2
theorem Rows'.has {xs : List (Sl × List α)} (h : St w (Rows' En t xs :: X)) (hn : 0 < En.n) {i : Nat} {p : Sl × List α} (hi : xs[i]? = some p) : Has En w p.1 p.2 := by
  obtain ⟨hlt, rfl⟩ := List.getElem?_eq_some_iff.1 hi
  have e : xs = xs.take i ++ xs[i] :: xs.drop (i + 1) := by rw [← List.drop_eq_getElem_cons hlt, List.take_append_drop]
  rw [e] at h
  have := (Rows'.split h).has hn
  exact this
end
/-! ### Appends, with what the old slice reads -/
section
variable {w : World} {L : List As} {α : Type} {En : Enc α} {t : TypeId} {l : Sl} {xs : List α}
/-- the first elements of a slice -/
theorem Has.pre {sl sl' : Sl} {ys : List α} (h : Has En w sl' (xs ++ ys)) (ha : sl'.a = sl.a) (hl : sl.len = xs.length) : Has En w sl xs :=
  ⟨hl, fun j x hj => by
    have hlt := (List.getElem?_eq_some_iff.1 hj).1
    obtain ⟨a, h1, h2⟩ := h.2 j x (by rw [List.getElem?_append_left hlt]; exact hj)
    exact ⟨a, by rw [← ha]; exact h1, h2⟩⟩
/-- the elements behind some -/
theorem Has.post {sl : Sl} (h : Has En w sl xs) {k : Nat} (hk : k ≤ xs.length) (hc : sl.len ≤ sl.cap) : Has En w ⟨slA sl.a sl.cap k En.n, sl.len - k, sl.cap - k⟩ (xs.drop k) :=
  ⟨by rw [List.length_drop, h.1], fun j x hj => by
    rw [List.getElem?_drop] at hj
    have hlt := (List.getElem?_eq_some_iff.1 hj).1
    obtain ⟨a, h1, h2⟩ := h.2 (k + j) x hj
    have hl := h.1
    refine ⟨a.add (k * En.n), ?_, fun i u hu => ?_⟩
    · unfold slA
      rw [if_neg (by omega), h1]; rfl
    · rw [Vc.addr_add]
      have := h2 i u hu
      rw [show k * En.n + (j * En.n + i) = (k + j) * En.n + i by rw [Nat.add_mul]; omega]
      exact this⟩
theorem Row.cap (h : St w (Row En t l xs :: L)) : l.len ≤ l.cap := by
  have hO := h.own
  rcases hO.2 with ⟨h2, h0⟩ | ⟨g, cap, cur, h2, hbg, hgg, hnc, hcm, hcs, htake⟩
  · simp only [Value.slice.injEq] at h2; omega
  · simp only [Value.slice.injEq] at h2; omega
end
end Go.Proofs.YtmokmbhhnbcelaaGreatDoor
