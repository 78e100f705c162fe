/- words: many rows, each of its own. -/
import Derived.Test.YtmokmbhhnbcelaaGreatDoorSq
import Derived.Test.YtmokmbhhnbcelaaGreatDoorDa
import Derived.Test.YtmokmbhhnbcelaaGreatDoorPh
set_option linter.unusedVariables false
namespace Go.Proofs.YtmokmbhhnbcelaaGreatDoor
open Go Go.Vc Go.RowKit Go.Lib

theorem StP.perm {L L' : List As} (h : L.Perm L') : ∀ {w : World} {S : Nat → Prop}, StP L w S → StP L' w S := by
  induction h with
  | nil => exact fun h => h
  | cons A _ ih => exact fun h => StP.cons (fun S hS => ih hS) h
  | swap A B l => exact fun h => StP.swap h
  | trans _ _ ih1 ih2 => exact fun h => ih2 (ih1 h)
theorem St.perm {w : World} {L L' : List As} (h : St w L) (hp : L.Perm L') : St w L' := by
  obtain ⟨S, h⟩ := h
  exact ⟨S, StP.perm hp h⟩

section
variable {α : Type} {En : Enc α} {t : TypeId} {w : World} {X : List As}
def rowsL (En : Enc α) (t : TypeId) (xs : List (Sl × List α)) : List As := xs.map fun p => Row En t p.1 p.2
/-- lists, each with a row of its own -/
def Rows' (En : Enc α) (t : TypeId) (xs : List (Sl × List α)) : As := As.all (rowsL En t xs)
theorem Rows'.nil (h : St w X) : St w (Rows' En t [] :: X) := h.fold []
theorem Rows'.split {a b : List (Sl × List α)} {p : Sl × List α} (h : St w (Rows' En t (a ++ p :: b) :: X)) : St w (Row En t p.1 p.2 :: Rows' En t a :: Rows' En t b :: X) := by
  have h1 := h.unfold
  have e : rowsL En t (a ++ p :: b) = rowsL En t a ++ Row En t p.1 p.2 :: rowsL En t b := by simp [rowsL]
  rw [e] at h1
  have h2 : St w (rowsL En t b ++ (rowsL En t a ++ (Row En t p.1 p.2 :: X))) := St.perm h1 (by
    have p1 : (rowsL En t a ++ Row En t p.1 p.2 :: rowsL En t b ++ X).Perm (Row En t p.1 p.2 :: (rowsL En t a ++ rowsL En t b) ++ X) := List.Perm.append_right X List.perm_middle
    refine p1.trans ?_
    have p2 : (rowsL En t b ++ (rowsL En t a ++ Row En t p.1 p.2 :: X)).Perm (Row En t p.1 p.2 :: (rowsL En t b ++ (rowsL En t a ++ X))) := by
      rw [← List.append_assoc, ← List.append_assoc]
      exact List.perm_middle
    refine List.Perm.trans ?_ p2.symm
    rw [List.cons_append]
    refine List.Perm.cons _ ?_
    rw [← List.append_assoc]
    exact List.Perm.append_right X List.perm_append_comm)
  have h3 := (h2.fold (rowsL En t b))
  have h4 := (St.perm h3 (L' := rowsL En t a ++ (As.all (rowsL En t b) :: Row En t p.1 p.2 :: X)) (by
    exact (List.perm_middle).symm)).fold (rowsL En t a)
  exact h4.up2
theorem Rows'.has {xs : List (Sl × List α)} (h : St w (Rows' En t xs :: X)) (hn : 0 < En.n) {i : Nat} {p : Sl × List α} (hi : xs[i]? = some p) : Has En w p.1 p.2 := by
  obtain ⟨hlt, rfl⟩ := List.getElem?_eq_some_iff.1 hi
  have e : xs = xs.take i ++ xs[i] :: xs.drop (i + 1) := by rw [← List.drop_eq_getElem_cons hlt, List.take_append_drop]
  rw [e] at h
  have := (Rows'.split h).has hn
  exact this
end
/-! ### Appends, with what the old slice reads -/
section
variable {w : World} {L : List As} {α : Type} {En : Enc α} {t : TypeId} {l : Sl} {xs : List α}
/-- append; the old slice is the new one's first part, or a row of its own still -/
theorem St.app2 {P : Program} {ts ty : TypeId} {bytes : Nat} (hE : Elt P ts t En.n bytes) (h : St w (Row En t l xs :: L)) {sl : Sl} {ys : List α} (hs : Has En w sl ys) {a : Addr} (ha : sl.a = some a)
    (hb : (xs.length + ys.length) * bytes ≤ 140737488355328) (hb2 : xs.length + ys.length ≤ 4611686018427387904) {R : Sl → World → Prop}
    (hR1 : ∀ l' w', St w' (Row En t l' (xs ++ ys) :: L) → l'.len = xs.length + ys.length → l'.a = l.a → R l' w')
    (hR2 : ∀ l' w', St w' (Row En t l' (xs ++ ys) :: Row En t l xs :: L) → l'.len = xs.length + ys.length → R l' w') :
    RunT P (Builtin.append_ #[ts, ts] ty #[.slice l.a l.len l.cap, .slice (some a) sl.len sl.cap]) [.one .slice] w R := by
  obtain ⟨i, z, hi, hz, h1, h2, h3⟩ := hE.info
  have hl := (h.has hE.pos).1
  obtain ⟨S, ⟨hO, e⟩, hlt, hX⟩ := h.out
  subst e
  refine runT_append2 hE.und hi hz h1 h2 h3 hE.pos hO (m := sl.len) (news := En.all ys) (by rw [En.all_len, hs.1]) (fun j u hu => ?_) (En.all_one ys) (by rw [hl, hs.1]; simp only [maxLen]; omega) (by rw [hl, hs.1]; exact hb) fun l' w' ho hl' hor => ?_
  · have hj : j < ys.length * En.n := by rw [← En.all_len]; exact (List.getElem?_eq_some_iff.1 hu).1
    have hd : j / En.n < ys.length := (Nat.div_lt_iff_lt_mul hE.pos).2 hj
    have hm := Nat.mod_lt j hE.pos
    have hx : ys[j / En.n]? = some ys[j / En.n] := by simp [hd]
    have hc0 : (En.cells ys[j / En.n])[j % En.n]? = some ((En.cells ys[j / En.n])[j % En.n]'(by rw [En.len]; exact hm)) := by simp [En.len, hm]
    have e1 := En.at hx hc0
    have e2 : j / En.n * En.n + j % En.n = j := by rw [Nat.mul_comm]; exact Nat.div_add_mod j En.n
    rw [e2, hu] at e1
    obtain ⟨a', ha', hc⟩ := hs.2 _ _ hx
    rw [ha] at ha'
    injection ha' with ha'
    subst ha'
    have := hc _ _ hc0
    rw [e2] at this
    rw [this, e1]
  · rw [← En.all_app] at ho
    rcases hor with ⟨hm, hf⟩ | ⟨⟨g, hm, hg⟩, hf⟩
    · refine hR1 l' w' (hX ⟨ho, rfl⟩ hf fun k hk => ?_) (by rw [hl', hl, hs.1]) hm
      obtain ⟨a', ha', rfl⟩ := hk
      exact .inl ⟨a', by rw [← hm]; exact ha', rfl⟩
    · refine hR2 l' w' (h.add (A := Row En t l' (xs ++ ys)) (S := l'.bk) ⟨ho, rfl⟩ hf fun k hk => ?_) (by rw [hl', hl, hs.1])
      obtain ⟨a', ha', rfl⟩ := hk
      rw [hm] at ha'; injection ha' with ha'; subst ha'; exact hg
/-- the first elements of a slice -/
theorem Has.pre {sl sl' : Sl} {ys : List α} (h : Has En w sl' (xs ++ ys)) (ha : sl'.a = sl.a) (hl : sl.len = xs.length) : Has En w sl xs :=
  ⟨hl, fun j x hj => by
    have hlt := (List.getElem?_eq_some_iff.1 hj).1
    obtain ⟨a, h1, h2⟩ := h.2 j x (by rw [List.getElem?_append_left hlt]; exact hj)
    exact ⟨a, by rw [← ha]; exact h1, h2⟩⟩
/-- the elements behind some -/
theorem Has.post {sl : Sl} (h : Has En w sl xs) {k : Nat} (hk : k ≤ xs.length) (hc : sl.len ≤ sl.cap) : Has En w ⟨slA sl.a sl.cap k En.n, sl.len - k, sl.cap - k⟩ (xs.drop k) :=
  ⟨by rw [List.length_drop, h.1], fun j x hj => by
    rw [List.getElem?_drop] at hj
    have hlt := (List.getElem?_eq_some_iff.1 hj).1
    obtain ⟨a, h1, h2⟩ := h.2 (k + j) x hj
    have hl := h.1
    refine ⟨a.add (k * En.n), ?_, fun i u hu => ?_⟩
    · unfold slA
      rw [if_neg (by omega), h1]; rfl
    · rw [Vc.addr_add]
      have := h2 i u hu
      rw [show k * En.n + (j * En.n + i) = (k + j) * En.n + i by rw [Nat.add_mul]; omega]
      exact this⟩
theorem slA_some {a : Addr} {cap k size : Nat} : ∃ b, slA (some a) cap k size = some b := by
  unfold slA
  split
  · exact ⟨a, rfl⟩
  · exact ⟨_, rfl⟩
theorem Row.cap (h : St w (Row En t l xs :: L)) : l.len ≤ l.cap := by
  have hO := h.own
  rcases hO.2 with ⟨h2, h0⟩ | ⟨g, cap, cur, h2, hbg, hgg, hnc, hcm, hcs, htake⟩
  · simp only [Value.slice.injEq] at h2; omega
  · simp only [Value.slice.injEq] at h2; omega
end
end Go.Proofs.YtmokmbhhnbcelaaGreatDoor

/- PlanWhole: the walk. -/
set_option linter.unusedVariables false
namespace Go.Proofs.YtmokmbhhnbcelaaGreatDoor
open Go Go.Vc Go.RowKit Go.Lib

section
variable {w : World} {X : List As}
set_option maxHeartbeats 4000000 in
theorem PlanWhole_st (h : St w X) {at_ : Int} {sl : Sl} {l : List Pc} (hx : ∀ w', St w' X → Has EPc w' sl l) {R : Bool → World → Prop} (hR : ∀ w', St w' X → R true w') : F.masonrylaw20_PlanWhole sl at_ w R := by
  apply E.masonrylaw20_PlanWhole
  unfold V.masonrylaw20_PlanWhole
  try simp (config := { zeta := false }) only [cnd_all, Nat.reduceAdd]
  have hs := (hx w h).1
  refine ⟨fun b w' => St w' X ∧ (b = false → l.length ≤ 60), ⟨fun _ => ⟨h, fun h => (by cases h)⟩, fun h1 => alive20_st h fun w1 hw => ⟨hw, fun _ => by omega⟩⟩, ?_⟩
  rintro b w1 ⟨h1, hb⟩
  refine ⟨fun _ => alive20_st h1 hR, fun hbf => ?_⟩
  have hn := hb hbf
  refine ⟨fun i w' => ∃ m : Nat, i = m ∧ m ≤ l.length ∧ LenOk (l.take m) ∧ St w' X, fun i _ => ((l.length : Int) - i).toNat, ⟨0, rfl, Nat.zero_le _, fun p hp => (by simp at hp), h1⟩, ?_⟩
  rintro i w2 ⟨m, rfl, hm, hok, h2⟩
  refine ⟨fun hlt => ?_, fun hge => ?_⟩
  · have hlt : m < l.length := by omega
    obtain ⟨ad, ha, hal, c0, c1⟩ := Has.pc (hx _ h2) hlt
    refine ⟨ad, ha, by omega, by omega, _, c1, fun _ => hR _ h2, fun h3 => ⟨ad, ha, by omega, by omega, _, c1, fun _ => hR _ h2, fun h4 => ?_⟩⟩
    rw [w64_succ (by omega)]
    refine ⟨⟨m + 1, rfl, hlt, fun p hp => ?_, h2⟩, by show ((l.length : Int) - ((m + 1 : Nat) : Int)).toNat < ((l.length : Int) - (m : Int)).toNat; omega⟩
    rw [List.take_succ_eq_append_getElem hlt] at hp
    rcases List.mem_append.1 hp with hp | hp
    · exact hok p hp
    · simp only [List.mem_cons, List.not_mem_nil, or_false] at hp
      subst hp; omega
  have hmm : m = l.length := by omega
  subst hmm
  rw [List.take_length] at hok
  have hsum := sumP_pos hok
  refine Size_plan h2 hx hok (by omega) fun w3 h3 => Cut_plan h3 hx hok (by omega) fun o w4 h4 => ?_
  rw [cut_whole hok (by omega)] at h4 ⊢
  refine ⟨fun b w' => b = false ∧ St w' (Row EPc T.y_api_Piece o l :: X), SameP_st h4 (fun w' hw => hw.has (by decide)) (fun w' hw => hx w' hw.drop) (by show l.length ≤ _; omega) fun w5 h5 => ?_, ?_⟩
  · rw [decide_eq_true rfl]
    exact ⟨fun h => (by cases h), fun _ => ⟨fun h => absurd rfl h, fun _ => ⟨rfl, h5⟩⟩⟩
  rintro b w5 ⟨rfl, h5⟩
  refine ⟨fun h => (by cases h), fun _ => ?_⟩
  refine ⟨fun b w' => w' = w5 ∧ b = decide (at_ ≤ 0 ∨ sumP l ≤ at_), ⟨fun h => ⟨rfl, by simp [h]⟩, fun h => ⟨rfl, by rw [Bool.eq_iff_iff, decide_eq_true_iff, decide_eq_true_iff]; omega⟩⟩, ?_⟩
  rintro b w6 ⟨rfl, rfl⟩
  refine ⟨fun _ => hR _ h5.drop, fun hb2 => ?_⟩
  have hb2 := of_decide_eq_false hb2
  obtain ⟨a, p, b, hl, s1, s2, e1, e2⟩ := cut_two hok (by omega) (x := at_) (by omega) (by omega)
  have hll : l.length = a.length + (b.length + 1) := by rw [hl]; simp
  have hpp : LenOk (a ++ p :: b) := by rw [← hl]; exact hok
  have hp2 := hpp p (by simp)
  have hsa := sumP_pos hpp.app.1
  refine Cut_plan h5 (fun w' hw => hx w' hw.drop) hok (by omega) fun o2 w7 h7 => Cut_plan h7 (fun w' hw => hx w' hw.drop.drop) hok (by omega) fun o3 w8 h8 => ?_
  rw [e1, e2] at h8 ⊢
  by_cases hxa : at_ = sumP a
  · simp only [if_pos hxa] at h8 ⊢
    have l2 := (h8.sw.has (by decide)).1
    have l3 := (h8.has (by decide)).1
    simp only [List.length_cons] at l3
    have hane : a.length ≠ 0 := fun h0 => by
      have : a = [] := List.eq_nil_of_length_eq_zero h0
      rw [this] at hxa
      simp [sumP] at hxa; omega
    refine ⟨fun v w' => w' = w8 ∧ v = false, ⟨fun h => absurd trivial h, fun _ => ⟨fun h => absurd trivial h, fun _ => ⟨fun h => by omega, fun _ => ⟨rfl, by simp; omega⟩⟩⟩⟩, ?_⟩
    rintro v w9 ⟨rfl, rfl⟩
    obtain ⟨ad, had, hadl, c0, c1⟩ := Has.pc (h8.has (by decide)) (m := 0) (by simp)
    refine ⟨fun h => (by cases h), fun _ => ⟨fun _ => ⟨fun _ => ?_, fun h => absurd (by omega) h⟩, fun h => absurd trivial h⟩⟩
    obtain ⟨oa, ol, oc⟩ := o3
    simp only at had l3
    subst had
    refine St.app elt_pc h8.sw (sl := ⟨some ad, ol, oc⟩) (ys := p :: b) (h8.has (by decide)) rfl (by simp only [List.length_cons]; omega) (by simp only [List.length_cons]; omega) fun o4 w9 h9 hl9 => ?_
    rw [← hl] at h9
    refine SameP_st h9 (fun w' hw => hw.has (by decide)) (fun w' hw => hx w' hw.drop.drop.drop) (by omega) fun w10 h10 => ?_
    rw [decide_eq_true rfl]
    exact hR _ h10.drop.drop.drop
  · simp only [if_neg hxa] at h8 ⊢
    have l2 := (h8.sw.has (by decide)).1
    have l3 := (h8.has (by decide)).1
    have hcap := Row.cap h8
    simp only [List.length_cons, List.length_append, List.length_nil] at l3 l2
    refine ⟨fun v w' => w' = w8 ∧ v = false, ⟨fun h => absurd trivial h, fun _ => ⟨fun h => absurd trivial h, fun _ => ⟨fun h => by omega, fun _ => ⟨rfl, by simp; omega⟩⟩⟩⟩, ?_⟩
    rintro v w9 ⟨rfl, rfl⟩
    refine ⟨fun h => (by cases h), fun _ => ⟨fun h => by omega, fun _ => ?_⟩⟩
    replace h8 := h8.drew
    generalize w9.drew = wa1 at *
    have hi2 : w64 (((o2.len : Nat) : Int) - 1) = ((a.length : Nat) : Int) := by rw [w64_id (by omega) (by omega)]; omega
    rw [hi2]
    have hw8 : w64 (sumP a + p.2 - at_ + (at_ - sumP a)) = p.2 := by rw [w64_id (by omega) (by omega)]; omega
    rw [hw8]
    have P2 : ∀ {w'}, St w' (Row EPc T.y_api_Piece o3 (p :: b) :: Row EPc T.y_api_Piece o2 (a ++ [p]) :: Row EPc T.y_api_Piece o l :: X) → ∃ ad, o2.a = some ad ∧ w'.cell? (ad.add (a.length * 2)) = some (.int .i64 p.1) ∧ w'.cell? ((ad.add (a.length * 2)).add 1) = some (.int .i64 p.2) := fun hw => by
      obtain ⟨ad, h1, _, h2, h3⟩ := Has.pc (hw.sw.has (by decide)) (m := a.length) (by simp)
      rw [List.getElem_append_right (Nat.le_refl _)] at h2 h3
      simp only [Nat.sub_self, List.getElem_cons_zero] at h2 h3
      exact ⟨ad, h1, h2, h3⟩
    obtain ⟨a2, ha2, d0, d1⟩ := P2 h8
    obtain ⟨a3, ha3, _, f0, f1⟩ := Has.pc (h8.has (by decide)) (m := 0) (by simp)
    simp only [List.getElem_cons_zero] at f0 f1
    refine ⟨a2, ha2, by omega, by omega, _, d1, fun _ => ⟨a2, ha2, by omega, by omega, _, d0, _, d1, a3, ha3, by decide, by omega, _, f0, _, f1, fun _ => ⟨by decide, by omega, ?_⟩, fun h => (by simp at h)⟩, fun h => absurd rfl h⟩
    have hpost := Has.post (h8.has (by decide)) (k := 1) (by simp) hcap
    simp only [List.drop_succ_cons, List.drop_zero] at hpost
    obtain ⟨oa, ol, oc⟩ := o3
    simp only at ha3 l3 hcap
    subst ha3
    obtain ⟨bb, hbb⟩ := slA_some (a := a3) (cap := oc) (k := 1) (size := 2)
    have hpost : Has EPc wa1 ⟨some bb, ol - 1, oc - 1⟩ b := by
      have : slA (some a3) oc 1 EPc.n = some bb := hbb
      rw [← this]; exact hpost
    have e1' : (1 : Int).toNat = 1 := rfl
    rw [e1', hbb]
    have fin : ∀ {o5 : Sl} {w'} {Y : List As}, (∀ w'', St w'' (Row EPc T.y_api_Piece o5 (a ++ [p] ++ b) :: Y) → Has EPc w'' ⟨some a3, ol, oc⟩ (p :: b) ∧ Has EPc w'' o2 (a ++ [p]) ∧ St w'' X) → St w' (Row EPc T.y_api_Piece o5 (a ++ [p] ++ b) :: Y) → w'.cell? (a3.add ((0 : Int).toNat * 2)) = some (.int .i64 p.1) ∧ w'.cell? ((a3.add ((0 : Int).toNat * 2)).add 1) = some (.int .i64 p.2) ∧ w'.cell? (a2.add (a.length * 2)) = some (.int .i64 p.1) ∧ w'.cell? ((a2.add (a.length * 2)).add 1) = some (.int .i64 p.2) ∧ w'.cell? ((a2.add (a.length * 2)).add 1) = some (.int .i64 p.2) := fun hall hw => by
      obtain ⟨g3, g2, _⟩ := hall _ hw
      obtain ⟨x3, hx3, _, y0, y1⟩ := Has.pc g3 (m := 0) (by simp)
      obtain ⟨x2, hx2, _, z0, z1⟩ := Has.pc g2 (m := a.length) (by simp)
      rw [List.getElem_append_right (Nat.le_refl _)] at z0 z1
      simp only [Nat.sub_self, List.getElem_cons_zero] at y0 y1 z0 z1
      simp only [Option.some.injEq] at hx3
      rw [ha2] at hx2
      simp only [Option.some.injEq] at hx2
      subst hx3 hx2
      exact ⟨y0, y1, z0, z1, z1⟩
    have go : ∀ {o5 : Sl} {w'} {Y : List As}, (∀ w'', St w'' (Row EPc T.y_api_Piece o5 (a ++ [p] ++ b) :: Y) → Has EPc w'' ⟨some a3, ol, oc⟩ (p :: b) ∧ Has EPc w'' o2 (a ++ [p]) ∧ St w'' X) → St w' (Row EPc T.y_api_Piece o5 (a ++ [p] ++ b) :: Y) →
        F.masonrybook_SamePieces o5 sl w' (fun b8 w'' => w''.cell? (a3.add ((0 : Int).toNat * 2)) = some (.int .i64 p.1) ∧ w''.cell? ((a3.add ((0 : Int).toNat * 2)).add 1) = some (.int .i64 p.2) ∧ w''.cell? (a2.add (a.length * 2)) = some (.int .i64 p.1) ∧ w''.cell? ((a2.add (a.length * 2)).add 1) = some (.int .i64 p.2) ∧ w''.cell? ((a2.add (a.length * 2)).add 1) = some (.int .i64 p.2) ∧ R b8 w'') := fun hall hw =>
      SameP_st hw (fun w'' hw => hw.has (by decide)) (fun w'' hw => hx w'' (hall w'' hw).2.2) (by simp; omega) fun w'' hw'' => by
        obtain ⟨q1, q2, q3, q4, q5⟩ := fin hall hw''
        refine ⟨q1, q2, q3, q4, q5, ?_⟩
        rw [decide_eq_true (by rw [hl]; simp)]
        exact hR _ (hall _ hw'').2.2
    refine St.app2 elt_pc h8.sw hpost rfl (by simp; omega) (by simp; omega) (fun o5 w9 h9 hl9 ha9 => ?_) fun o5 w9 h9 hl9 => ?_
    · have hall : ∀ w'', St w'' (Row EPc T.y_api_Piece o5 (a ++ [p] ++ b) :: Row EPc T.y_api_Piece ⟨some a3, ol, oc⟩ (p :: b) :: Row EPc T.y_api_Piece o l :: X) → Has EPc w'' ⟨some a3, ol, oc⟩ (p :: b) ∧ Has EPc w'' o2 (a ++ [p]) ∧ St w'' X := fun w'' hw => ⟨hw.sw.has (by decide), Has.pre (hw.has (by decide)) ha9 (by rw [l2]; simp), hw.drop.drop.drop⟩
      obtain ⟨q1, q2, q3, q4, q5⟩ := fin hall h9
      exact ⟨q1, q2, q3, q4, q5, go hall h9⟩
    · have hall : ∀ w'', St w'' (Row EPc T.y_api_Piece o5 (a ++ [p] ++ b) :: Row EPc T.y_api_Piece o2 (a ++ [p]) :: Row EPc T.y_api_Piece ⟨some a3, ol, oc⟩ (p :: b) :: Row EPc T.y_api_Piece o l :: X) → Has EPc w'' ⟨some a3, ol, oc⟩ (p :: b) ∧ Has EPc w'' o2 (a ++ [p]) ∧ St w'' X := fun w'' hw => ⟨hw.up2.has (by decide), hw.sw.has (by decide), hw.drop.drop.drop.drop⟩
      obtain ⟨q1, q2, q3, q4, q5⟩ := fin hall h9
      exact ⟨q1, q2, q3, q4, q5, go hall h9⟩
end
theorem PlanWhole_spec {w : World} {l : Sl} {lZ : List Pc} (hl : Has EPc w l lZ) {at_ : Int} {R : Bool → World → Prop} (hR : ∀ w', Below w.heap.size w w' → R true w') : F.masonrylaw20_PlanWhole l at_ w R :=
  PlanWhole_st (St.start w) (fun w' h => hl.fr (fr_below (St.old h))) fun w' h => hR w' (St.old h)
end Go.Proofs.YtmokmbhhnbcelaaGreatDoor
