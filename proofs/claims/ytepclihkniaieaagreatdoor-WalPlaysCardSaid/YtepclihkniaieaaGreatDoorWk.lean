/- WalPlays: the walk. -/
import Derived.Test.YtepclihkniaieaaGreatDoorWj
set_option linter.unusedVariables false
namespace Go.Proofs.YtepclihkniaieaaGreatDoor
open Go Go.Vc Go.RowKit Go.Lib Go.Maps Go.Proofs

/-- short data is filled up -/
def fill1 (x : Wr1) : Wr1 := if x.2.length < 60 then (x.1, fillS x.2) else x
def fillW (ws : List Wr1) (m : Nat) : List Wr1 := (ws.take m).map fill1 ++ ws.drop m
theorem fillW_len (ws : List Wr1) (m : Nat) : (fillW ws m).length = ws.length := by simp [fillW]; omega
theorem fillW_zero (ws : List Wr1) : fillW ws 0 = ws := by simp [fillW]
theorem fillW_take (ws : List Wr1) {m : Nat} (h : m ≤ ws.length) : (fillW ws m).take m = (ws.take m).map fill1 := by
  unfold fillW
  rw [List.take_append_of_le_length (by simp; omega), List.take_of_length_le (by simp; omega)]
theorem fillW_at (ws : List Wr1) {m : Nat} (h : m < ws.length) : (fillW ws m)[m]? = some ws[m] := by
  unfold fillW
  rw [List.getElem?_append_right (by simp; omega)]
  simp [List.length_map, List.length_take, Nat.min_eq_left (Nat.le_of_lt h), h]
theorem fillW_succ (ws : List Wr1) {m : Nat} (h : m < ws.length) : (fillW ws m).set m (fill1 ws[m]) = fillW ws (m + 1) := by
  unfold fillW
  have e : ws.drop m = ws[m] :: ws.drop (m + 1) := List.drop_eq_getElem_cons h
  rw [List.take_succ_eq_append_getElem h, e, List.map_append, List.append_assoc, List.set_append_right _ _ (by simp [Nat.min_eq_left (Nat.le_of_lt h)])]
  rw [show m - ((ws.take m).map fill1).length = 0 by simp; omega, List.set_cons_zero]
  rfl
theorem fillW_at1 (ws : List Wr1) {m : Nat} (h : m < ws.length) : (fillW ws (m + 1))[m]? = some (fill1 ws[m]) := by
  rw [← fillW_succ ws h, List.getElem?_set_self (by rw [fillW_len]; exact h)]
theorem fillW_take1 (ws : List Wr1) {m : Nat} (h : m < ws.length) : (fillW ws (m + 1)).take (m + 1) = (fillW ws m).take m ++ [fill1 ws[m]] := by
  rw [fillW_take ws h, fillW_take ws (Nat.le_of_lt h), List.take_succ_eq_append_getElem h, List.map_append]; rfl
theorem fillW_take2 (ws : List Wr1) {m : Nat} (h : m < ws.length) : (fillW ws (m + 1)).take m = (fillW ws m).take m := by
  have := fillW_take1 ws h
  have e : (fillW ws (m + 1)).take m = ((fillW ws (m + 1)).take (m + 1)).take m := by rw [List.take_take]; simp
  rw [e, this, List.take_append_of_le_length (by rw [List.length_take, fillW_len]; omega), List.take_take]; simp
theorem fill1_fst (x : Wr1) : (fill1 x).1 = x.1 := by unfold fill1; split <;> rfl
theorem nextT_nil : nextT [] = [] := List.eq_nil_of_length_eq_zero (Nat.le_zero.1 (nextT_len _))
theorem nextT_snoc (zs : List Int) (x : Int) : putU (nextT zs) x = nextT (zs ++ [x]) :=
  up_ext (putU_up (nextT_up zs).1) (nextT_up _).1 fun y => by
    rw [putU_mem, (nextT_up zs).2, (nextT_up _).2, List.mem_append, List.mem_singleton]; exact or_comm
theorem lastE_none {n : Int} {ws : List Wr1} (h : ∀ y ∈ ws, badW n y = 0) : lastE n ws = if 110 < (nextT (keysW ws)).length then 21 else 0 := by
  have e : ws.find? (fun x => decide (badW n x ≠ 0)) = none := by
    rw [List.find?_eq_none]
    intro x hx
    simp [h x hx]
  unfold lastE
  rw [e]

theorem Own.setAt {w : World} {t : TypeId} {l : Sl} {xs : List Value} (h : Own w t 2 l xs) {k : Nat} (hk : k < xs.length) (x : Value) {a : Addr} (ha : l.a = some a) :
    Wr w (a.add k) ∧ Own (w.setCell (a.add k) x) t 2 l (xs.set k x) ∧ Fr l.bk w (w.setCell (a.add k) x) := by
  have hlen := h.len
  obtain ⟨g, cur, ha', hg, hc, ht, hlc, hm⟩ := Own.row h (by omega)
  rw [ha] at ha'
  injection ha' with ha'
  subst ha'
  have h2 := blk_set hg k x
  refine ⟨blk_wr hg (by omega), ?_, (fr_set w g k _).mono (fun i _ hi => ⟨blk g, ha, Eq.symm hi⟩)⟩
  have h3 := Own.of (n := l.len) (cap := l.cap) h2 (by rw [List.length_set, hc]) hlc hm
  have e : (cur.set k x).take (l.len * 2) = xs.set k x := by
    rw [List.take_set, ht]
  rw [e] at h3
  have : l = ⟨some (blk g), l.len, l.cap⟩ := by cases l; simp only at ha; subst ha; rfl
  rw [this]; exact h3

section
variable {w w' : World} {X : List As} {u g : Nat} {d : Ds} {s : WlS}
/-- one text of a row of writes -/
theorem St.setW {t : TypeId} {l : Sl} {xs : List Wr1} (h : St w (Row EW t l xs :: X)) {k : Nat} {x : Wr1} (hx : xs[k]? = some x) (b : Bs) {a : Addr} (ha : l.a = some a) :
    Wr w ((a.add (k * 2)).add 1) ∧ St (w.setCell ((a.add (k * 2)).add 1) (.string (tx b))) (Row EW t l (xs.set k (x.1, b)) :: X) := by
  obtain ⟨S, ⟨hO, e⟩, hlt, hX⟩ := h.out
  subst e
  have hl := EW.all_len xs
  have hk : k < xs.length := (List.getElem?_eq_some_iff.1 hx).1
  rw [show EW.n = 2 from rfl] at hO hl
  have e1 : (a.add (k * 2)).add 1 = a.add (k * 2 + 1) := add_add _ _ _
  rw [e1]
  obtain ⟨q1, q2, q3⟩ := Own.setAt hO (k := k * 2 + 1) (by rw [hl]; omega) (.string (tx b)) ha
  refine ⟨q1, hX ⟨?_, rfl⟩ q3 (fun j hj => .inl hj)⟩
  have e2 : ∀ (xs : List Wr1) (k : Nat) (x : Wr1), xs[k]? = some x → (EW.all xs).set (k * 2 + 1) (.string (tx b)) = EW.all (xs.set k (x.1, b)) := by
    intro xs
    induction xs with
    | nil => intro k x hx; simp at hx
    | cons y r ih =>
      intro k x hx
      have e1 : EW.all (y :: r) = .int .i64 y.1 :: .string (tx y.2) :: EW.all r := by simp [Enc.all, EW]
      rcases k with _ | k
      · simp only [List.getElem?_cons_zero, Option.some.injEq] at hx
        subst hx
        rw [e1]
        simp [Enc.all, EW]
      · have := ih k x (by simpa using hx)
        rw [e1, show (k + 1) * 2 + 1 = (k * 2 + 1) + 1 + 1 by omega, List.set_cons_succ, List.set_cons_succ, this]
        simp [Enc.all, EW]
  rw [show EW.n = 2 from rfl, ← e2 xs k x hx]; exact q2

theorem Zeros_st (h : St w X) {R : ByteArray → World → Prop} (hR : ∀ w', St w' X → R (tx zeroS) w') : F.masonryref1_Zeros 256 w R := by
  apply E.masonryref1_Zeros
  unfold V.masonryref1_Zeros
  exact zeros256 h hR
theorem Open_quiet {q : Int} (h : St w (DskS g d :: X)) (hq : Quiet d q) {R : Option Addr → Int → World → Prop}
    (hR : ∀ u w', St w' (WalS u g ⟨q, false, 0⟩ :: DskS g d :: X) → R (some (blk u)) 0 w') : F.wal_Open (some (blk g)) w R := by
  have hlo := hq.lo
  have hl := hq.hlen
  refine OpenW_st h hq.off hlo (by omega) (fun _ => by rw [hq.head]) (fun w1 hne => absurd (by rw [hq.head]) hne) fun u w1 he h1 => hR u w1 ?_
  rw [hq.head] at h1; exact h1
end
end Go.Proofs.YtepclihkniaieaaGreatDoor
