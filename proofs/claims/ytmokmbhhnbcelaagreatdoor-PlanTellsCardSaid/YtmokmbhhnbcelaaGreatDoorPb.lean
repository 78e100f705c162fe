/- plan: which pieces of a range; in plain words. -/
import Derived.Test.YtmokmbhhnbcelaaGreatDoorSq
set_option linter.unusedVariables false
namespace Go.Proofs.YtmokmbhhnbcelaaGreatDoor
open Go Go.Vc Go.RowKit Go.Lib

/-- a piece: where, how long -/
abbrev Pc := Int × Int
def EPc : Enc Pc := ⟨fun p => [.int .i64 p.1, .int .i64 p.2], 2, fun _ => rfl, fun _ u hu => by simp only [List.mem_cons, List.not_mem_nil, or_false] at hu; rcases hu with rfl | rfl <;> rfl⟩

structure CutV where
  at_ : Int
  out : List Pc
  ahead : Int
  behind : Int
def cutF (from_ to_ : Int) (s : CutV) (p : Pc) : CutV :=
  if max s.at_ from_ < min (s.at_ + p.2) to_ then ⟨s.at_ + p.2, s.out ++ [p], if s.out = [] then max (w64 (from_ - s.at_)) 0 else s.ahead, max (w64 (s.at_ + p.2 - to_)) 0⟩ else ⟨s.at_ + p.2, s.out, s.ahead, s.behind⟩
def cutV (from_ to_ : Int) (l : List Pc) : CutV := l.foldl (cutF from_ to_) ⟨0, [], 0, 0⟩
def sumP (l : List Pc) : Int := (l.map (·.2)).sum
def LenOk (l : List Pc) : Prop := ∀ p ∈ l, 1 ≤ p.2 ∧ p.2 ≤ 128

theorem sumP_cons (p : Pc) (l : List Pc) : sumP (p :: l) = p.2 + sumP l := by simp [sumP]
theorem sumP_app (a b : List Pc) : sumP (a ++ b) = sumP a + sumP b := by simp [sumP]
theorem sumP_pos : ∀ {l : List Pc}, LenOk l → (l.length : Int) ≤ sumP l ∧ sumP l ≤ 128 * l.length
  | [], _ => by simp [sumP]
  | p :: l, h => by
    have h1 := h p (List.mem_cons_self ..)
    have h2 := sumP_pos (l := l) fun q hq => h q (List.mem_cons_of_mem _ hq)
    rw [sumP_cons]
    simp only [List.length_cons]
    omega
theorem cut_at (from_ to_ : Int) : ∀ (l : List Pc) (s : CutV), (l.foldl (cutF from_ to_) s).at_ = s.at_ + sumP l
  | [], s => by simp [sumP]
  | p :: l, s => by
    rw [List.foldl_cons, cut_at from_ to_ l, sumP_cons]
    have : (cutF from_ to_ s p).at_ = s.at_ + p.2 := by unfold cutF; split <;> rfl
    rw [this]; omega
theorem LenOk.app {a b : List Pc} (h : LenOk (a ++ b)) : LenOk a ∧ LenOk b := ⟨fun p hp => h p (List.mem_append.2 (.inl hp)), fun p hp => h p (List.mem_append.2 (.inr hp))⟩

end Go.Proofs.YtmokmbhhnbcelaaGreatDoor

/- plan: pieces as bytes, and back; in plain words. -/
set_option linter.unusedVariables false
namespace Go.Proofs.YtmokmbhhnbcelaaGreatDoor
open Go Go.Vc Go.RowKit Go.Lib

theorem lowIn_at {n : Nat} (hn : n ≤ 7) {s : Bs} (h : n ≤ s.length) : lowIn n s 0 = ((leVal (s.take n) : Int), s.drop n, 0) := by
  have hr : rawIn n s 0 = (s.take n, s.drop n, 0) := by
    unfold rawIn
    rw [if_neg (by simp), if_neg (by omega), if_neg (by omega), Int.toNat_natCast]
  have hlen : (s.take n).length = n := by rw [List.length_take]; omega
  have hlt := leVal_lt (s.take n)
  have h2 : 256 ^ (s.take n).length ≤ 256 ^ 7 := Nat.pow_le_pow_right (by decide) (by omega)
  have h4 : (256 : Nat) ^ 7 = 72057594037927936 := by decide
  simp only [lowIn, hr]
  rw [if_pos (by omega)]
def pcAt (s : Bs) (j : Nat) : Pc := ((leVal ((s.drop (3 * j)).take 2) : Int), (leVal ((s.drop (3 * j + 2)).take 1) : Int))
def pcs (s : Bs) (m : Nat) : List Pc := (List.range m).map (pcAt s)
theorem pcs_len (s : Bs) (m : Nat) : (pcs s m).length = m := by simp [pcs]
theorem pcs_succ (s : Bs) (m : Nat) : pcs s (m + 1) = pcs s m ++ [pcAt s m] := by simp [pcs, List.range_succ]
theorem half_at {s : Bs} {j : Nat} (h : 3 * j + 3 ≤ s.length) : lowIn 2 (s.drop (3 * j)) 0 = ((pcAt s j).1, s.drop (3 * j + 2), 0) := by
  rw [lowIn_at (by decide) (by rw [List.length_drop]; omega), List.drop_drop]; rfl
theorem byte_at {s : Bs} {j : Nat} (h : 3 * j + 3 ≤ s.length) : lowIn 1 (s.drop (3 * j + 2)) 0 = ((pcAt s j).2, s.drop (3 * (j + 1)), 0) := by
  rw [lowIn_at (by decide) (by rw [List.length_drop]; omega), List.drop_drop]; rfl
def pcOk (p : Pc) : Bool := decide (1 ≤ p.1 ∧ p.1 < 2000 ∧ 1 ≤ p.2 ∧ p.2 ≤ 128)
def mayP (gen : Int) (l : List Pc) : Int := if gen < 1 ∨ 3 < gen then 1 else if l.all pcOk then (if 1200 < sumP l then 2 else 0) else 1

def layP (l : List Pc) : Bs := l.flatMap fun p => leBytes 2 p.1 ++ leBytes 1 p.2
theorem layP_len (l : List Pc) : (layP l).length = 3 * l.length := by
  induction l with
  | nil => rfl
  | cons p r ih => simp only [layP, List.flatMap_cons, List.length_append, leBytes_len, List.length_cons] at ih ⊢; omega
theorem layP_app (a b : List Pc) : layP (a ++ b) = layP a ++ layP b := by simp [layP]
theorem leVal_le {k : Nat} {v : Int} (h0 : 0 ≤ v) (h : v < 256 ^ k) (hk : k ≤ 7) : (leVal (leBytes k v) : Int) = v := by
  have h1 := lowIn_at (n := k) hk (s := leBytes k v) (by rw [leBytes_len]; exact Nat.le_refl _)
  have h2 := lowIn_lay (k := k) (v := v.toNat) (by
    have : ((256 ^ k : Nat) : Int) = 256 ^ k := by simp
    omega) (by
    have h2 : 256 ^ k ≤ 256 ^ 7 := Nat.pow_le_pow_right (by decide) hk
    have h3 : (256 : Nat) ^ 7 = 72057594037927936 := by decide
    have : ((256 ^ k : Nat) : Int) = 256 ^ k := by simp
    omega) []
  rw [List.append_nil, Int.toNat_of_nonneg h0, h1] at h2
  have h3 := congrArg (·.1) h2
  simp only at h3
  rw [List.take_of_length_le (by rw [leBytes_len]; exact Nat.le_refl _)] at h3
  exact h3
theorem pcs_lay : ∀ {l : List Pc}, (∀ p ∈ l, 0 ≤ p.1 ∧ p.1 < 65536 ∧ 0 ≤ p.2 ∧ p.2 < 256) → pcs (layP l) l.length = l
  | [], _ => rfl
  | p :: l, h => by
    have hp := h p (List.mem_cons_self ..)
    have ih := pcs_lay (l := l) fun q hq => h q (List.mem_cons_of_mem _ hq)
    have e : layP (p :: l) = leBytes 2 p.1 ++ (leBytes 1 p.2 ++ layP l) := by simp [layP]
    have l2 := leBytes_len 2 p.1
    have l1 := leBytes_len 1 p.2
    have e1 : (256 : Int) ^ 1 = 256 := by decide
    have e2 : (256 : Int) ^ 2 = 65536 := by decide
    have d3 : (layP (p :: l)).drop 3 = layP l := by
      rw [e, ← List.append_assoc, List.drop_append_of_le_length (by simp; omega), List.drop_of_length_le (by simp; omega)]; rfl
    have d2 : (layP (p :: l)).drop 2 = leBytes 1 p.2 ++ layP l := by
      rw [e, List.drop_append_of_le_length (by omega), List.drop_of_length_le (by omega)]; rfl
    have h0 : pcAt (layP (p :: l)) 0 = p := by
      unfold pcAt
      simp only [Nat.mul_zero, List.drop_zero, Nat.zero_add]
      rw [d2, e, List.take_append_of_le_length (by omega), List.take_of_length_le (by omega), List.take_append_of_le_length (by omega), List.take_of_length_le (by omega),
        leVal_le hp.1 (by omega) (by decide), leVal_le hp.2.2.1 (by omega) (by decide)]
    have hs : ∀ j, pcAt (layP (p :: l)) (j + 1) = pcAt (layP l) j := fun j => by
      unfold pcAt
      rw [show 3 * (j + 1) = 3 + 3 * j by omega, show 3 + 3 * j + 2 = 3 + (3 * j + 2) by omega, ← List.drop_drop, ← List.drop_drop, d3]
    unfold pcs at ih ⊢
    rw [List.length_cons, List.range_succ_eq_map, List.map_cons, List.map_map, h0]
    congr 1
end Go.Proofs.YtmokmbhhnbcelaaGreatDoor
