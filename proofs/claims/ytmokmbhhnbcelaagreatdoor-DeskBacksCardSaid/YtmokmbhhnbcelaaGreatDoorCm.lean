/- chain: a link, as bytes and back; in plain words. -/
import Derived.Test.YtmokmbhhnbcelaaGreatDoorSq
set_option linter.unusedVariables false
namespace Go.Proofs.YtmokmbhhnbcelaaGreatDoor
open Go Go.Vc Go.RowKit Go.Lib

structure Lk where
  gen : Int
  tag : Int
  number : Int
  refs : Int
  next : Int
  data : Bs

def linkBytes (x : Lk) : Bs := [2, x.gen, x.tag, x.number].flatMap (leBytes 1) ++ [x.refs, x.next].flatMap (leBytes 2) ++ (leBytes 2 (x.data.length : Int) ++ x.data)
def layLk (x : Lk) : Bs := sealS 256 (linkBytes x)
structure LkOk (x : Lk) : Prop where
  gen : 1 ≤ x.gen ∧ x.gen ≤ 3
  tag : 0 ≤ x.tag ∧ x.tag ≤ 200
  number : 0 ≤ x.number ∧ x.number < 256
  refs : 0 ≤ x.refs ∧ x.refs < 65536
  next : 0 ≤ x.next ∧ x.next < 65536
  data : x.data.length ≤ 236

theorem linkBytes_len (x : Lk) : (linkBytes x).length = 10 + x.data.length := by simp [linkBytes, leBytes_len]; omega
theorem layLk_len {x : Lk} (h : LkOk x) : (layLk x).length = 256 := sealS_len (by decide) (by rw [linkBytes_len]; have := h.data; omega)

theorem lowIn_layI {k : Nat} {v : Int} (h0 : 0 ≤ v) (hv : v < 256 ^ k) (hk : k ≤ 7) (rest : Bs) : lowIn k (leBytes k v ++ rest) 0 = (v, rest, 0) := by
  obtain ⟨n, rfl⟩ : ∃ n : Nat, v = n := ⟨v.toNat, by omega⟩
  have h1 : n < 256 ^ k := by
    have : ((256 ^ k : Nat) : Int) = 256 ^ k := by simp
    omega
  have h2 : 256 ^ k ≤ 256 ^ 7 := Nat.pow_le_pow_right (by decide) hk
  have h3 : (256 : Nat) ^ 7 = 72057594037927936 := by decide
  exact lowIn_lay h1 (by omega) rest

theorem rawIn_app (a b : Bs) : rawIn (a.length : Int) (a ++ b) 0 = (a, b, 0) := by
  unfold rawIn
  rw [if_neg (by simp), if_neg (by omega), if_neg (by rw [List.length_append]; omega)]
  simp

theorem textIn_lay {d : Bs} (h : d.length < 65536) (rest : Bs) : textIn (leBytes 2 (d.length : Int) ++ (d ++ rest)) 0 = (d, rest, 0) := by
  unfold textIn
  rw [lowIn_layI (by omega) (by have : (256 : Int) ^ 2 = 65536 := by decide
                                omega) (by decide)]
  exact rawIn_app d rest

def parseLk (s : Bs) : Lk :=
  let a0 := lowIn 1 s 0
  let a1 := lowIn 1 a0.2.1 a0.2.2
  let a2 := lowIn 1 a1.2.1 a1.2.2
  let a3 := lowIn 1 a2.2.1 a2.2.2
  let a4 := lowIn 2 a3.2.1 a3.2.2
  let a5 := lowIn 2 a4.2.1 a4.2.2
  ⟨a1.1, a2.1, a3.1, a4.1, a5.1, (textIn a5.2.1 a5.2.2).1⟩

theorem parseLk_lay {x : Lk} (h : LkOk x) (pad : Bs) : parseLk (linkBytes x ++ pad) = x := by
  have e1 : (256 : Int) ^ 1 = 256 := by decide
  have e2 : (256 : Int) ^ 2 = 65536 := by decide
  have h1 := h.gen
  have h2 := h.tag
  have h3 := h.number
  have h4 := h.refs
  have h5 := h.next
  have h6 := h.data
  have e : linkBytes x ++ pad = leBytes 1 2 ++ (leBytes 1 x.gen ++ (leBytes 1 x.tag ++ (leBytes 1 x.number ++ (leBytes 2 x.refs ++ (leBytes 2 x.next ++ (leBytes 2 (x.data.length : Int) ++ (x.data ++ pad))))))) := by
    simp [linkBytes]
  rw [e]
  unfold parseLk
  rw [lowIn_layI (by omega) (by omega) (by decide)]
  simp only
  rw [lowIn_layI (by omega) (by omega) (by decide)]
  simp only
  rw [lowIn_layI (by omega) (by omega) (by decide)]
  simp only
  rw [lowIn_layI (by omega) (by omega) (by decide)]
  simp only
  rw [lowIn_layI (by omega) (by omega) (by decide)]
  simp only
  rw [lowIn_layI (by omega) (by omega) (by decide)]
  simp only
  rw [textIn_lay (by omega)]

/-- which values pass the first look -/
def lkFit (x : Lk) : Bool := decide (1 ≤ x.gen) && (decide (x.gen ≤ 3) && (decide (x.tag ≤ 200) && decide (x.data.length ≤ 236)))
/-- a link read: what it says, whether it is one -/
def lkZ : Lk := ⟨0, 0, 0, 0, 0, []⟩
def readLk (b : Bs) : Lk × Bool :=
  if (openB b).2 ≠ 0 ∨ b.length ≠ 256 then (lkZ, false) else (parseLk (openB b).1, lkFit (parseLk (openB b).1) && decide (layLk (parseLk (openB b).1) = b))

theorem readLk_lay {x : Lk} (h : LkOk x) : readLk (layLk x) = (x, true) := by
  have hl := layLk_len h
  have ho : openB (layLk x) = (padTo 252 (linkBytes x), 0) := openB_seal (by decide) (by rw [linkBytes_len]; have := h.data; omega)
  have hp : parseLk (padTo 252 (linkBytes x)) = x := parseLk_lay h _
  have hf : lkFit x = true := by
    simp only [lkFit, Bool.and_eq_true, decide_eq_true_eq]
    exact ⟨h.gen.1, h.gen.2, h.tag.2, h.data⟩
  unfold readLk
  rw [ho, if_neg (by simp [hl])]
  simp only [hp, hf, decide_true, Bool.and_true]

end Go.Proofs.YtmokmbhhnbcelaaGreatDoor

/- chain: link.lay, read. -/
set_option linter.unusedVariables false
namespace Go.Proofs.YtmokmbhhnbcelaaGreatDoor
open Go Go.Vc Go.RowKit Go.Lib

section
variable {w : World} {X : List As}
end
end Go.Proofs.YtmokmbhhnbcelaaGreatDoor
