/- SHA-1 and SHA-256 as words and steps; plain. -/
import Derived.Test.YtmokmbhhnbcelaaGreatDoorSs
set_option linter.unusedVariables false
namespace Go.Proofs.YtmokmbhhnbcelaaGreatDoor
open Go Go.Vc Go.RowKit Go.Lib

/-- a word turned to the left -/
def rot (x k : Int) : Int := bits .or .u32 (shl .u32 x k) (shr .u32 x (32 - k))
abbrev xor32 (a b : Int) : Int := bits .xor .u32 a b
abbrev and32 (a b : Int) : Int := bits .and .u32 a b
abbrev or32 (a b : Int) : Int := bits .or .u32 a b
abbrev not32 (a : Int) : Int := bits .xor .u32 (IntKind.max .u32) a
abbrev add32 (a b : Int) : Int := wr .u32 (a + b)

/-- the number of so many bytes at a place, the highest first -/
def partN (p : Bs) (i : Nat) : Nat → Nat
  | 0 => 0
  | j + 1 => partN p i j * 256 + (p.getD (i + j) 0).toNat
theorem partN_lt (p : Bs) (i : Nat) : ∀ j, partN p i j < 256 ^ j
  | 0 => Nat.zero_lt_one
  | j + 1 => by
    have h := partN_lt p i j
    have h2 := (p.getD (i + j) 0).toNat_lt
    show partN p i j * 256 + _ < 256 ^ j * 256
    omega
theorem shl32 (x k : Nat) (hk : k ≤ 32) (h : x * 2 ^ k < 4294967296) : shl .u32 (x : Int) (k : Int) = ((x * 2 ^ k : Nat) : Int) := by
  unfold shl
  have e : (min (k : Int).toNat (IntKind.bits .u32)) = k := by
    show min (k : Int).toNat 32 = k
    omega
  rw [e]
  have e2 : (x : Int) * (2 : Int) ^ k = ((x * 2 ^ k : Nat) : Int) := by rw [Int.natCast_mul, Int.natCast_pow]; rfl
  rw [e2]
  exact wr32_id h
theorem or_add (x y k : Nat) (hy : y < 2 ^ k) : x * 2 ^ k ||| y = x * 2 ^ k + y := by
  have h := Nat.shiftLeft_add_eq_or_of_lt hy x
  rw [Nat.shiftLeft_eq] at h
  exact h.symm
theorem or_next {x y : Nat} (hx : x < 16777216) (hy : y < 256) : bits .or .u32 (shl .u32 (x : Int) 8) (wr .u32 (y : Int)) = ((x * 256 + y : Nat) : Int) := by
  rw [wr32_id (by omega)]
  have e := shl32 x 8 (by decide) (by omega)
  have e8 : ((8 : Nat) : Int) = 8 := rfl
  rw [e8] at e
  rw [e, u32_or_nat _ _ (by omega) (by omega), or_add x y 8 (by omega)]
theorem or_four {a b c d : Nat} (ha : a < 256) (hb : b < 256) (hc : c < 256) (hd : d < 256) :
    bits .or .u32 (bits .or .u32 (bits .or .u32 (shl .u32 (wr .u32 (a : Int)) 24) (shl .u32 (wr .u32 (b : Int)) 16)) (shl .u32 (wr .u32 (c : Int)) 8)) (wr .u32 (d : Int)) = ((((a * 256 + b) * 256 + c) * 256 + d : Nat) : Int) := by
  rw [wr32_id (x := a) (by omega), wr32_id (x := b) (by omega), wr32_id (x := c) (by omega), wr32_id (x := d) (by omega)]
  have e1 := shl32 a 24 (by decide) (by omega)
  have e2 := shl32 b 16 (by decide) (by omega)
  have e3 := shl32 c 8 (by decide) (by omega)
  rw [show ((24 : Nat) : Int) = 24 from rfl] at e1
  rw [show ((16 : Nat) : Int) = 16 from rfl] at e2
  rw [show ((8 : Nat) : Int) = 8 from rfl] at e3
  rw [e1, e2, e3, u32_or_nat _ _ (by omega) (by omega), or_add a (b * 2 ^ 16) 24 (by omega), u32_or_nat _ _ (by omega) (by omega)]
  rw [show a * 2 ^ 24 + b * 2 ^ 16 = (a * 256 + b) * 2 ^ 16 by omega, or_add (a * 256 + b) (c * 2 ^ 8) 16 (by omega), u32_or_nat _ _ (by omega) (by omega)]
  rw [show (a * 256 + b) * 2 ^ 16 + c * 2 ^ 8 = ((a * 256 + b) * 256 + c) * 2 ^ 8 by omega, or_add ((a * 256 + b) * 256 + c) d 8 (by omega)]

/-- the words of 64 bytes at a place: of SHA-1 -/
def W1 (p : Bs) (o t : Nat) : Int :=
  if h : t < 16 then ((partN p (o + 4 * t) 4 : Nat) : Int)
  else rot (xor32 (xor32 (xor32 (W1 p o (t - 3)) (W1 p o (t - 8))) (W1 p o (t - 14))) (W1 p o (t - 16))) 1
termination_by t
theorem W1_lo {p : Bs} {o t : Nat} (h : t < 16) : W1 p o t = ((partN p (o + 4 * t) 4 : Nat) : Int) := by rw [W1, dif_pos h]
theorem W1_hi {p : Bs} {o t : Nat} (h : 16 ≤ t) : W1 p o t = rot (xor32 (xor32 (xor32 (W1 p o (t - 3)) (W1 p o (t - 8))) (W1 p o (t - 14))) (W1 p o (t - 16))) 1 := by rw [W1, dif_neg (by omega)]
/-- of SHA-256 -/
def W2 (p : Bs) (o t : Nat) : Int :=
  if h : t < 16 then ((partN p (o + 4 * t) 4 : Nat) : Int)
  else add32 (add32 (add32 (W2 p o (t - 16)) (W2 p o (t - 7))) (xor32 (xor32 (rot (W2 p o (t - 15)) 25) (rot (W2 p o (t - 15)) 14)) (shr .u32 (W2 p o (t - 15)) 3))) (xor32 (xor32 (rot (W2 p o (t - 2)) 15) (rot (W2 p o (t - 2)) 13)) (shr .u32 (W2 p o (t - 2)) 10))
termination_by t
theorem W2_lo {p : Bs} {o t : Nat} (h : t < 16) : W2 p o t = ((partN p (o + 4 * t) 4 : Nat) : Int) := by rw [W2, dif_pos h]
theorem W2_hi {p : Bs} {o t : Nat} (h : 16 ≤ t) : W2 p o t = add32 (add32 (add32 (W2 p o (t - 16)) (W2 p o (t - 7))) (xor32 (xor32 (rot (W2 p o (t - 15)) 25) (rot (W2 p o (t - 15)) 14)) (shr .u32 (W2 p o (t - 15)) 3))) (xor32 (xor32 (rot (W2 p o (t - 2)) 15) (rot (W2 p o (t - 2)) 13)) (shr .u32 (W2 p o (t - 2)) 10)) := by rw [W2, dif_neg (by omega)]
theorem part_cut (p : Bs) (o i : Nat) : ∀ j, i + j ≤ 64 → partN ((p.drop o).take 64) i j = partN p (o + i) j
  | 0, _ => rfl
  | j + 1, h => by
    show partN _ i j * 256 + _ = partN _ _ j * 256 + _
    rw [part_cut p o i j (by omega)]
    have : ((p.drop o).take 64).getD (i + j) 0 = p.getD (o + i + j) 0 := by
      simp only [List.getD_eq_getElem?_getD, List.getElem?_take, List.getElem?_drop]
      rw [if_pos (by omega), Nat.add_assoc]
    rw [this]
theorem W1_cut (p : Bs) (o : Nat) (t : Nat) : W1 ((p.drop o).take 64) 0 t = W1 p o t := by
  induction t using Nat.strongRecOn with
  | ind t ih =>
    by_cases h : t < 16
    · rw [W1_lo h, W1_lo h, Nat.zero_add, part_cut p o _ 4 (by omega)]
    · rw [W1_hi (by omega), W1_hi (p := p) (by omega), ih (t - 3) (by omega), ih (t - 8) (by omega), ih (t - 14) (by omega), ih (t - 16) (by omega)]
theorem W2_cut (p : Bs) (o : Nat) (t : Nat) : W2 ((p.drop o).take 64) 0 t = W2 p o t := by
  induction t using Nat.strongRecOn with
  | ind t ih =>
    by_cases h : t < 16
    · rw [W2_lo h, W2_lo h, Nat.zero_add, part_cut p o _ 4 (by omega)]
    · rw [W2_hi (by omega), W2_hi (p := p) (by omega), ih (t - 16) (by omega), ih (t - 7) (by omega), ih (t - 15) (by omega), ih (t - 2) (by omega)]

structure S5 where
  a : Int
  b : Int
  c : Int
  d : Int
  e : Int
structure S8 where
  a : Int
  b : Int
  c : Int
  d : Int
  e : Int
  f : Int
  g : Int
  h : Int
def f1 (t : Nat) (b c d : Int) : Int := if t < 20 then or32 (and32 b c) (and32 (not32 b) d) else if t < 40 then xor32 (xor32 b c) d else if t < 60 then or32 (or32 (and32 b c) (and32 b d)) (and32 c d) else xor32 (xor32 b c) d
def kw1 (t : Nat) : Int := if t < 20 then 1518500249 else if t < 40 then 1859775393 else if t < 60 then 2400959708 else 3395469782
def step1 (W : Nat → Int) (t : Nat) (s : S5) : S5 := ⟨add32 (add32 (add32 (add32 (rot s.a 5) (f1 t s.b s.c s.d)) s.e) (kw1 t)) (W t), s.a, rot s.b 30, s.c, s.d⟩
def steps1 (W : Nat → Int) (s : S5) : Nat → S5
  | 0 => s
  | t + 1 => step1 W t (steps1 W s t)
def mix1 (W : Nat → Int) (s : S5) : S5 := ⟨add32 s.a (steps1 W s 80).a, add32 s.b (steps1 W s 80).b, add32 s.c (steps1 W s 80).c, add32 s.d (steps1 W s 80).d, add32 s.e (steps1 W s 80).e⟩
def init1 : S5 := ⟨1732584193, 4023233417, 2562383102, 271733878, 3285377520⟩
def run1 (p : Bs) : Nat → S5
  | 0 => init1
  | n + 1 => mix1 (W1 p (64 * n)) (run1 p n)

def keys2 : List Int := [0x428a2f98, 0x71374491, 0xb5c0fbcf, 0xe9b5dba5, 0x3956c25b, 0x59f111f1, 0x923f82a4, 0xab1c5ed5,
  0xd807aa98, 0x12835b01, 0x243185be, 0x550c7dc3, 0x72be5d74, 0x80deb1fe, 0x9bdc06a7, 0xc19bf174,
  0xe49b69c1, 0xefbe4786, 0x0fc19dc6, 0x240ca1cc, 0x2de92c6f, 0x4a7484aa, 0x5cb0a9dc, 0x76f988da,
  0x983e5152, 0xa831c66d, 0xb00327c8, 0xbf597fc7, 0xc6e00bf3, 0xd5a79147, 0x06ca6351, 0x14292967,
  0x27b70a85, 0x2e1b2138, 0x4d2c6dfc, 0x53380d13, 0x650a7354, 0x766a0abb, 0x81c2c92e, 0x92722c85,
  0xa2bfe8a1, 0xa81a664b, 0xc24b8b70, 0xc76c51a3, 0xd192e819, 0xd6990624, 0xf40e3585, 0x106aa070,
  0x19a4c116, 0x1e376c08, 0x2748774c, 0x34b0bcb5, 0x391c0cb3, 0x4ed8aa4a, 0x5b9cca4f, 0x682e6ff3,
  0x748f82ee, 0x78a5636f, 0x84c87814, 0x8cc70208, 0x90befffa, 0xa4506ceb, 0xbef9a3f7, 0xc67178f2]
def kw2 (t : Nat) : Int := keys2.getD t 0
def sum2x (W : Nat → Int) (t : Nat) (s : S8) : Int := add32 (add32 (add32 (add32 s.h (xor32 (xor32 (rot s.e 26) (rot s.e 21)) (rot s.e 7))) (xor32 (and32 s.e s.f) (and32 (not32 s.e) s.g))) (kw2 t)) (W t)
def sum2y (s : S8) : Int := add32 (xor32 (xor32 (rot s.a 30) (rot s.a 19)) (rot s.a 10)) (xor32 (xor32 (and32 s.a s.b) (and32 s.a s.c)) (and32 s.b s.c))
def step2 (W : Nat → Int) (t : Nat) (s : S8) : S8 := ⟨add32 (sum2x W t s) (sum2y s), s.a, s.b, s.c, add32 s.d (sum2x W t s), s.e, s.f, s.g⟩
def steps2 (W : Nat → Int) (s : S8) : Nat → S8
  | 0 => s
  | t + 1 => step2 W t (steps2 W s t)
def mix2 (W : Nat → Int) (s : S8) : S8 := ⟨add32 s.a (steps2 W s 64).a, add32 s.b (steps2 W s 64).b, add32 s.c (steps2 W s 64).c, add32 s.d (steps2 W s 64).d, add32 s.e (steps2 W s 64).e, add32 s.f (steps2 W s 64).f, add32 s.g (steps2 W s 64).g, add32 s.h (steps2 W s 64).h⟩
def init2 : S8 := ⟨0x6a09e667, 0xbb67ae85, 0x3c6ef372, 0xa54ff53a, 0x510e527f, 0x9b05688c, 0x1f83d9ab, 0x5be0cd19⟩
def run2 (p : Bs) : Nat → S8
  | 0 => init2
  | n + 1 => mix2 (W2 p (64 * n)) (run2 p n)

/-! ### Bytes -/
def byteO (x : Int) : UInt8 := UInt8.ofNat (wr .u8 x).toNat
theorem wr8_r (x : Int) : 0 ≤ wr .u8 x ∧ wr .u8 x < 256 := by
  have e : wr .u8 x = x % 256 := by simp [wr, IntKind.wrap, IntKind.bits, IntKind.signed]
  rw [e]; omega
theorem wr32_r (x : Int) : 0 ≤ wr .u32 x ∧ wr .u32 x < 4294967296 := by
  have e : wr .u32 x = x % 4294967296 := by simp [wr, IntKind.wrap, IntKind.bits, IntKind.signed]
  rw [e]; omega
theorem byteO_val (x : Int) : ((byteO x).toNat : Int) = wr .u8 x := by
  have h := wr8_r x
  unfold byteO
  rw [UInt8.toNat_ofNat', Nat.mod_eq_of_lt (by omega)]
  omega
def highB (v : Int) (n : Nat) : Bs := (List.range n).map fun i => byteO (shr .u64 v ((8 * (n - 1 - i) : Nat) : Int))
theorem highB_len (v : Int) (n : Nat) : (highB v n).length = n := by simp [highB]
def padB (n : Nat) : Bs := [128] ++ List.replicate ((119 - n % 64) % 64) 0 ++ highB ((8 * n : Nat) : Int) 8
theorem padB_len (n : Nat) : (padB n).length = 9 + (119 - n % 64) % 64 := by simp [padB, highB_len]; omega
theorem pad_64 (s : Bs) : (s ++ padB s.length).length % 64 = 0 := by
  rw [List.length_append, padB_len]; omega
/-- how many blocks -/
def blocks (s : Bs) : Nat := (s ++ padB s.length).length / 64
def four (v : Int) : Bs := highB (wr .u64 v) 4
def out5 (s : S5) : Bs := four s.a ++ four s.b ++ four s.c ++ four s.d ++ four s.e
def out8 (s : S8) : Bs := four s.a ++ four s.b ++ four s.c ++ four s.d ++ four s.e ++ four s.f ++ four s.g ++ four s.h
def sha1 (s : Bs) : Bs := out5 (run1 (s ++ padB s.length) (blocks s))
def sha2 (s : Bs) : Bs := out8 (run2 (s ++ padB s.length) (blocks s))
theorem sha1_len (s : Bs) : (sha1 s).length = 20 := by simp [sha1, out5, four, highB_len]
theorem sha2_len (s : Bs) : (sha2 s).length = 32 := by simp [sha2, out8, four, highB_len]

/-! ### Columns of words -/
def col (n : Nat) (f : Nat → Int) : List Value := (List.range n).map fun i => .int .u32 (f i)
theorem col_len (n : Nat) (f : Nat → Int) : (col n f).length = n := by simp [col]
theorem col_get {n : Nat} (f : Nat → Int) {j : Nat} (h : j < n) : (col n f)[j]? = some (.int .u32 (f j)) := by simp [col, h]
theorem col_set {n : Nat} (f : Nat → Int) (j : Nat) (v : Int) : (col n f).set j (.int .u32 v) = col n fun i => if i = j then v else f i := by
  apply List.ext_getElem
  · simp [col]
  · intro i h1 h2
    rw [List.getElem_set]
    simp only [col, List.getElem_map, List.getElem_range]
    by_cases h : j = i
    · subst h; simp
    · rw [if_neg h, if_neg (fun e => h e.symm)]
theorem col_ext {n : Nat} {f g : Nat → Int} (h : ∀ i, i < n → f i = g i) : col n f = col n g := by
  unfold col
  exact List.map_congr_left fun i hi => by rw [h i (List.mem_range.1 hi)]
/-- those that are filled in up to a place -/
def filled (f : Nat → Int) (j : Nat) : Nat → Int := fun i => if i < j then f i else 0
theorem col_next {n : Nat} (f : Nat → Int) (j : Nat) : (col n (filled f j)).set j (.int .u32 (f j)) = col n (filled f (j + 1)) := by
  rw [col_set]
  refine col_ext fun i _ => ?_
  unfold filled
  by_cases h : i = j
  · subst h; simp
  · rw [if_neg h]
    by_cases h2 : i < j
    · rw [if_pos h2, if_pos (by omega)]
    · rw [if_neg h2, if_neg (by omega)]
end Go.Proofs.YtmokmbhhnbcelaaGreatDoor
