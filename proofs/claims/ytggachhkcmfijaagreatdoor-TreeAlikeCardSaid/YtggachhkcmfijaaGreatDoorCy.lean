/- SHA-1 and SHA-256 as words and steps; plain. -/
import Derived.Test.YtggachhkcmfijaaGreatDoorCx
import Derived.Test.YtggachhkcmfijaaGreatDoorSq
import Derived.Test.YtggachhkcmfijaaGreatDoorOw
set_option linter.unusedVariables false
namespace Go.Proofs.YtggachhkcmfijaaGreatDoor
open Go Go.Vc Go.RowKit Go.Lib
/-- a word turned to the left -/
def rot (x k : Int) : Int := bits .or .u32 (shl .u32 x k) (shr .u32 x (32 - k))
abbrev xor32 (a b : Int) : Int := bits .xor .u32 a b
abbrev and32 (a b : Int) : Int := bits .and .u32 a b
abbrev or32 (a b : Int) : Int := bits .or .u32 a b
abbrev not32 (a : Int) : Int := bits .xor .u32 (IntKind.max .u32) a
abbrev add32 (a b : Int) : Int := wr .u32 (a + b)
/-- the number of so many bytes at a place, the highest first -/
def partN (p : Bs) (i : Nat) : Nat → Nat
 | 0 => 0
 | j + 1 => partN p i j * 256 + (p.getD (i + j) 0).toNat
theorem shl32 (x k : Nat) (hk : k ≤ 32) (h : x * 2 ^ k < 4294967296) : shl .u32 (x : Int) (k : Int) = ((x * 2 ^ k : Nat) : Int) := by
 unfold shl
 have e : (min (k : Int).toNat (IntKind.bits .u32)) = k := by
   show min (k : Int).toNat 32 = k
   omega
 rw [e]
 have e2 : (x : Int) * (2 : Int) ^ k = ((x * 2 ^ k : Nat) : Int) := by rw [Int.natCast_mul, Int.natCast_pow]; rfl
 rw [e2]
 exact wr32_id h
theorem or_add (x y k : Nat) (hy : y < 2 ^ k) : x * 2 ^ k ||| y = x * 2 ^ k + y := by
 have h := Nat.shiftLeft_add_eq_or_of_lt hy x
 rw [Nat.shiftLeft_eq] at h
 exact h.symm
theorem or_four {a b c d : Nat} (ha : a < 256) (hb : b < 256) (hc : c < 256) (hd : d < 256) :
   bits .or .u32 (bits .or .u32 (bits .or .u32 (shl .u32 (wr .u32 (a : Int)) 24) (shl .u32 (wr .u32 (b : Int)) 16)) (shl .u32 (wr .u32 (c : Int)) 8)) (wr .u32 (d : Int)) = ((((a * 256 + b) * 256 + c) * 256 + d : Nat) : Int) := by
 rw [wr32_id (x := a) (by omega), wr32_id (x := b) (by omega), wr32_id (x := c) (by omega), wr32_id (x := d) (by omega)]
 have e1 := shl32 a 24 (by decide) (by omega)
 have e2 := shl32 b 16 (by decide) (by omega)
 have e3 := shl32 c 8 (by decide) (by omega)
 rw [show ((24 : Nat) : Int) = 24 from rfl] at e1
 rw [show ((16 : Nat) : Int) = 16 from rfl] at e2
 rw [show ((8 : Nat) : Int) = 8 from rfl] at e3
 rw [e1, e2, e3, u32_or_nat _ _ (by omega) (by omega), or_add a (b * 2 ^ 16) 24 (by omega), u32_or_nat _ _ (by omega) (by omega)]
 rw [show a * 2 ^ 24 + b * 2 ^ 16 = (a * 256 + b) * 2 ^ 16 by omega, or_add (a * 256 + b) (c * 2 ^ 8) 16 (by omega), u32_or_nat _ _ (by omega) (by omega)]
 rw [show (a * 256 + b) * 2 ^ 16 + c * 2 ^ 8 = ((a * 256 + b) * 256 + c) * 2 ^ 8 by omega, or_add ((a * 256 + b) * 256 + c) d 8 (by omega)]
/-- the words of 64 bytes at a place: of SHA-1 -/
def W1 (p : Bs) (o t : Nat) : Int :=
 if h : t < 16 then ((partN p (o + 4 * t) 4 : Nat) : Int)
 else rot (xor32 (xor32 (xor32 (W1 p o (t - 3)) (W1 p o (t - 8))) (W1 p o (t - 14))) (W1 p o (t - 16))) 1
termination_by t
theorem W1_lo {p : Bs} {o t : Nat} (h : t < 16) : W1 p o t = ((partN p (o + 4 * t) 4 : Nat) : Int) := by rw [W1, dif_pos h]
theorem W1_hi {p : Bs} {o t : Nat} (h : 16 ≤ t) : W1 p o t = rot (xor32 (xor32 (xor32 (W1 p o (t - 3)) (W1 p o (t - 8))) (W1 p o (t - 14))) (W1 p o (t - 16))) 1 := by rw [W1, dif_neg (by omega)]
/-- of SHA-256 -/
def W2 (p : Bs) (o t : Nat) : Int :=
 if h : t < 16 then ((partN p (o + 4 * t) 4 : Nat) : Int)
 else add32 (add32 (add32 (W2 p o (t - 16)) (W2 p o (t - 7))) (xor32 (xor32 (rot (W2 p o (t - 15)) 25) (rot (W2 p o (t - 15)) 14)) (shr .u32 (W2 p o (t - 15)) 3))) (xor32 (xor32 (rot (W2 p o (t - 2)) 15) (rot (W2 p o (t - 2)) 13)) (shr .u32 (W2 p o (t - 2)) 10))
termination_by t
theorem W2_lo {p : Bs} {o t : Nat} (h : t < 16) : W2 p o t = ((partN p (o + 4 * t) 4 : Nat) : Int) := by rw [W2, dif_pos h]
theorem W2_hi {p : Bs} {o t : Nat} (h : 16 ≤ t) : W2 p o t = add32 (add32 (add32 (W2 p o (t - 16)) (W2 p o (t - 7))) (xor32 (xor32 (rot (W2 p o (t - 15)) 25) (rot (W2 p o (t - 15)) 14)) (shr .u32 (W2 p o (t - 15)) 3))) (xor32 (xor32 (rot (W2 p o (t - 2)) 15) (rot (W2 p o (t - 2)) 13)) (shr .u32 (W2 p o (t - 2)) 10)) := by rw [W2, dif_neg (by omega)]
structure S5 where
 a : Int
 b : Int
 c : Int
 d : Int
 e : Int
structure S8 where
 a : Int
 b : Int
 c : Int
 d : Int
 e : Int
 f : Int
 g : Int
 h : Int
def f1 (t : Nat) (b c d : Int) : Int := if t < 20 then or32 (and32 b c) (and32 (not32 b) d) else if t < 40 then xor32 (xor32 b c) d else if t < 60 then or32 (or32 (and32 b c) (and32 b d)) (and32 c d) else xor32 (xor32 b c) d
def kw1 (t : Nat) : Int := if t < 20 then 1518500249 else if t < 40 then 1859775393 else if t < 60 then 2400959708 else 3395469782
def step1 (W : Nat → Int) (t : Nat) (s : S5) : S5 := ⟨add32 (add32 (add32 (add32 (rot s.a 5) (f1 t s.b s.c s.d)) s.e) (kw1 t)) (W t), s.a, rot s.b 30, s.c, s.d⟩
def steps1 (W : Nat → Int) (s : S5) : Nat → S5
 | 0 => s
 | t + 1 => step1 W t (steps1 W s t)
def mix1 (W : Nat → Int) (s : S5) : S5 := ⟨add32 s.a (steps1 W s 80).a, add32 s.b (steps1 W s 80).b, add32 s.c (steps1 W s 80).c, add32 s.d (steps1 W s 80).d, add32 s.e (steps1 W s 80).e⟩
def init1 : S5 := ⟨1732584193, 4023233417, 2562383102, 271733878, 3285377520⟩
def run1 (p : Bs) : Nat → S5
 | 0 => init1
 | n + 1 => mix1 (W1 p (64 * n)) (run1 p n)
def keys2 : List Int := [0x428a2f98, 0x71374491, 0xb5c0fbcf, 0xe9b5dba5, 0x3956c25b, 0x59f111f1, 0x923f82a4, 0xab1c5ed5,
 0xd807aa98, 0x12835b01, 0x243185be, 0x550c7dc3, 0x72be5d74, 0x80deb1fe, 0x9bdc06a7, 0xc19bf174,
 0xe49b69c1, 0xefbe4786, 0x0fc19dc6, 0x240ca1cc, 0x2de92c6f, 0x4a7484aa, 0x5cb0a9dc, 0x76f988da,
 0x983e5152, 0xa831c66d, 0xb00327c8, 0xbf597fc7, 0xc6e00bf3, 0xd5a79147, 0x06ca6351, 0x14292967,
 0x27b70a85, 0x2e1b2138, 0x4d2c6dfc, 0x53380d13, 0x650a7354, 0x766a0abb, 0x81c2c92e, 0x92722c85,
 0xa2bfe8a1, 0xa81a664b, 0xc24b8b70, 0xc76c51a3, 0xd192e819, 0xd6990624, 0xf40e3585, 0x106aa070,
 0x19a4c116, 0x1e376c08, 0x2748774c, 0x34b0bcb5, 0x391c0cb3, 0x4ed8aa4a, 0x5b9cca4f, 0x682e6ff3,
 0x748f82ee, 0x78a5636f, 0x84c87814, 0x8cc70208, 0x90befffa, 0xa4506ceb, 0xbef9a3f7, 0xc67178f2]
def kw2 (t : Nat) : Int := keys2.getD t 0
def sum2x (W : Nat → Int) (t : Nat) (s : S8) : Int := add32 (add32 (add32 (add32 s.h (xor32 (xor32 (rot s.e 26) (rot s.e 21)) (rot s.e 7))) (xor32 (and32 s.e s.f) (and32 (not32 s.e) s.g))) (kw2 t)) (W t)
def sum2y (s : S8) : Int := add32 (xor32 (xor32 (rot s.a 30) (rot s.a 19)) (rot s.a 10)) (xor32 (xor32 (and32 s.a s.b) (and32 s.a s.c)) (and32 s.b s.c))
def step2 (W : Nat → Int) (t : Nat) (s : S8) : S8 := ⟨add32 (sum2x W t s) (sum2y s), s.a, s.b, s.c, add32 s.d (sum2x W t s), s.e, s.f, s.g⟩
def steps2 (W : Nat → Int) (s : S8) : Nat → S8
 | 0 => s
 | t + 1 => step2 W t (steps2 W s t)
def mix2 (W : Nat → Int) (s : S8) : S8 := ⟨add32 s.a (steps2 W s 64).a, add32 s.b (steps2 W s 64).b, add32 s.c (steps2 W s 64).c, add32 s.d (steps2 W s 64).d, add32 s.e (steps2 W s 64).e, add32 s.f (steps2 W s 64).f, add32 s.g (steps2 W s 64).g, add32 s.h (steps2 W s 64).h⟩
def init2 : S8 := ⟨0x6a09e667, 0xbb67ae85, 0x3c6ef372, 0xa54ff53a, 0x510e527f, 0x9b05688c, 0x1f83d9ab, 0x5be0cd19⟩
def run2 (p : Bs) : Nat → S8
 | 0 => init2
 | n + 1 => mix2 (W2 p (64 * n)) (run2 p n)
/-! ### Bytes -/
def byteO (x : Int) : UInt8 := UInt8.ofNat (wr .u8 x).toNat
theorem wr8_r (x : Int) : 0 ≤ wr .u8 x ∧ wr .u8 x < 256 := by
 have e : wr .u8 x = x % 256 := by simp [wr, IntKind.wrap, IntKind.bits, IntKind.signed]
 rw [e]; omega
theorem byteO_val (x : Int) : ((byteO x).toNat : Int) = wr .u8 x := by
 have h := wr8_r x
 unfold byteO
 rw [UInt8.toNat_ofNat', Nat.mod_eq_of_lt (by omega)]
 omega
def highB (v : Int) (n : Nat) : Bs := (List.range n).map fun i => byteO (shr .u64 v ((8 * (n - 1 - i) : Nat) : Int))
theorem highB_len (v : Int) (n : Nat) : (highB v n).length = n := by simp [highB]
def padB (n : Nat) : Bs := [128] ++ List.replicate ((119 - n % 64) % 64) 0 ++ highB ((8 * n : Nat) : Int) 8
theorem padB_len (n : Nat) : (padB n).length = 9 + (119 - n % 64) % 64 := by simp [padB, highB_len]; omega
theorem pad_64 (s : Bs) : (s ++ padB s.length).length % 64 = 0 := by
 rw [List.length_append, padB_len]; omega
/-- how many blocks -/
def blocks (s : Bs) : Nat := (s ++ padB s.length).length / 64
def four (v : Int) : Bs := highB (wr .u64 v) 4
def out5 (s : S5) : Bs := four s.a ++ four s.b ++ four s.c ++ four s.d ++ four s.e
def out8 (s : S8) : Bs := four s.a ++ four s.b ++ four s.c ++ four s.d ++ four s.e ++ four s.f ++ four s.g ++ four s.h
def sha1 (s : Bs) : Bs := out5 (run1 (s ++ padB s.length) (blocks s))
def sha2 (s : Bs) : Bs := out8 (run2 (s ++ padB s.length) (blocks s))
theorem sha1_len (s : Bs) : (sha1 s).length = 20 := by simp [sha1, out5, four, highB_len]
theorem sha2_len (s : Bs) : (sha2 s).length = 32 := by simp [sha2, out8, four, highB_len]
/-! ### Columns of words -/
def col (n : Nat) (f : Nat → Int) : List Value := (List.range n).map fun i => .int .u32 (f i)
theorem col_len (n : Nat) (f : Nat → Int) : (col n f).length = n := by simp [col]
theorem col_get {n : Nat} (f : Nat → Int) {j : Nat} (h : j < n) : (col n f)[j]? = some (.int .u32 (f j)) := by simp [col, h]
theorem col_set {n : Nat} (f : Nat → Int) (j : Nat) (v : Int) : (col n f).set j (.int .u32 v) = col n fun i => if i = j then v else f i := by
 apply List.ext_getElem
 · simp [col]
 · intro i h1 h2
   rw [List.getElem_set]
   simp only [col, List.getElem_map, List.getElem_range]
   by_cases h : j = i
   · subst h; simp
   · rw [if_neg h, if_neg (fun e => h e.symm)]
theorem col_ext {n : Nat} {f g : Nat → Int} (h : ∀ i, i < n → f i = g i) : col n f = col n g := by
 unfold col
 exact List.map_congr_left fun i hi => by rw [h i (List.mem_range.1 hi)]
end Go.Proofs.YtggachhkcmfijaaGreatDoor

/- SHA-1: the program's walk. -/
set_option linter.unusedVariables false
namespace Go.Proofs.YtggachhkcmfijaaGreatDoor
open Go Go.Vc Go.RowKit Go.Lib
section
variable {w : World} {X : List As}
theorem pad_n (n : Nat) (hn : n ≤ 1099511627776) : (w64 ((119 : Int) - ((n : Int).tmod 64))).tmod 64 = (((119 - n % 64) % 64 : Nat) : Int) := by
 have e : (n : Int).tmod 64 = ((n % 64 : Nat) : Int) := (Int.ofNat_tmod n 64).symm
 rw [e, w64_id (by omega) (by omega)]
 have e2 : (119 : Int) - ((n % 64 : Nat) : Int) = ((119 - n % 64 : Nat) : Int) := by omega
 rw [e2]
 rw [Int.tmod_eq_emod_of_nonneg (by omega)]; omega
/-- a column's cells -/
theorem St.colGet {g n : Nat} {f : Nat → Int} {t : TypeId} (h : St w (Cs g (col n f) t :: X)) {j : Nat} (hj : j < n) : w.cell? ((blk g).add j) = some (.int .u32 (f j)) := by rw [h.cell, col_get f hj]
theorem St.colSet {g n : Nat} {f f' : Nat → Int} {t : TypeId} (h : St w (Cs g (col n f) t :: X)) {j : Nat} (hj : j < n) {v : Int} (he : ∀ i, i < n → (if i = j then v else f i) = f' i) :
   Wr w ((blk g).add j) ∧ St (w.setCell ((blk g).add j) (.int .u32 v)) (Cs g (col n f') t :: X) := by
 refine ⟨h.wr (by rw [col_len]; exact hj), ?_⟩
 have h2 := h.set j (.int .u32 v)
 rw [col_set, col_ext he] at h2
 exact h2
abbrev c5 (s : S5) : List Value := [.int .u32 s.a, .int .u32 s.b, .int .u32 s.c, .int .u32 s.d, .int .u32 s.e]
end
end Go.Proofs.YtggachhkcmfijaaGreatDoor

/- SHA-1: the digest of texts; strings.Join. -/
set_option linter.unusedVariables false
namespace Go.Proofs.YtggachhkcmfijaaGreatDoor
open Go Go.Vc Go.RowKit Go.Lib
section
variable {w : World} {X : List As}
def l5 (s : S5) : List Int := [s.a, s.b, s.c, s.d, s.e]
theorem out5_all (s : S5) : (l5 s).flatMap four = out5 s := by simp [l5, out5]
theorem flat_succ (L : List Int) {n : Nat} (h : n < L.length) : (L.take (n + 1)).flatMap four = (L.take n).flatMap four ++ four L[n] := by
 rw [List.take_succ_eq_append_getElem h, List.flatMap_append]; simp
theorem four_len (v : Int) : (four v).length = 4 := highB_len _ _
theorem flat_len (L : List Int) : (L.flatMap four).length = 4 * L.length := by
 induction L with
 | nil => rfl
 | cons x r ih => simp only [List.flatMap_cons, List.length_append, List.length_cons, ih, four_len]; omega
end
end Go.Proofs.YtggachhkcmfijaaGreatDoor

/- SHA-256: the program's walk. -/
set_option linter.unusedVariables false
namespace Go.Proofs.YtggachhkcmfijaaGreatDoor
open Go Go.Vc Go.RowKit Go.Lib
section
variable {w : World} {X : List As}
abbrev c8 (s : S8) : List Value := [.int .u32 s.a, .int .u32 s.b, .int .u32 s.c, .int .u32 s.d, .int .u32 s.e, .int .u32 s.f, .int .u32 s.g, .int .u32 s.h]
end
end Go.Proofs.YtggachhkcmfijaaGreatDoor

/- SHA-256: the digest of texts. -/
set_option linter.unusedVariables false
namespace Go.Proofs.YtggachhkcmfijaaGreatDoor
open Go Go.Vc Go.RowKit Go.Lib
def l8 (s : S8) : List Int := [s.a, s.b, s.c, s.d, s.e, s.f, s.g, s.h]
theorem out8_all (s : S8) : (l8 s).flatMap four = out8 s := by simp [l8, out8]
end Go.Proofs.YtggachhkcmfijaaGreatDoor

/- words: many rows, each of its own. -/
set_option linter.unusedVariables false
namespace Go.Proofs.YtggachhkcmfijaaGreatDoor
open Go Go.Vc Go.RowKit Go.Lib
theorem StP.perm {L L' : List As} (h : L.Perm L') : ∀ {w : World} {S : Nat → Prop}, StP L w S → StP L' w S := by
 induction h with
 | nil => exact fun h => h
 | cons A _ ih => exact fun h => StP.cons (fun S hS => ih hS) h
 | swap A B l => exact fun h => StP.swap h
 | trans _ _ ih1 ih2 => exact fun h => ih2 (ih1 h)
theorem St.perm {w : World} {L L' : List As} (h : St w L) (hp : L.Perm L') : St w L' := by
 obtain ⟨S, h⟩ := h
 exact ⟨S, StP.perm hp h⟩
/-! ### Appends, with what the old slice reads -/
section
variable {w : World} {L : List As} {α : Type} {En : Enc α} {t : TypeId} {l : Sl} {xs : List α}
/-- append; the old slice is the new one's first part, or a row of its own still -/
theorem St.app2 {P : Program} {ts ty : TypeId} {bytes : Nat} (hE : Elt P ts t En.n bytes) (h : St w (Row En t l xs :: L)) {sl : Sl} {ys : List α} (hs : Has En w sl ys) {a : Addr} (ha : sl.a = some a)
   (hb : (xs.length + ys.length) * bytes ≤ 140737488355328) (hb2 : xs.length + ys.length ≤ 4611686018427387904) {R : Sl → World → Prop}
   (hR1 : ∀ l' w', St w' (Row En t l' (xs ++ ys) :: L) → l'.len = xs.length + ys.length → l'.a = l.a → R l' w')
   (hR2 : ∀ l' w', St w' (Row En t l' (xs ++ ys) :: Row En t l xs :: L) → l'.len = xs.length + ys.length → R l' w') :
   RunT P (Builtin.append_ #[ts, ts] ty #[.slice l.a l.len l.cap, .slice (some a) sl.len sl.cap]) [.one .slice] w R := by
 obtain ⟨i, z, hi, hz, h1, h2, h3⟩ := hE.info
 have hl := (h.has hE.pos).1
 obtain ⟨S, ⟨hO, e⟩, hlt, hX⟩ := h.out
 subst e
 refine runT_append2 hE.und hi hz h1 h2 h3 hE.pos hO (m := sl.len) (news := En.all ys) (by rw [En.all_len, hs.1]) (fun j u hu => ?_) (En.all_one ys) (by rw [hl, hs.1]; simp only [maxLen]; omega) (by rw [hl, hs.1]; exact hb) fun l' w' ho hl' hor => ?_
 · have hj : j < ys.length * En.n := by rw [← En.all_len]; exact (List.getElem?_eq_some_iff.1 hu).1
   have hd : j / En.n < ys.length := (Nat.div_lt_iff_lt_mul hE.pos).2 hj
   have hm := Nat.mod_lt j hE.pos
   have hx : ys[j / En.n]? = some ys[j / En.n] := by simp [hd]
   have hc0 : (En.cells ys[j / En.n])[j % En.n]? = some ((En.cells ys[j / En.n])[j % En.n]'(by rw [En.len]; exact hm)) := by simp [En.len, hm]
   have e1 := En.at hx hc0
   have e2 : j / En.n * En.n + j % En.n = j := by rw [Nat.mul_comm]; exact Nat.div_add_mod j En.n
   rw [e2, hu] at e1
   obtain ⟨a', ha', hc⟩ := hs.2 _ _ hx
   rw [ha] at ha'
   injection ha' with ha'
   subst ha'
   have := hc _ _ hc0
   rw [e2] at this
   rw [this, e1]
 · rw [← En.all_app] at ho
   rcases hor with ⟨hm, hf⟩ | ⟨⟨g, hm, hg⟩, hf⟩
   · refine hR1 l' w' (hX ⟨ho, rfl⟩ hf fun k hk => ?_) (by rw [hl', hl, hs.1]) hm
     obtain ⟨a', ha', rfl⟩ := hk
     exact .inl ⟨a', by rw [← hm]; exact ha', rfl⟩
   · refine hR2 l' w' (h.add (A := Row En t l' (xs ++ ys)) (S := l'.bk) ⟨ho, rfl⟩ hf fun k hk => ?_) (by rw [hl', hl, hs.1])
     obtain ⟨a', ha', rfl⟩ := hk
     rw [hm] at ha'; injection ha' with ha'; subst ha'; exact hg
theorem Row.cap (h : St w (Row En t l xs :: L)) : l.len ≤ l.cap := by
 have hO := h.own
 rcases hO.2 with ⟨h2, h0⟩ | ⟨g, cap, cur, h2, hbg, hgg, hnc, hcm, hcs, htake⟩
 · simp only [Value.slice.injEq] at h2; omega
 · simp only [Value.slice.injEq] at h2; omega
end
end Go.Proofs.YtggachhkcmfijaaGreatDoor

/- bytes of a text as a slice of their own; chain.Refs of a chain that is broken; masonrylaw12: ChainSpoilt. -/
set_option linter.unusedVariables false
namespace Go.Proofs.YtggachhkcmfijaaGreatDoor
open Go Go.Vc Go.RowKit Go.Lib
section
variable {w w' : World} {X : List As}
section
variable {k g c : Nat} {D : DkV}
theorem Zeros_st (h : St w X) {n : Nat} (hn : n ≤ 1000000) {R : ByteArray → World → Prop} (hR : ∀ w', St w' X → R (tx (List.replicate n 0)) w') : F.masonryref1_Zeros (n : Int) w R := by
 apply E.masonryref1_Zeros
 unfold V.masonryref1_Zeros
 try simp -zeta only [ldC, soC, brC, bkA, slC, stC, alC, drC]
 exact zeros_st h hn hR
end
end
end Go.Proofs.YtggachhkcmfijaaGreatDoor
