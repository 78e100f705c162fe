/- Words of what lies apart: rows of bytes; a new disk, and a desk on it. -/
import Derived.Test.YtmokmbhhnbcelaaGreatDoorSr
import Derived.Shelf.SlGeneric
import Derived.Shelf.Strings.OnBuilder
import Derived.Ground.Names2Prog
import Derived.Test.YtmokmbhhnbcelaaGreatDoorProg
set_option linter.unusedVariables false
namespace Go.Proofs.YtmokmbhhnbcelaaGreatDoor
open Go Go.Vc Go.RowKit Go.Lib
def EB : Enc UInt8 := ⟨fun x => [.int .u8 x.toNat], 1, fun _ => rfl, fun _ u hu => by simp at hu; subst hu; rfl⟩
theorem EB_all (bs : List UInt8) : EB.all bs = bv bs := by simp [Enc.all, EB, bv]; induction bs <;> simp_all
theorem elt_byte : Elt Pg T.y_sl_uint8 T.y_uint8 1 1 := ⟨und_bytes, by obtain ⟨i, hi, hz, h1, h2⟩ := info_byte; exact ⟨i, _, hi, hz, h1, h2, rfl⟩, by decide⟩
section
variable {w w' : World} {X : List As} {l : Sl}
theorem St.makeB (h : St w X) {n : Nat} (hn : n ≤ 1000000) {R : Sl → World → Prop}
   (hR : ∀ l w', l.len = n → St w' (Row EB T.y_uint8 l (List.replicate n 0) :: X) → R l w') : RunT Pg (Instr.makeSlice T.y_sl_uint8 (.int .i64 (n : Int)) (.int .i64 (n : Int))) [.one .slice] w R := by
 obtain ⟨inf, hi, hz, hs1, hby⟩ := info_byte
 refine runT_make und_bytes hi hz hs1 (by rw [hby]; omega) (by simp only [maxLen]; omega) fun w1 hO hF hs => hR _ w1 rfl (St.rowOf h hF ?_ fun k hk => ?_)
 · have h2 := toList_madeCells_one (Value.int .u8 0) (n * 1)
   rw [show (Value.int IntKind.u8 0).cells = #[Value.int .u8 0] from rfl, h2] at hO
   have e : EB.all (List.replicate n 0) = List.replicate (n * 1) (Value.int .u8 0) := by rw [EB_all]; simp [bv]
   rw [e]; exact hO
 · obtain ⟨a, ha, rfl⟩ := hk
   injection ha with ha
   subst ha
   exact Nat.le_refl _
theorem St.strB {t : TypeId} (ht : t = T.y_uint8) {bs : List UInt8} (h : St w (Row EB t l bs :: X)) {R : ByteArray → World → Prop} (hR : R (tx bs) w) :
   RunT Pg (convert T.y_sl_uint8 T.y_string (.slice l.a l.len l.cap)) [.one .str] w R := by
 subst ht
 have hO := h.own
 rw [EB_all] at hO
 exact runT_bytes_str und_bytes und_byte und_str hO hR
theorem St.setB {t : TypeId} {bs : List UInt8} (h : St w (Row EB t l bs :: X)) {k : Nat} (hk : k < bs.length) (v : UInt8) {a : Addr} (ha : l.a = some a) :
   Wr w (a.add (k * 1)) ∧ St (w.setCell (a.add (k * 1)) (.int .u8 (v.toNat : Int))) (Row EB t l (bs.set k v) :: X) := by
 obtain ⟨S, ⟨hO, e⟩, hlt, hX⟩ := h.out
 subst e
 rw [EB_all] at hO
 obtain ⟨q1, q2, q3⟩ := Own.set1 (show Own w t 1 l (bv bs) from hO) (k := k) (by simpa [bv] using hk) (.int .u8 (v.toNat : Int)) ha
 rw [Nat.mul_one]
 refine ⟨q1, hX ⟨?_, rfl⟩ q3 (fun j hj => .inl hj)⟩
 rw [EB_all]
 have e : (bv bs).set k (.int .u8 (v.toNat : Int)) = bv (bs.set k v) := by simp [bv, List.map_set]
 rw [← e]; exact q2
/-- so many zero bytes, as a text -/
theorem zeros_st (h : St w X) {n : Nat} (hn : n ≤ 1000000) {K : ByteArray → World → Prop} (hK : ∀ w', St w' X → K (tx (List.replicate n 0)) w') :
   RunT Pg (Instr.makeSlice T.y_sl_uint8 (.int .i64 (n : Int)) (.int .i64 (n : Int))) [.one .slice] w fun l w1 => RunT Pg (convert T.y_sl_uint8 T.y_string (.slice l.a l.len l.cap)) [.one .str] w1 K :=
 St.makeB h hn fun l w1 _ h1 => St.strB rfl h1 (hK w1 h1.drop)
/-- a disk of which nothing is armed -/
def DskS (g : Nat) (d : Ds) : As where
 p := fun w S => Dsk w g S d
 lt := fun h k hk => h.lt hk
 keep := fun h hf => h.keep hf (fun j hj hn => hn hj)
theorem newdisk_st (h : St w X) {n : Nat} (h1 : 140 ≤ n) (h2 : n ≤ 2000) {R : Option Addr → Int → World → Prop} (hR : ∀ g w', St w' (DskS g (newD n) :: X) → R (some (blk g)) 0 w') : F.disk_New (n : Int) w R :=
 New_disk h1 h2 fun g L S w' hD hfp hB => hR g w' (h.add (A := DskS g (newD n)) (S := fpD g L S ⟨none, 0, 0⟩) ⟨L, S, _, hD, rfl⟩ (fr_below hB) hfp)
def fmt0 (n : Nat) : DkV := fmtD (newD n) 0 (n - 111)
theorem format_st {g : Nat} {d : Ds} {seq : Int} (h : St w (DskS g d :: X)) (hq : Quiet d seq) (hs : 0 ≤ seq ∧ seq ≤ 1000) (hm : d.many ≤ 1000) {R : Option Addr → Int → World → Prop}
   (hR : ∀ k w', St w' (DeskS k g 1001 (fmtD d seq (d.l.length - 111)) :: X) → R (some (blk k)) 0 w') : F.desk_Format (some (blk g)) w R := by
 obtain ⟨S, hd, hlt, hX⟩ := h.out
 refine Format_desk hd hq ⟨hs.1, by omega⟩ (by omega) fun k u r b fpd' fpr w' hA hn hG => hR k w' (hX (A' := DeskS k g 1001 _) (S' := fpK k u b fpd' fpr) ⟨fmt_ok hq hs hm, u, r, b, fpd', fpr, hA, rfl⟩ hG.fr fun j hj => ?_)
 rcases hj with hj | hj | hj | hj | hj
 · exact .inr (hn j (.inl hj))
 · exact .inr (hn j (.inr (.inl hj)))
 · exact .inr (hn j (.inr (.inr (.inl hj))))
 · exact hG.new j hj
 · exact .inr (hn j (.inr (.inr (.inr hj))))
theorem format0_st {g n : Nat} (h : St w (DskS g (newD n) :: X)) (h1 : 140 ≤ n) (h2 : n ≤ 2000) {R : Option Addr → Int → World → Prop}
   (hR : ∀ k w', St w' (DeskS k g 1001 (fmt0 n) :: X) → R (some (blk k)) 0 w') : F.desk_Format (some (blk g)) w R := by
 refine format_st h (Quiet.new h1 h2) (by decide) (by show (0 : Int) ≤ 1000; decide) fun k w' h' => hR k w' ?_
 have e : (newD n).l.length = n := List.length_replicate
 rw [e] at h'; exact h'
theorem DeskS.wal {k g c : Nat} {D : DkV} (h : St w (DeskS k g c D :: X)) : ∃ u, w.cell? (blk k) = some (.pointer (some (blk u))) := by
 obtain ⟨_, u, r, b, fpd, fpr, Tf, hA, _⟩ := DeskS.open h
 exact ⟨u, hA.c0⟩
theorem Free_st {r : Nat} {bs : List Bool} (h : St w (RoomS r bs :: X)) (hn : bs.length ≤ 1000000) {R : Int → World → Prop} (hR : ∀ w', St w' (RoomS r bs :: X) → R ((bs.length : Int) - ((allL bs bs.length).length : Int)) w') : F.room_Room_Free (some (blk r)) w R := by
 obtain ⟨S, hr⟩ := h.hd
 exact Free_room hr hn fun w' hB => hR w' (h.below hB)
theorem Dirty_st {k g c : Nat} {D : DkV} (h : St w (DeskS k g c D :: X)) (hc : c ≤ 100000) {R : Sl → World → Prop}
   (hR : ∀ l w', St w' (Row EI T.y_int l (keysW (written D)) :: DeskS k g c D :: X) → R l w') : F.desk_Desk_Dirty (some (blk k)) w R := by
 obtain ⟨hk, u, r, b, fpd, fpr, Tf, hA, _⟩ := DeskS.open h
 exact Dirty_desk hA hk hc fun l w' hO hbk hB => hR l w' (St.rowOf h (fr_below hB) (by rw [EI_all]; exact hO) hbk)
end
end Go.Proofs.YtmokmbhhnbcelaaGreatDoor

/- SHA-1 and SHA-256 as words and steps; plain. -/
set_option linter.unusedVariables false
namespace Go.Proofs.YtmokmbhhnbcelaaGreatDoor
open Go Go.Vc Go.RowKit Go.Lib
/-- a word turned to the left -/
def rot (x k : Int) : Int := bits .or .u32 (shl .u32 x k) (shr .u32 x (32 - k))
abbrev xor32 (a b : Int) : Int := bits .xor .u32 a b
abbrev and32 (a b : Int) : Int := bits .and .u32 a b
abbrev or32 (a b : Int) : Int := bits .or .u32 a b
abbrev not32 (a : Int) : Int := bits .xor .u32 (IntKind.max .u32) a
abbrev add32 (a b : Int) : Int := wr .u32 (a + b)
/-- the number of so many bytes at a place, the highest first -/
def partN (p : Bs) (i : Nat) : Nat → Nat
 | 0 => 0
 | j + 1 => partN p i j * 256 + (p.getD (i + j) 0).toNat
theorem partN_lt (p : Bs) (i : Nat) : ∀ j, partN p i j < 256 ^ j
 | 0 => Nat.zero_lt_one
 | j + 1 => by
   have h := partN_lt p i j
   have h2 := (p.getD (i + j) 0).toNat_lt
   show partN p i j * 256 + _ < 256 ^ j * 256
   omega
theorem shl32 (x k : Nat) (hk : k ≤ 32) (h : x * 2 ^ k < 4294967296) : shl .u32 (x : Int) (k : Int) = ((x * 2 ^ k : Nat) : Int) := by
 unfold shl
 have e : (min (k : Int).toNat (IntKind.bits .u32)) = k := by
   show min (k : Int).toNat 32 = k
   omega
 rw [e]
 have e2 : (x : Int) * (2 : Int) ^ k = ((x * 2 ^ k : Nat) : Int) := by rw [Int.natCast_mul, Int.natCast_pow]; rfl
 rw [e2]
 exact wr32_id h
theorem or_add (x y k : Nat) (hy : y < 2 ^ k) : x * 2 ^ k ||| y = x * 2 ^ k + y := by
 have h := Nat.shiftLeft_add_eq_or_of_lt hy x
 rw [Nat.shiftLeft_eq] at h
 exact h.symm
theorem or_next {x y : Nat} (hx : x < 16777216) (hy : y < 256) : bits .or .u32 (shl .u32 (x : Int) 8) (wr .u32 (y : Int)) = ((x * 256 + y : Nat) : Int) := by
 rw [wr32_id (by omega)]
 have e := shl32 x 8 (by decide) (by omega)
 have e8 : ((8 : Nat) : Int) = 8 := rfl
 rw [e8] at e
 rw [e, u32_or_nat _ _ (by omega) (by omega), or_add x y 8 (by omega)]
theorem or_four {a b c d : Nat} (ha : a < 256) (hb : b < 256) (hc : c < 256) (hd : d < 256) :
   bits .or .u32 (bits .or .u32 (bits .or .u32 (shl .u32 (wr .u32 (a : Int)) 24) (shl .u32 (wr .u32 (b : Int)) 16)) (shl .u32 (wr .u32 (c : Int)) 8)) (wr .u32 (d : Int)) = ((((a * 256 + b) * 256 + c) * 256 + d : Nat) : Int) := by
 rw [wr32_id (x := a) (by omega), wr32_id (x := b) (by omega), wr32_id (x := c) (by omega), wr32_id (x := d) (by omega)]
 have e1 := shl32 a 24 (by decide) (by omega)
 have e2 := shl32 b 16 (by decide) (by omega)
 have e3 := shl32 c 8 (by decide) (by omega)
 rw [show ((24 : Nat) : Int) = 24 from rfl] at e1
 rw [show ((16 : Nat) : Int) = 16 from rfl] at e2
 rw [show ((8 : Nat) : Int) = 8 from rfl] at e3
 rw [e1, e2, e3, u32_or_nat _ _ (by omega) (by omega), or_add a (b * 2 ^ 16) 24 (by omega), u32_or_nat _ _ (by omega) (by omega)]
 rw [show a * 2 ^ 24 + b * 2 ^ 16 = (a * 256 + b) * 2 ^ 16 by omega, or_add (a * 256 + b) (c * 2 ^ 8) 16 (by omega), u32_or_nat _ _ (by omega) (by omega)]
 rw [show (a * 256 + b) * 2 ^ 16 + c * 2 ^ 8 = ((a * 256 + b) * 256 + c) * 2 ^ 8 by omega, or_add ((a * 256 + b) * 256 + c) d 8 (by omega)]
/-- the words of 64 bytes at a place: of SHA-1 -/
def W1 (p : Bs) (o t : Nat) : Int :=
 if h : t < 16 then ((partN p (o + 4 * t) 4 : Nat) : Int)
 else rot (xor32 (xor32 (xor32 (W1 p o (t - 3)) (W1 p o (t - 8))) (W1 p o (t - 14))) (W1 p o (t - 16))) 1
termination_by t
theorem W1_lo {p : Bs} {o t : Nat} (h : t < 16) : W1 p o t = ((partN p (o + 4 * t) 4 : Nat) : Int) := by rw [W1, dif_pos h]
theorem W1_hi {p : Bs} {o t : Nat} (h : 16 ≤ t) : W1 p o t = rot (xor32 (xor32 (xor32 (W1 p o (t - 3)) (W1 p o (t - 8))) (W1 p o (t - 14))) (W1 p o (t - 16))) 1 := by rw [W1, dif_neg (by omega)]
/-- of SHA-256 -/
def W2 (p : Bs) (o t : Nat) : Int :=
 if h : t < 16 then ((partN p (o + 4 * t) 4 : Nat) : Int)
 else add32 (add32 (add32 (W2 p o (t - 16)) (W2 p o (t - 7))) (xor32 (xor32 (rot (W2 p o (t - 15)) 25) (rot (W2 p o (t - 15)) 14)) (shr .u32 (W2 p o (t - 15)) 3))) (xor32 (xor32 (rot (W2 p o (t - 2)) 15) (rot (W2 p o (t - 2)) 13)) (shr .u32 (W2 p o (t - 2)) 10))
termination_by t
theorem W2_lo {p : Bs} {o t : Nat} (h : t < 16) : W2 p o t = ((partN p (o + 4 * t) 4 : Nat) : Int) := by rw [W2, dif_pos h]
theorem W2_hi {p : Bs} {o t : Nat} (h : 16 ≤ t) : W2 p o t = add32 (add32 (add32 (W2 p o (t - 16)) (W2 p o (t - 7))) (xor32 (xor32 (rot (W2 p o (t - 15)) 25) (rot (W2 p o (t - 15)) 14)) (shr .u32 (W2 p o (t - 15)) 3))) (xor32 (xor32 (rot (W2 p o (t - 2)) 15) (rot (W2 p o (t - 2)) 13)) (shr .u32 (W2 p o (t - 2)) 10)) := by rw [W2, dif_neg (by omega)]
theorem part_cut (p : Bs) (o i : Nat) : ∀ j, i + j ≤ 64 → partN ((p.drop o).take 64) i j = partN p (o + i) j
 | 0, _ => rfl
 | j + 1, h => by
   show partN _ i j * 256 + _ = partN _ _ j * 256 + _
   rw [part_cut p o i j (by omega)]
   have : ((p.drop o).take 64).getD (i + j) 0 = p.getD (o + i + j) 0 := by
     simp only [List.getD_eq_getElem?_getD, List.getElem?_take, List.getElem?_drop]
     rw [if_pos (by omega), Nat.add_assoc]
   rw [this]
theorem W1_cut (p : Bs) (o : Nat) (t : Nat) : W1 ((p.drop o).take 64) 0 t = W1 p o t := by
 induction t using Nat.strongRecOn with
 | ind t ih =>
   by_cases h : t < 16
   · rw [W1_lo h, W1_lo h, Nat.zero_add, part_cut p o _ 4 (by omega)]
   · rw [W1_hi (by omega), W1_hi (p := p) (by omega), ih (t - 3) (by omega), ih (t - 8) (by omega), ih (t - 14) (by omega), ih (t - 16) (by omega)]
theorem W2_cut (p : Bs) (o : Nat) (t : Nat) : W2 ((p.drop o).take 64) 0 t = W2 p o t := by
 induction t using Nat.strongRecOn with
 | ind t ih =>
   by_cases h : t < 16
   · rw [W2_lo h, W2_lo h, Nat.zero_add, part_cut p o _ 4 (by omega)]
   · rw [W2_hi (by omega), W2_hi (p := p) (by omega), ih (t - 16) (by omega), ih (t - 7) (by omega), ih (t - 15) (by omega), ih (t - 2) (by omega)]
structure S5 where
 a : Int
 b : Int
 c : Int
 d : Int
 e : Int
structure S8 where
 a : Int
 b : Int
 c : Int
 d : Int
 e : Int
 f : Int
 g : Int
 h : Int
def f1 (t : Nat) (b c d : Int) : Int := if t < 20 then or32 (and32 b c) (and32 (not32 b) d) else if t < 40 then xor32 (xor32 b c) d else if t < 60 then or32 (or32 (and32 b c) (and32 b d)) (and32 c d) else xor32 (xor32 b c) d
def kw1 (t : Nat) : Int := if t < 20 then 1518500249 else if t < 40 then 1859775393 else if t < 60 then 2400959708 else 3395469782
def step1 (W : Nat → Int) (t : Nat) (s : S5) : S5 := ⟨add32 (add32 (add32 (add32 (rot s.a 5) (f1 t s.b s.c s.d)) s.e) (kw1 t)) (W t), s.a, rot s.b 30, s.c, s.d⟩
def steps1 (W : Nat → Int) (s : S5) : Nat → S5
 | 0 => s
 | t + 1 => step1 W t (steps1 W s t)
def mix1 (W : Nat → Int) (s : S5) : S5 := ⟨add32 s.a (steps1 W s 80).a, add32 s.b (steps1 W s 80).b, add32 s.c (steps1 W s 80).c, add32 s.d (steps1 W s 80).d, add32 s.e (steps1 W s 80).e⟩
def init1 : S5 := ⟨1732584193, 4023233417, 2562383102, 271733878, 3285377520⟩
def run1 (p : Bs) : Nat → S5
 | 0 => init1
 | n + 1 => mix1 (W1 p (64 * n)) (run1 p n)
def keys2 : List Int := [0x428a2f98, 0x71374491, 0xb5c0fbcf, 0xe9b5dba5, 0x3956c25b, 0x59f111f1, 0x923f82a4, 0xab1c5ed5,
 0xd807aa98, 0x12835b01, 0x243185be, 0x550c7dc3, 0x72be5d74, 0x80deb1fe, 0x9bdc06a7, 0xc19bf174,
 0xe49b69c1, 0xefbe4786, 0x0fc19dc6, 0x240ca1cc, 0x2de92c6f, 0x4a7484aa, 0x5cb0a9dc, 0x76f988da,
 0x983e5152, 0xa831c66d, 0xb00327c8, 0xbf597fc7, 0xc6e00bf3, 0xd5a79147, 0x06ca6351, 0x14292967,
 0x27b70a85, 0x2e1b2138, 0x4d2c6dfc, 0x53380d13, 0x650a7354, 0x766a0abb, 0x81c2c92e, 0x92722c85,
 0xa2bfe8a1, 0xa81a664b, 0xc24b8b70, 0xc76c51a3, 0xd192e819, 0xd6990624, 0xf40e3585, 0x106aa070,
 0x19a4c116, 0x1e376c08, 0x2748774c, 0x34b0bcb5, 0x391c0cb3, 0x4ed8aa4a, 0x5b9cca4f, 0x682e6ff3,
 0x748f82ee, 0x78a5636f, 0x84c87814, 0x8cc70208, 0x90befffa, 0xa4506ceb, 0xbef9a3f7, 0xc67178f2]
def kw2 (t : Nat) : Int := keys2.getD t 0
def sum2x (W : Nat → Int) (t : Nat) (s : S8) : Int := add32 (add32 (add32 (add32 s.h (xor32 (xor32 (rot s.e 26) (rot s.e 21)) (rot s.e 7))) (xor32 (and32 s.e s.f) (and32 (not32 s.e) s.g))) (kw2 t)) (W t)
def sum2y (s : S8) : Int := add32 (xor32 (xor32 (rot s.a 30) (rot s.a 19)) (rot s.a 10)) (xor32 (xor32 (and32 s.a s.b) (and32 s.a s.c)) (and32 s.b s.c))
def step2 (W : Nat → Int) (t : Nat) (s : S8) : S8 := ⟨add32 (sum2x W t s) (sum2y s), s.a, s.b, s.c, add32 s.d (sum2x W t s), s.e, s.f, s.g⟩
def steps2 (W : Nat → Int) (s : S8) : Nat → S8
 | 0 => s
 | t + 1 => step2 W t (steps2 W s t)
def mix2 (W : Nat → Int) (s : S8) : S8 := ⟨add32 s.a (steps2 W s 64).a, add32 s.b (steps2 W s 64).b, add32 s.c (steps2 W s 64).c, add32 s.d (steps2 W s 64).d, add32 s.e (steps2 W s 64).e, add32 s.f (steps2 W s 64).f, add32 s.g (steps2 W s 64).g, add32 s.h (steps2 W s 64).h⟩
def init2 : S8 := ⟨0x6a09e667, 0xbb67ae85, 0x3c6ef372, 0xa54ff53a, 0x510e527f, 0x9b05688c, 0x1f83d9ab, 0x5be0cd19⟩
def run2 (p : Bs) : Nat → S8
 | 0 => init2
 | n + 1 => mix2 (W2 p (64 * n)) (run2 p n)
/-! ### Bytes -/
def byteO (x : Int) : UInt8 := UInt8.ofNat (wr .u8 x).toNat
theorem wr8_r (x : Int) : 0 ≤ wr .u8 x ∧ wr .u8 x < 256 := by
 have e : wr .u8 x = x % 256 := by simp [wr, IntKind.wrap, IntKind.bits, IntKind.signed]
 rw [e]; omega
theorem wr32_r (x : Int) : 0 ≤ wr .u32 x ∧ wr .u32 x < 4294967296 := by
 have e : wr .u32 x = x % 4294967296 := by simp [wr, IntKind.wrap, IntKind.bits, IntKind.signed]
 rw [e]; omega
theorem byteO_val (x : Int) : ((byteO x).toNat : Int) = wr .u8 x := by
 have h := wr8_r x
 unfold byteO
 rw [UInt8.toNat_ofNat', Nat.mod_eq_of_lt (by omega)]
 omega
def highB (v : Int) (n : Nat) : Bs := (List.range n).map fun i => byteO (shr .u64 v ((8 * (n - 1 - i) : Nat) : Int))
theorem highB_len (v : Int) (n : Nat) : (highB v n).length = n := by simp [highB]
def padB (n : Nat) : Bs := [128] ++ List.replicate ((119 - n % 64) % 64) 0 ++ highB ((8 * n : Nat) : Int) 8
theorem padB_len (n : Nat) : (padB n).length = 9 + (119 - n % 64) % 64 := by simp [padB, highB_len]; omega
theorem pad_64 (s : Bs) : (s ++ padB s.length).length % 64 = 0 := by
 rw [List.length_append, padB_len]; omega
/-- how many blocks -/
def blocks (s : Bs) : Nat := (s ++ padB s.length).length / 64
def four (v : Int) : Bs := highB (wr .u64 v) 4
def out5 (s : S5) : Bs := four s.a ++ four s.b ++ four s.c ++ four s.d ++ four s.e
def out8 (s : S8) : Bs := four s.a ++ four s.b ++ four s.c ++ four s.d ++ four s.e ++ four s.f ++ four s.g ++ four s.h
def sha1 (s : Bs) : Bs := out5 (run1 (s ++ padB s.length) (blocks s))
def sha2 (s : Bs) : Bs := out8 (run2 (s ++ padB s.length) (blocks s))
theorem sha1_len (s : Bs) : (sha1 s).length = 20 := by simp [sha1, out5, four, highB_len]
theorem sha2_len (s : Bs) : (sha2 s).length = 32 := by simp [sha2, out8, four, highB_len]
/-! ### Columns of words -/
def col (n : Nat) (f : Nat → Int) : List Value := (List.range n).map fun i => .int .u32 (f i)
theorem col_len (n : Nat) (f : Nat → Int) : (col n f).length = n := by simp [col]
theorem col_get {n : Nat} (f : Nat → Int) {j : Nat} (h : j < n) : (col n f)[j]? = some (.int .u32 (f j)) := by simp [col, h]
theorem col_set {n : Nat} (f : Nat → Int) (j : Nat) (v : Int) : (col n f).set j (.int .u32 v) = col n fun i => if i = j then v else f i := by
 apply List.ext_getElem
 · simp [col]
 · intro i h1 h2
   rw [List.getElem_set]
   simp only [col, List.getElem_map, List.getElem_range]
   by_cases h : j = i
   · subst h; simp
   · rw [if_neg h, if_neg (fun e => h e.symm)]
theorem col_ext {n : Nat} {f g : Nat → Int} (h : ∀ i, i < n → f i = g i) : col n f = col n g := by
 unfold col
 exact List.map_congr_left fun i hi => by rw [h i (List.mem_range.1 hi)]
/-- those that are filled in up to a place -/
def filled (f : Nat → Int) (j : Nat) : Nat → Int := fun i => if i < j then f i else 0
theorem col_next {n : Nat} (f : Nat → Int) (j : Nat) : (col n (filled f j)).set j (.int .u32 (f j)) = col n (filled f (j + 1)) := by
 rw [col_set]
 refine col_ext fun i _ => ?_
 unfold filled
 by_cases h : i = j
 · subst h; simp
 · rw [if_neg h]
   by_cases h2 : i < j
   · rw [if_pos h2, if_pos (by omega)]
   · rw [if_neg h2, if_neg (by omega)]
end Go.Proofs.YtmokmbhhnbcelaaGreatDoor

/-
 DERIVED: THE SHELF's CONTRACTS AT THIS DUMP, IN PLAIN WORDS (tools/lay-plain.mjs out of 'YtmokmbhhnbcelaaGreatDoorShelfX.lean', which tools/lay-shelf.mjs wrote): THE SAME DECLARATIONS UNDER THE SAME NAMES: 'import', 'namespace', 'open', 'def', 'theorem' AND NOTHING ELSE: no command of the shelf's: FOR A HAND-IN. Each laying: the table of numbers ('.._ren') and one theorem, a field a fact of the dump's own or the kernel's comparison; each contract: ONE APPLICATION.
-/
namespace Go.Proofs
open Go.Shelf
def Tryz.lays156_ren : Go.Shelf.Ren := ⟨fun | 156 => 140 | 165 => 190 | 166 => 191 | 169 => 193 | 240 => 252 | 241 => 253 | 276 => 278 | 277 => 279 | n => n, fun | 31 => 100 | 9 => 9 | 3 => 3 | 4 => 4 | 0 => 0 | 20 => 20 | 72 => 239 | 76 => 243 | 70 => 237 | 37 => 39 | 75 => 242 | 127 => 305 | 164 => 328 | 5 => 5 | 80 => 156 | n => n, fun | n => n⟩
theorem Tryz.lays156 : Go.Proofs.Lays.n156 Tryz.prog Tryz.lays156_ren := {
 mixed := by kernel_rfl
 f156 := Tryz.func140.trans (congrArg some (by kernel_rfl))
 f165 := Tryz.func190.trans (congrArg some (by kernel_rfl))
 f166 := Tryz.func191.trans (congrArg some (by kernel_rfl))
 f169 := Tryz.func193.trans (congrArg some (by kernel_rfl))
 f240 := Tryz.func252.trans (congrArg some (by kernel_rfl))
 f241 := Tryz.func253.trans (congrArg some (by kernel_rfl))
 f276 := Tryz.func278.trans (congrArg some (by kernel_rfl))
 f277 := Tryz.func279.trans (congrArg some (by kernel_rfl))
 t0 := Tryz.underlying0
 a0 := Tryz.isAgg0
 z0 := Tryz.sizeOf0
 v0 := Tryz.zeroValue0
 t3 := Tryz.underlying3
 a3 := Tryz.isAgg3
 z3 := Tryz.sizeOf3
 v3 := Tryz.zeroValue3
 t4 := Tryz.underlying4
 a4 := Tryz.isAgg4
 z4 := Tryz.sizeOf4
 v4 := Tryz.zeroValue4
 t9 := Tryz.underlying9
 a9 := Tryz.isAgg9
 z9 := Tryz.sizeOf9
 v9 := Tryz.zeroValue9
 t20 := Tryz.underlying20
 a20 := Tryz.isAgg20
 z20 := Tryz.sizeOf20
 v20 := Tryz.zeroValue20
 t31 := Tryz.underlying100
 a31 := Tryz.isAgg100
 z31 := Tryz.sizeOf100
 v31 := Tryz.zeroValue100
 t37 := Tryz.underlying39
 a37 := Tryz.isAgg39
 z37 := Tryz.sizeOf39
 v37 := Tryz.zeroValue39
 t70 := Tryz.underlying237
 a70 := Tryz.isAgg237
 z70 := Tryz.sizeOf237
 v70 := Tryz.zeroValue237
 t72 := Tryz.underlying239
 a72 := Tryz.isAgg239
 z72 := Tryz.sizeOf239
 v72 := Tryz.zeroValue239
 t75 := Tryz.underlying242
 a75 := Tryz.isAgg242
 z75 := Tryz.sizeOf242
 v75 := Tryz.zeroValue242
 t76 := Tryz.underlying243
 a76 := Tryz.isAgg243
 z76 := Tryz.sizeOf243
 v76 := Tryz.zeroValue243
 t127 := Tryz.underlying305
 a127 := Tryz.isAgg305
 z127 := Tryz.sizeOf305
 v127 := Tryz.zeroValue305
 t164 := Tryz.underlying328
 a164 := Tryz.isAgg328
 z164 := Tryz.sizeOf328
 v164 := Tryz.zeroValue328 }
theorem Tryz.Builder_Extra_156 : Builder.Extra Tryz.prog Tryz.lays156_ren := {
 sizeBuilder := by kernel_rfl
 liesBuilder := by kernel_rfl
 t5 := Tryz.underlying5
 a5 := Tryz.isAgg5
 z5 := Tryz.sizeOf5
 v5 := Tryz.zeroValue5
 infoByte := by kernel_rfl
 cellsByte := by kernel_rfl
 sizeByte := by kernel_rfl
 neB5 := by decide }
end Go.Proofs
