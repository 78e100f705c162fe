/- heads, and the sum of bytes: the plain law (what is laid is read again). -/
import Derived.Test.YtgacpkgaogiocaaGreatDoorBa
set_option linter.unusedVariables false
namespace Go.Proofs.YtgacpkgaogiocaaGreatDoor
open Go Go.Vc Go.RowKit Go.Lib
/-- one shift of the sum -/
def step (x : Nat) : Nat := if x % 2 = 1 then (x / 2) ^^^ 3988292384 else x / 2
def step4 (x : Nat) : Nat := step (step (step (step x)))
def crcB (x : Nat) (b : UInt8) : Nat := step4 (step4 (x ^^^ b.toNat))
def crcL (l : List UInt8) : Nat := l.foldl crcB 4294967295 ^^^ 4294967295
theorem step_lt {x : Nat} (h : x < 4294967296) : step x < 4294967296 := by
 unfold step
 split
 · exact Nat.xor_lt_two_pow (n := 32) (by omega) (by omega)
 · omega
theorem step4_lt {x : Nat} (h : x < 4294967296) : step4 x < 4294967296 := step_lt (step_lt (step_lt (step_lt h)))
theorem crcB_lt {x : Nat} (h : x < 4294967296) (b : UInt8) : crcB x b < 4294967296 :=
 step4_lt (step4_lt (Nat.xor_lt_two_pow (n := 32) h (by have := b.toNat_lt; omega)))
theorem crcF_lt : ∀ (l : List UInt8) {x : Nat}, x < 4294967296 → l.foldl crcB x < 4294967296
 | [], _, h => h
 | b :: r, x, h => crcF_lt r (crcB_lt h b)
theorem crcL_lt (l : List UInt8) : crcL l < 4294967296 := Nat.xor_lt_two_pow (n := 32) (crcF_lt l (by decide)) (by decide)
theorem leVal_leBytes (n v : Nat) : leVal (leBytes n (v : Int)) = v % 256 ^ n := by
 induction n with
 | zero => simp [leBytes, leVal, Nat.mod_one]
 | succ n ih =>
   rw [leBytes_succ, leVal_app, ih, leBytes_len, Nat.pow_succ, Nat.mod_mul]
   have hb : leByte n (v : Int) = UInt8.ofNat (v / 256 ^ n % 256) := by
     unfold leByte
     have h1 : (2 : Int) ^ (8 * n) = ((256 ^ n : Nat) : Int) := by
       rw [Nat.mul_comm, Nat.mul_comm n 8, Int.pow_mul, Int.natCast_pow]; rfl
     rw [h1]
     congr 1
   rw [hb]
   simp [leVal, UInt8.toNat_ofNat']
theorem lowIn_lay {k v : Nat} (hv : v < 256 ^ k) (h63 : v < 9223372036854775808) (rest : List UInt8) : lowIn k (leBytes k (v : Int) ++ rest) 0 = ((v : Int), rest, 0) := by
 have hr : rawIn k (leBytes k (v : Int) ++ rest) 0 = (leBytes k (v : Int), rest, 0) := by
   have hl := leBytes_len k (v : Int)
   unfold rawIn
   rw [if_neg (by simp), if_neg (by omega), if_neg (by rw [List.length_append]; omega)]
   have e1 : ((k : Nat) : Int).toNat = k := by omega
   rw [e1, List.take_append_of_le_length (by omega), List.drop_append_of_le_length (by omega), List.take_of_length_le (by omega), List.drop_of_length_le (by omega)]
   rfl
 unfold lowIn
 rw [hr]
 simp only [leVal_leBytes, Nat.mod_eq_of_lt hv]
 rw [if_pos h63]
structure Hd where
 seq : Int
 full : Bool
 ts : List Int
def upTo (ts : List Int) (i : Nat) : Bool :=
 match ts[i]? with
 | none => true
 | some at_ => decide (0 ≤ at_) && (decide (at_ < 2000) && (decide (i = 0) || decide (ts.getD (i - 1) 0 < at_)))
def validH (h : Hd) : Bool :=
 decide (0 ≤ h.seq) && (decide (h.seq ≤ 1099511627776) && (decide (h.ts.length ≤ 110) && (decide (h.full = decide (0 < h.ts.length)) && (List.range h.ts.length).all (upTo h.ts))))
def headBytes (h : Hd) : List UInt8 := leBytes 1 7 ++ leBytes 1 (if h.full then 1 else 0) ++ leBytes 8 h.seq ++ leBytes 2 h.ts.length ++ h.ts.flatMap (leBytes 2)
def padTo (n : Nat) (l : List UInt8) : List UInt8 := l ++ List.replicate (n - l.length) 0
def sealS (n : Nat) (l : List UInt8) : List UInt8 := padTo (n - 4) l ++ leBytes 4 (crcL (padTo (n - 4) l))
def layHead (h : Hd) : List UInt8 × Int := if validH h then (sealS 256 (headBytes h), 0) else ([], 1)
def openB (b : List UInt8) : List UInt8 × Int :=
 if b.length < 4 then ([], 5) else if leVal (b.drop (b.length - 4)) = crcL (b.take (b.length - 4)) then (b.take (b.length - 4), 0) else ([], 7)
def targetsIn : Nat → List UInt8 × Int → List Int × List UInt8 × Int
 | 0, x => ([], x.1, x.2)
 | n + 1, x =>
   let a := targetsIn n x
   let b := lowIn 2 a.2.1 a.2.2
   (a.1 ++ [b.1], b.2.1, b.2.2)
def parseH (s : List UInt8) : Hd :=
 let a := lowIn 1 s 0
 let b := lowIn 1 a.2.1 a.2.2
 let c := lowIn 8 b.2.1 b.2.2
 let d := lowIn 2 c.2.1 c.2.2
 ⟨c.1, decide (b.1 = 1), (targetsIn (min d.1 110).toNat d.2).1⟩
def readHead (b : List UInt8) : Hd × Int :=
 if b.length ≠ 256 then (⟨0, false, []⟩, 5)
 else if b.all (fun x => [(0 : UInt8)].contains x) then (⟨0, false, []⟩, 0)
 else if (openB b).2 ≠ 0 then (⟨0, false, []⟩, (openB b).2)
 else if (layHead (parseH (openB b).1)).2 ≠ 0 ∨ (layHead (parseH (openB b).1)).1 ≠ b then (⟨0, false, []⟩, 6)
 else (parseH (openB b).1, 0)
theorem padTo_len {n : Nat} {l : List UInt8} (h : l.length ≤ n) : (padTo n l).length = n := by simp [padTo]; omega
theorem sealS_len {n : Nat} {l : List UInt8} (hn : 4 ≤ n) (h : l.length ≤ n - 4) : (sealS n l).length = n := by
 rw [sealS, List.length_append, padTo_len h, leBytes_len]; omega
theorem flat2_len (ts : List Int) : (ts.flatMap (leBytes 2)).length = 2 * ts.length := by
 induction ts with
 | nil => rfl
 | cons a r ih => rw [List.flatMap_cons, List.length_append, ih, leBytes_len, List.length_cons]; omega
theorem headBytes_len (h : Hd) : (headBytes h).length = 12 + 2 * h.ts.length := by
 simp only [headBytes, List.length_append, leBytes_len, flat2_len]
theorem openB_seal {n : Nat} {l : List UInt8} (hn : 4 ≤ n) (h : l.length ≤ n - 4) : openB (sealS n l) = (padTo (n - 4) l, 0) := by
 have hl := sealS_len hn h
 have hp := padTo_len h
 have e1 : (sealS n l).drop (n - 4) = leBytes 4 (crcL (padTo (n - 4) l)) := by
   rw [sealS, List.drop_append_of_le_length (by omega), List.drop_of_length_le (by omega)]; rfl
 have e2 : (sealS n l).take (n - 4) = padTo (n - 4) l := by
   rw [sealS, List.take_append_of_le_length (by omega), List.take_of_length_le (by omega)]
 unfold openB
 rw [if_neg (by omega), hl, e1, e2, leVal_leBytes, if_pos (Nat.mod_eq_of_lt (crcL_lt _))]
theorem targetsIn_lay (ts : List Int) (hts : ∀ t ∈ ts, 0 ≤ t ∧ t < 65536) (rest : List UInt8) : ∀ m, m ≤ ts.length → targetsIn m (ts.flatMap (leBytes 2) ++ rest, 0) = (ts.take m, (ts.drop m).flatMap (leBytes 2) ++ rest, 0)
 | 0, _ => rfl
 | m + 1, hm => by
   have ih := targetsIn_lay ts hts rest m (by omega)
   have hlt : m < ts.length := by omega
   obtain ⟨h1, h2⟩ := hts ts[m] (List.getElem_mem _)
   have e : ts[m] = ((ts[m].toNat : Nat) : Int) := by omega
   have hd : (ts.drop m).flatMap (leBytes 2) ++ rest = leBytes 2 ((ts[m].toNat : Nat) : Int) ++ ((ts.drop (m + 1)).flatMap (leBytes 2) ++ rest) := by
     rw [List.drop_eq_getElem_cons hlt, List.flatMap_cons, List.append_assoc, ← e]
   simp only [targetsIn, ih, hd]
   rw [lowIn_lay (k := 2) (by have : 256 ^ 2 = 65536 := by decide
                              omega) (by omega), List.take_succ_eq_append_getElem hlt, ← e]
theorem validH_iff (h : Hd) : validH h = true ↔ 0 ≤ h.seq ∧ h.seq ≤ 1099511627776 ∧ h.ts.length ≤ 110 ∧ h.full = decide (0 < h.ts.length) ∧ ∀ i, i < h.ts.length → upTo h.ts i = true := by
 simp only [validH, Bool.and_eq_true, decide_eq_true_eq, List.all_eq_true, List.mem_range]
theorem upTo_range {ts : List Int} (h : ∀ i, i < ts.length → upTo ts i = true) : ∀ t ∈ ts, 0 ≤ t ∧ t < 2000 := by
 intro t ht
 obtain ⟨i, hi, rfl⟩ := List.mem_iff_getElem.1 ht
 have := h i hi
 unfold upTo at this
 rw [List.getElem?_eq_getElem hi] at this
 simp only [Bool.and_eq_true, decide_eq_true_eq] at this
 exact ⟨this.1, this.2.1⟩
theorem parse_lay {h : Hd} (hv : validH h = true) (pad : List UInt8) : parseH (headBytes h ++ pad) = h := by
 obtain ⟨h1, h2, h3, h4, h5⟩ := (validH_iff h).1 hv
 have hr := upTo_range h5
 obtain ⟨seq, full, ts⟩ := h
 simp only at h1 h2 h3 h4 h5 hr
 have es : seq = ((seq.toNat : Nat) : Int) := by omega
 have ef : (if full then (1 : Int) else 0) = (((if full then 1 else 0 : Nat)) : Int) := by cases full <;> rfl
 have e0 : headBytes ⟨seq, full, ts⟩ ++ pad = leBytes 1 ((7 : Nat) : Int) ++ (leBytes 1 (((if full then 1 else 0 : Nat)) : Int) ++ (leBytes 8 ((seq.toNat : Nat) : Int) ++ (leBytes 2 ((ts.length : Nat) : Int) ++ (ts.flatMap (leBytes 2) ++ pad)))) := by
   simp only [headBytes, ← ef, ← es, List.append_assoc]; rfl
 have a1 := lowIn_lay (k := 1) (v := 7) (by decide) (by decide) (leBytes 1 (((if full then 1 else 0 : Nat)) : Int) ++ (leBytes 8 ((seq.toNat : Nat) : Int) ++ (leBytes 2 ((ts.length : Nat) : Int) ++ (ts.flatMap (leBytes 2) ++ pad))))
 have a2 := lowIn_lay (k := 1) (v := if full then 1 else 0) (by split <;> decide) (by split <;> decide) (leBytes 8 ((seq.toNat : Nat) : Int) ++ (leBytes 2 ((ts.length : Nat) : Int) ++ (ts.flatMap (leBytes 2) ++ pad)))
 have a3 := lowIn_lay (k := 8) (v := seq.toNat) (by have : 256 ^ 8 = 18446744073709551616 := by decide
                                                    omega) (by omega) (leBytes 2 ((ts.length : Nat) : Int) ++ (ts.flatMap (leBytes 2) ++ pad))
 have a4 := lowIn_lay (k := 2) (v := ts.length) (by have : 256 ^ 2 = 65536 := by decide
                                                    omega) (by omega) (ts.flatMap (leBytes 2) ++ pad)
 have a5 := targetsIn_lay ts (fun t ht => ⟨(hr t ht).1, by have := (hr t ht).2; omega⟩) pad ts.length (Nat.le_refl _)
 rw [e0]
 simp only [parseH, a1, a2, a3, a4]
 have em : (min (ts.length : Int) 110).toNat = ts.length := by omega
 rw [em, a5, List.take_length, ← es]
 cases full <;> simp
theorem head_first (h : Hd) : ∃ r, headBytes h = 7 :: r := by
 refine ⟨leBytes 1 (if h.full then 1 else 0) ++ leBytes 8 h.seq ++ leBytes 2 h.ts.length ++ h.ts.flatMap (leBytes 2), ?_⟩
 have : leBytes 1 7 = [7] := by decide
 simp [headBytes, this]
/-- what is laid is read again -/
theorem read_lay {h : Hd} (hv : validH h = true) : readHead (layHead h).1 = (h, 0) := by
 have h3 := ((validH_iff h).1 hv).2.2.1
 have hl : (headBytes h).length ≤ 256 - 4 := by rw [headBytes_len]; omega
 have e : layHead h = (sealS 256 (headBytes h), 0) := by simp [layHead, hv]
 have ho := openB_seal (n := 256) (by decide) hl
 have hp : parseH (padTo (256 - 4) (headBytes h)) = h := parse_lay hv _
 rw [e]
 unfold readHead
 have hz : (sealS 256 (headBytes h)).all (fun x => [(0 : UInt8)].contains x) = false := by
   obtain ⟨r, hr⟩ := head_first h
   simp [sealS, padTo, hr]
 simp only [ho, hp, e, sealS_len (n := 256) (by decide) hl, hz]
 simp
end Go.Proofs.YtgacpkgaogiocaaGreatDoor

/- the sum of bytes by halves of bytes: four shifts at once are a look into a table. -/
set_option linter.unusedVariables false
namespace Go.Proofs.YtgacpkgaogiocaaGreatDoor
open Go Go.Vc Go.RowKit Go.Lib
theorem step_xor (a b : Nat) : step (2 * a ^^^ b) = a ^^^ step b := by
 have h1 : (2 * a ^^^ b) % 2 = b % 2 := by
   have h := Nat.xor_mod_two_pow (a := 2 * a) (b := b) (n := 1)
   rw [Nat.pow_one, Nat.mul_mod_right, Nat.zero_xor] at h
   exact h
 have h2 : (2 * a ^^^ b) / 2 = a ^^^ b / 2 := by
   have h := Nat.xor_div_two_pow (a := 2 * a) (b := b) (n := 1)
   rw [Nat.pow_one] at h
   rw [h]; congr 1; omega
 unfold step
 rw [h1, h2]
 split
 · rw [Nat.xor_assoc]
 · rfl
theorem split16 (x : Nat) : (2 * (2 * (2 * (2 * (x / 16))))) ^^^ (x % 16) = x := by
 have e1 : 2 * (2 * (2 * (2 * (x / 16)))) = (x >>> 4) <<< 4 := by rw [Nat.shiftLeft_eq, Nat.shiftRight_eq_div_pow]; omega
 have e2 : x % 16 = x % 2 ^ 4 := rfl
 rw [e1, e2]
 apply Nat.eq_of_testBit_eq
 intro i
 rw [Nat.testBit_xor, Nat.testBit_mod_two_pow, Nat.testBit_shiftLeft, Nat.testBit_shiftRight]
 by_cases h : i < 4
 · have h' : ¬ i ≥ 4 := by omega
   simp [h, h']
 · have h' : i ≥ 4 := by omega
   have e : 4 + (i - 4) = i := by omega
   simp [h, h', e]
theorem step4_split (x : Nat) : step4 x = (x / 16) ^^^ step4 (x % 16) := by
 have h : step4 x = step4 ((2 * (2 * (2 * (2 * (x / 16))))) ^^^ (x % 16)) := by rw [split16]
 rw [h]
 unfold step4
 rw [step_xor, step_xor, step_xor, step_xor]
end Go.Proofs.YtgacpkgaogiocaaGreatDoor
