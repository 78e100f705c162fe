/- crc: one byte that is another one is found. -/
import Derived.Test.YtmokmbhhnbcelaaGreatDoorCl
import Derived.Test.YtmokmbhhnbcelaaGreatDoorCq
set_option linter.unusedVariables false
namespace Go.Proofs.YtmokmbhhnbcelaaGreatDoor
open Go Go.Vc Go.RowKit Go.Lib

theorem half_bit {x : Nat} (h : x < 4294967296) : (x / 2).testBit 31 = false := Nat.testBit_lt_two_pow (by omega)
theorem poly_bit : (3988292384 : Nat).testBit 31 = true := by decide
theorem xor_can {a b p : Nat} (h : a ^^^ p = b ^^^ p) : a = b := by
  have := congrArg (fun n => n ^^^ p) h
  simpa [Nat.xor_assoc] using this
theorem step_inj {x y : Nat} (hx : x < 4294967296) (hy : y < 4294967296) (h : step x = step y) : x = y := by
  unfold step at h
  have key : ∀ a b : Nat, a < 4294967296 → b < 4294967296 → a / 2 ^^^ 3988292384 = b / 2 → False := fun a b ha hb e => by
    have h1 := congrArg (fun n => n.testBit 31) e
    simp only [Nat.testBit_xor, half_bit ha, half_bit hb, poly_bit] at h1
    cases h1
  split at h <;> split at h
  · have := xor_can h
    omega
  · exact (key _ _ hx hy h).elim
  · exact (key _ _ hy hx h.symm).elim
  · omega
theorem step4_inj {x y : Nat} (hx : x < 4294967296) (hy : y < 4294967296) (h : step4 x = step4 y) : x = y :=
  step_inj hx hy (step_inj (step_lt hx) (step_lt hy) (step_inj (step_lt (step_lt hx)) (step_lt (step_lt hy)) (step_inj (step_lt (step_lt (step_lt hx))) (step_lt (step_lt (step_lt hy))) h)))
theorem step4_lt' {x : Nat} (h : x < 4294967296) : step4 x < 4294967296 := step_lt (step_lt (step_lt (step_lt h)))
theorem xorB_lt {x : Nat} (h : x < 4294967296) (b : UInt8) : x ^^^ b.toNat < 4294967296 := Nat.xor_lt_two_pow (n := 32) h (by have := b.toNat_lt; omega)
theorem crcB_inj {x y : Nat} {b c : UInt8} (hx : x < 4294967296) (hy : y < 4294967296) (h : crcB x b = crcB y c) : x ^^^ b.toNat = y ^^^ c.toNat :=
  step4_inj (xorB_lt hx b) (xorB_lt hy c) (step4_inj (step4_lt' (xorB_lt hx b)) (step4_lt' (xorB_lt hy c)) h)
theorem crcF_inj : ∀ (l : List UInt8) {x y : Nat}, x < 4294967296 → y < 4294967296 → l.foldl crcB x = l.foldl crcB y → x = y
  | [], x, y, _, _, h => h
  | b :: r, x, y, hx, hy, h => xor_can (crcB_inj hx hy (crcF_inj r (crcB_lt hx b) (crcB_lt hy b) h))
/-- one byte that is another one makes another sum -/
theorem crc_one {l : Bs} {i : Nat} (hi : i < l.length) {v : UInt8} (hv : l[i] ≠ v) : crcL (l.set i v) ≠ crcL l := by
  intro h
  have h := xor_can h
  have e : l = l.take i ++ l[i] :: l.drop (i + 1) := by rw [← List.drop_eq_getElem_cons hi, List.take_append_drop]
  have e2 : l.set i v = l.take i ++ v :: l.drop (i + 1) := by
    have hl : (l.take i).length = i := by rw [List.length_take]; omega
    have := List.set_append_right (s := l.take i) (t := l[i] :: l.drop (i + 1)) i v (by omega)
    rw [← e, hl, Nat.sub_self] at this
    exact this
  rw [e2] at h
  conv at h => rhs; rw [e]
  rw [List.foldl_append, List.foldl_append, List.foldl_cons, List.foldl_cons] at h
  have hX : (l.take i).foldl crcB 4294967295 < 4294967296 := crcF_lt _ (by decide)
  have h2 := crcB_inj hX hX (crcF_inj _ (crcB_lt hX _) (crcB_lt hX _) h)
  rw [Nat.xor_comm, Nat.xor_comm _ l[i].toNat] at h2
  exact hv (UInt8.toNat_inj.1 (xor_can h2)).symm
theorem leVal_inj : ∀ {a b : List UInt8}, a.length = b.length → leVal a = leVal b → a = b
  | [], [], _, _ => rfl
  | x :: a, y :: b, hl, h => by
    have hx := x.toNat_lt
    have hy := y.toNat_lt
    simp only [leVal] at h
    have h1 : x.toNat = y.toNat := by omega
    have h2 : leVal a = leVal b := by omega
    rw [UInt8.toNat_inj.1 h1, leVal_inj (by simpa using hl) h2]
/-- a sealed text of which one byte is another one is told to be none -/
theorem openB_one {b : Bs} (ho : (openB b).2 = 0) {i : Nat} (hi : i < b.length) {v : UInt8} (hv : b[i] ≠ v) : openB (b.set i v) = ([], 7) := by
  unfold openB at ho ⊢
  split at ho
  · cases ho
  rename_i h4
  split at ho
  case isFalse => cases ho
  rename_i hs
  rw [List.length_set, if_neg h4, if_neg]
  intro h
  by_cases hc : i < b.length - 4
  · rw [List.drop_set_of_lt hc, hs, List.take_set] at h
    have hl : i < (b.take (b.length - 4)).length := by rw [List.length_take]; omega
    refine crc_one hl (v := v) ?_ h.symm
    rw [List.getElem_take]; exact hv
  · have e : (b.set i v).take (b.length - 4) = b.take (b.length - 4) := List.take_set_of_le (by omega)
    rw [e, ← hs] at h
    have := leVal_inj (by simp) h
    have h2 := congrArg (fun l => l[i - (b.length - 4)]?) this
    simp only [List.getElem?_drop] at h2
    rw [show b.length - 4 + (i - (b.length - 4)) = i by omega, List.getElem?_set_self hi, List.getElem?_eq_getElem hi] at h2
    exact hv (Option.some.inj h2).symm
end Go.Proofs.YtmokmbhhnbcelaaGreatDoor

/- chain: of two chains, one that is spoilt; in plain words. -/
set_option linter.unusedVariables false
namespace Go.Proofs.YtmokmbhhnbcelaaGreatDoor
open Go Go.Vc Go.RowKit Go.Lib

theorem readLk_spoilt {x : Lk} (h : LkOk x) {i : Nat} {v : UInt8} (hi : i < 256) (hv : (layLk x).getD i 0 ≠ v) : (readLk ((layLk x).set i v)).2 = false := by
  have hl := layLk_len h
  have ho : openB (layLk x) = (padTo 252 (linkBytes x), 0) := openB_seal (by decide) (by rw [linkBytes_len]; have := h.data; omega)
  have e : (layLk x).getD i 0 = (layLk x)[i]'(by omega) := by simp [show i < (layLk x).length by omega]
  rw [e] at hv
  have := openB_one (b := layLk x) (by rw [ho]) (by omega) hv
  unfold readLk
  rw [this, if_pos (.inl (by decide))]

structure Two (D : DkV) (na nb : Nat) (Lx Ly : Nat → Lk) (Px Py : Nat → Int) : Prop where
  cx : Chn na Lx Px
  cy : Chn nb Ly Py
  hx : HasC D Lx Px na
  hy : HasC D Ly Py nb
  ne : ∀ i j, i < na → j < nb → Px i ≠ Py j

section
variable {D : DkV} {na nb : Nat} {Lx Ly : Nat → Lk} {Px Py : Nat → Int}
theorem HasC.set {L : Nat → Lk} {P : Nat → Int} {n : Nat} (h : HasC D L P n) {a : Int} {t : Bs} (hn : ∀ i, i < n → P i ≠ a) : HasC (setD D a t) L P n := fun i hi => by
  obtain ⟨g1, g2⟩ := get_set D a t (P i)
  rw [g1, g2, if_neg (hn i hi), if_neg (hn i hi)]
  exact h i hi
theorem Two.other (h : Two D na nb Lx Ly Px Py) {i : Nat} (hi : i < na) (t : Bs) : HasC (setD D (Px i) t) Ly Py nb := h.hy.set fun j hj e => h.ne i j hi hj e.symm
theorem Two.bad (h : Two D na nb Lx Ly Px Py) {i : Nat} (hi : i < na) {t : Bs} (hb : ((readLk t).2 && lkStep ((List.range i).map Lx) (readLk t).1) = false) : walkD (setD D (Px i) t) (Px 0) = ([], [], 25) := by
  obtain ⟨g1, g2⟩ := get_set D (Px i) t (Px i)
  rw [if_pos rfl] at g1 g2
  have hf : HasC D Lx Px i := fun j hj => h.hx j (by omega)
  refine h.cx.bad hi (hf.set fun j hj e => ?_) g2 (by rw [g1]; exact hb)
  have := h.cx.inj j i (by omega) hi e
  omega
theorem Two.swap1 (h : Two D na nb Lx Ly Px Py) {i : Nat} (hi : i < na) (h0 : 0 < i) (hn : (Ly 0).number = 0) : walkD (setD D (Px i) (layLk (Ly 0))) (Px 0) = ([], [], 25) := by
  refine h.bad hi ?_
  rw [readLk_lay (h.cy.ok 0 (by have := h.cy.pos; omega))]
  have e : decide ((Ly 0).number = ((List.range i).map Lx).length) = false := by rw [hn]; simp; omega
  unfold lkStep
  simp only [e, Bool.false_and, Bool.and_false]
theorem Two.swap0 (h : Two D na nb Lx Ly Px Py) : ∃ Pz : Nat → Int, Pz 0 = Px 0 ∧ Chn nb Ly Pz ∧ HasC (setD D (Px 0) (layLk (Ly 0))) Ly Pz nb := by
  have hpa := h.cx.pos
  have hpb := h.cy.pos
  refine ⟨fun j => if j = 0 then Px 0 else Py j, rfl, ⟨hpb, fun i j hi hj he => ?_, h.cy.ok, h.cy.step, fun i hi => ?_, fun i hi => ?_⟩, fun i hi => ?_⟩
  · have he : (if i = 0 then Px 0 else Py i) = (if j = 0 then Px 0 else Py j) := he
    by_cases h1 : i = 0
    · by_cases h2 : j = 0
      · omega
      · rw [if_pos h1, if_neg h2] at he
        exact absurd he (h.ne 0 j (by omega) hj)
    · by_cases h2 : j = 0
      · rw [if_neg h1, if_pos h2] at he
        exact absurd he.symm (h.ne 0 i (by omega) hi)
      · rw [if_neg h1, if_neg h2] at he
        exact h.cy.inj i j hi hj he
  · rw [h.cy.next i hi]
    simp only [if_neg (Nat.succ_ne_zero i)]
  · show (if i = 0 then Px 0 else Py i) ≠ 0
    split
    · exact h.cx.nz 0 (by omega)
    · exact h.cy.nz i hi
  · obtain ⟨g1, g2⟩ := get_set D (Px 0) (layLk (Ly 0)) (if i = 0 then Px 0 else Py i)
    rw [g1, g2]
    by_cases h1 : i = 0
    · subst h1
      simp only [if_true]
      exact ⟨trivial, trivial⟩
    · have hne : Py i ≠ Px 0 := fun e => h.ne 0 i (by omega) hi e.symm
      simp only [if_neg h1, if_neg hne]
      exact h.hy i hi
theorem Two.same (h : Two D na nb Lx Ly Px Py) {i : Nat} (hi : i < na) : HasC (setD D (Px i) (layLk (Lx i))) Lx Px na := fun j hj => by
  obtain ⟨g1, g2⟩ := get_set D (Px i) (layLk (Lx i)) (Px j)
  rw [g1, g2]
  by_cases he : Px j = Px i
  · have := h.cx.inj j i hj hi he
    subst this
    simp
  · rw [if_neg he, if_neg he]
    exact h.hx j hj

/-- two chains that Put made, one behind the other -/
theorem Two.puts {gen tag gen' tag' : Int} {a b : Bs} (hg : 1 ≤ gen ∧ gen ≤ 3) (ht : 0 ≤ tag ∧ tag ≤ 200) (hg' : 1 ≤ gen' ∧ gen' ≤ 3) (ht' : 0 ≤ tag' ∧ tag' ≤ 200) (ha : a.length ≤ 9440) (hb : b.length ≤ 9440) (hl : D.bs.length ≤ 2000) (h0 : D.bs.getD 0 false = true)
    (hf : needN a.length + needN b.length ≤ freeN D.bs) :
    Two (putS (putS D gen tag a (needN a.length) (needN a.length)).1 gen' tag' b (needN b.length) (needN b.length)).1 (needN a.length) (needN b.length) (linkP D gen tag a (needN a.length)) (linkP (putS D gen tag a (needN a.length) (needN a.length)).1 gen' tag' b (needN b.length)) (placeP D (needN a.length)) (placeP (putS D gen tag a (needN a.length) (needN a.length)).1 (needN b.length)) := by
  have hbs := putS_bs (D := D) (gen := gen) (tag := tag) (b := a) (n := needN a.length) (needN a.length)
  have hfr := freeN_take (bs := D.bs) (j := needN a.length) (by omega)
  have hpa := needN_pos a.length
  have hh := put_has (D := D) (gen := gen) (tag := tag) (b := a) (by omega)
  have hc := putS_chn (D := D) (gen := gen) (tag := tag) (b := a) hg ht ha rfl (by omega) hl h0
  have hbl : (putS D gen tag a (needN a.length) (needN a.length)).1.bs.length = D.bs.length := by rw [hbs, takeN_len]
  have hf2 : needN b.length ≤ freeN (putS D gen tag a (needN a.length) (needN a.length)).1.bs := by rw [hbs]; omega
  have h02 : (putS D gen tag a (needN a.length) (needN a.length)).1.bs.getD 0 false = true := by
    rw [hbs]
    by_cases hz : 0 < D.bs.length
    · exact (take_get D.bs _ 0 hz).2 (.inl h0)
    · have : D.bs = [] := List.eq_nil_of_length_eq_zero (by omega)
      rw [this] at h0; simp at h0
  have hused : ∀ i, i < needN a.length → usedB (putS D gen tag a (needN a.length) (needN a.length)).1.bs (placeP D (needN a.length) i) = true := fun i hi => by rw [hbs]; exact (place_used hi (by omega)).1
  generalize (putS D gen tag a (needN a.length) (needN a.length)).1 = D1 at *
  have hne : ∀ i j, i < needN a.length → j < needN b.length → placeP D (needN a.length) i ≠ placeP D1 (needN b.length) j := fun i j hi hj e => by
    have h1 := hused i hi
    have h2 := (place_used (D := D1) (n := needN b.length) hj hf2).2
    rw [e] at h1
    simp only [usedB, Bool.and_eq_true, decide_eq_true_eq] at h1
    have h3 := h1.2
    rw [h2] at h3; simp at h3
  refine ⟨hc, putS_chn hg' ht' hb rfl hf2 (by omega) h02, fun i hi => ?_, put_has hf2, hne⟩
  obtain ⟨e1, e2⟩ := put_else (D := D1) (gen := gen') (tag := tag') (b := b) hf2 (a := placeP D (needN a.length) i) fun j hj e => hne i j hi hj e.symm
  rw [e1, e2]
  exact hh i hi
end
end Go.Proofs.YtmokmbhhnbcelaaGreatDoor
