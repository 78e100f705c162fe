/- crc: one byte that is another one is found. -/
import Derived.Test.YtmokmbhhnbcelaaGreatDoorSq
import Derived.Test.YtmokmbhhnbcelaaGreatDoorCq
set_option linter.unusedVariables false
namespace Go.Proofs.YtmokmbhhnbcelaaGreatDoor
open Go Go.Vc Go.RowKit Go.Lib

end Go.Proofs.YtmokmbhhnbcelaaGreatDoor

/- chain: of two chains, one that is spoilt; in plain words. -/
set_option linter.unusedVariables false
namespace Go.Proofs.YtmokmbhhnbcelaaGreatDoor
open Go Go.Vc Go.RowKit Go.Lib

structure Two (D : DkV) (na nb : Nat) (Lx Ly : Nat → Lk) (Px Py : Nat → Int) : Prop where
  cx : Chn na Lx Px
  cy : Chn nb Ly Py
  hx : HasC D Lx Px na
  hy : HasC D Ly Py nb
  ne : ∀ i j, i < na → j < nb → Px i ≠ Py j

section
variable {D : DkV} {na nb : Nat} {Lx Ly : Nat → Lk} {Px Py : Nat → Int}
theorem HasC.set {L : Nat → Lk} {P : Nat → Int} {n : Nat} (h : HasC D L P n) {a : Int} {t : Bs} (hn : ∀ i, i < n → P i ≠ a) : HasC (setD D a t) L P n := fun i hi => by
  obtain ⟨g1, g2⟩ := get_set D a t (P i)
  rw [g1, g2, if_neg (hn i hi), if_neg (hn i hi)]
  exact h i hi
theorem Two.other (h : Two D na nb Lx Ly Px Py) {i : Nat} (hi : i < na) (t : Bs) : HasC (setD D (Px i) t) Ly Py nb := h.hy.set fun j hj e => h.ne i j hi hj e.symm
theorem Two.bad (h : Two D na nb Lx Ly Px Py) {i : Nat} (hi : i < na) {t : Bs} (hb : ((readLk t).2 && lkStep ((List.range i).map Lx) (readLk t).1) = false) : walkD (setD D (Px i) t) (Px 0) = ([], [], 25) := by
  obtain ⟨g1, g2⟩ := get_set D (Px i) t (Px i)
  rw [if_pos rfl] at g1 g2
  have hf : HasC D Lx Px i := fun j hj => h.hx j (by omega)
  refine h.cx.bad hi (hf.set fun j hj e => ?_) g2 (by rw [g1]; exact hb)
  have := h.cx.inj j i (by omega) hi e
  omega
/-- two chains that Put made, one behind the other -/
theorem Two.puts {gen tag gen' tag' : Int} {a b : Bs} (hg : 1 ≤ gen ∧ gen ≤ 3) (ht : 0 ≤ tag ∧ tag ≤ 200) (hg' : 1 ≤ gen' ∧ gen' ≤ 3) (ht' : 0 ≤ tag' ∧ tag' ≤ 200) (ha : a.length ≤ 9440) (hb : b.length ≤ 9440) (hl : D.bs.length ≤ 2000) (h0 : D.bs.getD 0 false = true)
    (hf : needN a.length + needN b.length ≤ freeN D.bs) :
    Two (putS (putS D gen tag a (needN a.length) (needN a.length)).1 gen' tag' b (needN b.length) (needN b.length)).1 (needN a.length) (needN b.length) (linkP D gen tag a (needN a.length)) (linkP (putS D gen tag a (needN a.length) (needN a.length)).1 gen' tag' b (needN b.length)) (placeP D (needN a.length)) (placeP (putS D gen tag a (needN a.length) (needN a.length)).1 (needN b.length)) := by
  have hbs := putS_bs (D := D) (gen := gen) (tag := tag) (b := a) (n := needN a.length) (needN a.length)
  have hfr := freeN_take (bs := D.bs) (j := needN a.length) (by omega)
  have hpa := needN_pos a.length
  have hh := put_has (D := D) (gen := gen) (tag := tag) (b := a) (by omega)
  have hc := putS_chn (D := D) (gen := gen) (tag := tag) (b := a) hg ht ha rfl (by omega) hl h0
  have hbl : (putS D gen tag a (needN a.length) (needN a.length)).1.bs.length = D.bs.length := by rw [hbs, takeN_len]
  have hf2 : needN b.length ≤ freeN (putS D gen tag a (needN a.length) (needN a.length)).1.bs := by rw [hbs]; omega
  have h02 : (putS D gen tag a (needN a.length) (needN a.length)).1.bs.getD 0 false = true := by
    rw [hbs]
    by_cases hz : 0 < D.bs.length
    · exact (take_get D.bs _ 0 hz).2 (.inl h0)
    · have : D.bs = [] := List.eq_nil_of_length_eq_zero (by omega)
      rw [this] at h0; simp at h0
  have hused : ∀ i, i < needN a.length → usedB (putS D gen tag a (needN a.length) (needN a.length)).1.bs (placeP D (needN a.length) i) = true := fun i hi => by rw [hbs]; exact (place_used hi (by omega)).1
  generalize (putS D gen tag a (needN a.length) (needN a.length)).1 = D1 at *
  have hne : ∀ i j, i < needN a.length → j < needN b.length → placeP D (needN a.length) i ≠ placeP D1 (needN b.length) j := fun i j hi hj e => by
    have h1 := hused i hi
    have h2 := (place_used (D := D1) (n := needN b.length) hj hf2).2
    rw [e] at h1
    simp only [usedB, Bool.and_eq_true, decide_eq_true_eq] at h1
    have h3 := h1.2
    rw [h2] at h3; simp at h3
  refine ⟨hc, putS_chn hg' ht' hb rfl hf2 (by omega) h02, fun i hi => ?_, put_has hf2, hne⟩
  obtain ⟨e1, e2⟩ := put_else (D := D1) (gen := gen') (tag := tag') (b := b) hf2 (a := placeP D (needN a.length) i) fun j hj e => hne i j hi hj e.symm
  rw [e1, e2]
  exact hh i hi
end
end Go.Proofs.YtmokmbhhnbcelaaGreatDoor
