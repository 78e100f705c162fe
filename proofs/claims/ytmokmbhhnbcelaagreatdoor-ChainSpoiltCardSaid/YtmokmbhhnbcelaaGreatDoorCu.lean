/- ChainSizes: the walk. -/
import Derived.Test.YtmokmbhhnbcelaaGreatDoorCq
set_option linter.unusedVariables false
namespace Go.Proofs.YtmokmbhhnbcelaaGreatDoor
open Go Go.Vc Go.RowKit Go.Lib

theorem giveL_get (bs : List Bool) {i : Nat} (hi : i < bs.length) (zs : List Int) : (giveL bs zs).getD i false = (bs.getD i false && decide ((i : Int) ∉ zs)) := by
  refine snoc_ind (P := fun zs => (giveL bs zs).getD i false = (bs.getD i false && decide ((i : Int) ∉ zs))) (by simp [giveL]) (fun l x ih => ?_) zs
  have hl := giveL_len bs l
  rw [giveL_app]
  by_cases hx : x = (i : Int)
  · have e : decide ((i : Int) ∉ l ++ [x]) = false := by simp [hx]
    rw [e, Bool.and_false]
    split
    · have : x.toNat = i := by omega
      rw [this]; simp [hl, hi]
    · rename_i hu
      simp only [usedB, Bool.and_eq_true, decide_eq_true_eq, not_and, Bool.not_eq_true] at hu
      have := hu (by omega) (by omega)
      have e2 : x.toNat = i := by omega
      rw [e2] at this; exact this
  · have e : decide ((i : Int) ∉ l ++ [x]) = decide ((i : Int) ∉ l) := by
      have : ¬ (i : Int) = x := fun h => hx h.symm
      simp [this]
    rw [e]
    split
    · rename_i hu
      simp only [usedB, Bool.and_eq_true, decide_eq_true_eq] at hu
      have : x.toNat ≠ i := by omega
      rw [← ih]
      simp only [List.getD_eq_getElem?_getD]
      rw [List.getElem?_set_ne this]
    · exact ih

/-- what Put took is given back -/
theorem give_take {D : DkV} {n : Nat} (hn : n ≤ freeN D.bs) : giveL (takeN D.bs n) ((List.range n).map (placeP D n)) = D.bs := by
  have hl := takeN_len D.bs n
  refine List.ext_getElem (by rw [giveL_len, hl]) fun i h1 h2 => ?_
  have g := giveL_get (takeN D.bs n) (i := i) (by omega) ((List.range n).map (placeP D n))
  have e1 : (giveL (takeN D.bs n) ((List.range n).map (placeP D n))).getD i false = (giveL (takeN D.bs n) ((List.range n).map (placeP D n)))[i] := by simp [h1]
  have e2 : D.bs.getD i false = D.bs[i] := by simp [h2]
  rw [← e1, ← e2, g, Bool.eq_iff_iff, Bool.and_eq_true, take_get _ _ _ h2, decide_eq_true_eq]
  have hm : (i : Int) ∈ (List.range n).map (placeP D n) ↔ ∃ t, t < n ∧ freeAt (takeN D.bs t) = i := by
    rw [List.mem_map]
    constructor
    · rintro ⟨j, hj, he⟩
      have hj := List.mem_range.1 hj
      unfold placeP at he
      rw [if_pos hj] at he
      exact ⟨n - 1 - j, by omega, by omega⟩
    · rintro ⟨t, ht, he⟩
      refine ⟨n - 1 - t, List.mem_range.2 (by omega), ?_⟩
      unfold placeP
      rw [if_pos (by omega)]
      have : n - 1 - (n - 1 - t) = t := by omega
      rw [this, he]
  rw [hm]
  constructor
  · rintro ⟨h | h, hno⟩
    · exact h
    · exact absurd h hno
  · refine fun h => ⟨.inl h, fun ⟨t, ht, he⟩ => ?_⟩
    have := take_was (bs := D.bs) (t := t) (by omega)
    rw [he, h] at this; cases this

theorem place_ok {D : DkV} {n : Nat} (hn : n ≤ freeN D.bs) (h0 : D.bs.getD 0 false = true) (h1 : D.bs.getD 1 false = true) {i : Nat} (hi : i < n) : 2 ≤ placeP D n i := by
  have h := (place_used hi hn).2
  have hr := (placeP_range D n i).1
  rcases Int.lt_or_le (placeP D n i) 2 with h2 | h2
  · have : (placeP D n i).toNat = 0 ∨ (placeP D n i).toNat = 1 := by omega
    rcases this with e | e <;> rw [e] at h
    · rw [h0] at h; cases h
    · rw [h1] at h; cases h
  · exact h2

theorem drop_ok {D : DkV} {n : Nat} {P : Nat → Int} (hinj : ∀ i j, i < n → j < n → P i = P j → i = j) (hP : ∀ i, i < n → 2 ≤ P i ∧ usedB D.bs (P i) = true) : dropOk D.bs ((List.range n).map P) := fun i hi => by
  have hi' : i < n := by simpa using hi
  have e : ((List.range n).map P)[i] = P i := by simp
  rw [e]
  have := hP i hi'
  refine ⟨by omega, by omega, this.2, fun hm => ?_⟩
  rw [List.mem_take_iff_getElem] at hm
  obtain ⟨j, hj, he⟩ := hm
  simp at hj he
  have := hinj j i (by omega) hi' he
  omega

section
variable {w : World} {X : List As}
theorem Among_st {sl : Sl} {zs : List Int} (hT : Ints w sl zs) (hz : zs.length ≤ 1000000) {x : Int} {R : Bool → World → Prop} (hR : R (decide (x ∈ zs)) w) : F.masonryref1_Among sl x w R := by
  apply E.masonryref1_Among
  unfold V.masonryref1_Among
  try simp (config := { zeta := false }) only [cnd_all]
  have hl := hT.1
  refine ⟨Cnt zs.length fun m w' => w' = w ∧ x ∉ zs.take m, cntM zs.length, Cnt.zero ⟨rfl, by simp⟩, ?_⟩
  rintro _ w1 ⟨m, rfl, hm, rfl, hall⟩
  refine ⟨fun hlt => ?_, fun hge => ?_⟩
  · have hlt : m < zs.length := by omega
    obtain ⟨a, ha, hc⟩ := hT.2 m zs[m] (by simp [hlt])
    refine ⟨a, ha, by omega, by omega, zs[m], by simpa using hc, fun he => ?_, fun he => Cnt.next hlt (by omega) ⟨rfl, ?_⟩⟩
    · have e1 : decide (x ∈ zs) = true := by rw [decide_eq_true_eq, ← he]; exact List.getElem_mem _
      rw [e1] at hR; exact hR
    · rw [List.take_succ_eq_append_getElem hlt]
      simp only [List.mem_append, List.mem_singleton, not_or]
      exact ⟨hall, fun h => he h.symm⟩
  · have hmm : m = zs.length := by omega
    subst hmm
    rw [List.take_length] at hall
    rw [decide_eq_false hall] at hR; exact hR

theorem Ints.take {sl : Sl} {zs : List Int} (hT : Ints w sl zs) {m : Nat} (hm : m ≤ zs.length) (c : Nat) : Ints w ⟨sl.a, m, c⟩ (zs.take m) :=
  ⟨by simp [hm], fun j v hj => by
    rw [List.getElem?_take] at hj
    split at hj
    · exact hT.2 j v hj
    · cases hj⟩

/-- the bytes that are filled in -/
def cycB (s : Bs) (n : Nat) : Bs := (List.range n).map fun i => s.getD (i % s.length) 0
theorem cycB_len (s : Bs) (n : Nat) : (cycB s n).length = n := by simp [cycB]

end
end Go.Proofs.YtmokmbhhnbcelaaGreatDoor
