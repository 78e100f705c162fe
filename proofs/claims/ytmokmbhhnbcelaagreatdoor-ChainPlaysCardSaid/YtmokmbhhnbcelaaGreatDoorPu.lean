/- masonryref1.Put: a number more, at its place. -/
import Derived.Test.YtmokmbhhnbcelaaGreatDoorSq
set_option linter.unusedVariables false
namespace Go.Proofs.YtmokmbhhnbcelaaGreatDoor
open Go Go.Vc Go.RowKit Go.Lib

/-- one more number, at its place, once -/
def putU : List Int → Int → List Int
  | [], x => [x]
  | a :: r, x => if a < x then a :: putU r x else if a = x then a :: r else x :: a :: r

theorem putU_mem : ∀ (l : List Int) (x y : Int), y ∈ putU l x ↔ y = x ∨ y ∈ l
  | [], x, y => by simp [putU]
  | a :: r, x, y => by
    unfold putU
    split
    · simp only [List.mem_cons, putU_mem r x y]
      constructor
      · rintro (h | h | h) <;> simp [h]
      · rintro (h | h | h) <;> simp [h]
    · split
      · rename_i h
        subst h
        simp
      · simp

theorem putU_up : ∀ {l : List Int} {x : Int}, Up l → Up (putU l x)
  | [], x, _ => by simp [putU, Up]
  | a :: r, x, h => by
    obtain ⟨h1, h2⟩ := List.pairwise_cons.1 h
    unfold putU
    split
    · rename_i hlt
      refine List.pairwise_cons.2 ⟨fun y hy => ?_, putU_up h2⟩
      rcases (putU_mem r x y).1 hy with h3 | h3
      · omega
      · exact h1 y h3
    · split
      · exact h
      · refine List.pairwise_cons.2 ⟨fun y hy => ?_, h⟩
        rcases List.mem_cons.1 hy with h3 | h3
        · omega
        · have := h1 y h3; omega

theorem putU_at : ∀ {l : List Int} {x : Int} {k : Nat}, k ≤ l.length → (∀ i, (hi : i < l.length) → i < k → l[i] < x) → (∀ h : k < l.length, ¬ l[k] < x) →
    (∀ h : k < l.length, l[k] = x → putU l x = l) ∧ ((∀ h : k < l.length, l[k] ≠ x) → putU l x = l.take k ++ [x] ++ l.drop k)
  | [], x, k, hk, _, _ => by
    have : k = 0 := by simpa using hk
    subst this
    exact ⟨fun h => absurd h (by simp), fun _ => by simp [putU]⟩
  | a :: r, x, 0, hk, _, h2 => by
    have h2 : ¬ a < x := h2 (by simp)
    unfold putU
    rw [if_neg h2]
    refine ⟨fun _ he => ?_, fun hne => ?_⟩
    · have he : a = x := he
      rw [if_pos he]
    · have hne : a ≠ x := hne (by simp)
      rw [if_neg hne]; simp
  | a :: r, x, k + 1, hk, h1, h2 => by
    have ha : a < x := h1 0 (by simp) (by omega)
    have ih := putU_at (l := r) (x := x) (k := k) (by simpa using hk) (fun i hi hik => h1 (i + 1) (by simpa using hi) (by omega)) (fun h => h2 (by simpa using h))
    unfold putU
    rw [if_pos ha]
    refine ⟨fun h he => by rw [ih.1 (by simpa using h) he], fun hne => by rw [ih.2 (fun h => hne (by simpa using h))]; simp⟩

set_option maxHeartbeats 1000000 in
theorem Put_spec {w : World} {l : Sl} {zs : List Int} {id_ : Int} (hO : Own w T.y_int 1 l (intCells zs)) (hb : zs.length ≤ 1000000) {R : Sl → World → Prop}
    (hR : ∀ l' w', Own w' T.y_int 1 l' (intCells (putU zs id_)) → (∀ k, l'.bk k → l.bk k ∨ w.heap.size ≤ k) → Below w.heap.size w w' → R l' w') : F.masonryref1_Put l id_ w R := by
  obtain ⟨i, hi, hz, hs1, hby⟩ := info_int
  apply E.masonryref1_Put
  unfold V.masonryref1_Put
  have hT := Own.ints hO
  have hlen := hT.1
  have hcap : l.len ≤ l.cap := by
    rcases hO.2 with ⟨h2, h0⟩ | ⟨g, cap, cur, h2, hbg, hgg, hnc, hcm, hcs, htake⟩
    · simp only [Value.slice.injEq] at h2; omega
    · simp only [Value.slice.injEq] at h2; omega
  have hnil : NilOk l := fun ha => (Own.isNil hO ha).1
  refine ⟨fun k w' => w' = w ∧ ∃ m : Nat, k = m ∧ m ≤ zs.length ∧ (∀ i, (hi : i < zs.length) → i < m → zs[i] < id_) ∧ (∀ h : m < zs.length, ¬ zs[m] < id_),
    ⟨fun k w' => w' = w ∧ ∃ m : Nat, k = m ∧ m ≤ zs.length ∧ (∀ i, (hi : i < zs.length) → i < m → zs[i] < id_), fun k _ => (zs.length - k).toNat, ⟨rfl, 0, rfl, Nat.zero_le _, fun _ _ h => absurd h (Nat.not_lt_zero _)⟩, ?_⟩, ?_⟩
  · rintro k w1 ⟨rfl, m, rfl, hm, hlo⟩
    refine ⟨fun hlt => ?_, fun hge => ⟨rfl, m, rfl, hm, hlo, fun h => by have := of_decide_eq_false hge; omega⟩⟩
    have hlt : m < zs.length := by have := of_decide_eq_true hlt; omega
    have e1 : w64 ((m : Int) + 1) = ((m + 1 : Nat) : Int) := by rw [w64_id (by omega) (by omega)]; omega
    obtain ⟨a, ha, hc⟩ := hT.2 m zs[m] (by simp [hlt])
    refine ⟨a, ha, by omega, by omega, zs[m], by simpa using hc, fun h => ⟨⟨rfl, m + 1, e1, hlt, fun i hi hi2 => ?_⟩, ?_⟩, fun h => ⟨rfl, m, rfl, hm, hlo, fun _ => of_decide_eq_false h⟩⟩
    · rcases Nat.lt_succ_iff_lt_or_eq.1 hi2 with h' | h'
      · exact hlo i hi h'
      · subst h'; exact of_decide_eq_true h
    · show ((zs.length : Int) - w64 ((m : Int) + 1)).toNat < ((zs.length : Int) - (m : Int)).toNat
      rw [e1]; omega
  rintro k1 w1 ⟨rfl, k, rfl, hk, hlo, hhi⟩
  obtain ⟨p1, p2⟩ := putU_at hk hlo hhi
  refine ⟨fun w' => w' = w1 ∧ ∀ h : k < zs.length, zs[k] ≠ id_, ⟨fun hlt => ?_, fun hge => ⟨rfl, fun h => by have := of_decide_eq_false hge; omega⟩⟩, ?_⟩
  · have hlt : k < zs.length := by have := of_decide_eq_true hlt; omega
    obtain ⟨a, ha, hc⟩ := hT.2 k zs[k] (by simp [hlt])
    refine ⟨a, ha, by omega, by omega, zs[k], by simpa using hc, fun h => ?_, fun h => ⟨rfl, fun _ => by simpa using h⟩⟩
    have h : zs[k] = id_ := by simpa using h
    exact hR l w1 (by rw [p1 hlt h]; exact hO) (fun _ hk => .inl hk) (Below.refl _ _)
  rintro w2 ⟨rfl, hne⟩
  have hput := p2 hne
  intro w3
  have hB3 : Below w2.heap.size w2 w3 := (Below.refl _ _).drew
  clear_value w3
  refine ⟨by omega, by omega, by omega, by omega, fun w4 hB4 => ?_⟩
  have s3 := hB3.size
  have s4 := hB4.size
  have hT4 := hT.below (hB3.trans (hB4.mono s3))
  rw [slA0 l.a l.cap 1, Int.toNat_natCast]
  have hpre : Ints w4 ⟨l.a, k, l.cap⟩ (zs.take k) := by
    refine ⟨by simp only [List.length_take]; omega, fun j x hj => ?_⟩
    have hlt : j < k := by have := (List.getElem?_eq_some_iff.1 hj).1; simp only [List.length_take] at this; omega
    rw [List.getElem?_take_of_lt hlt] at hj
    exact hT4.2 j x hj
  refine app_any (l := ⟨none, 0, 0⟩) (src := ⟨l.a, k, l.cap⟩) und_ints hi hz hs1 hby rfl (by decide) (Own.nil _ _ _) (fun h => by
      have h' := hnil h
      rw [h'] at hlen
      have : k = 0 := by simp only at hlen; omega
      rw [h', this]) (news := intCells (zs.take k)) (by simp [intCells]; omega) (fun a ha => hpre.cell ha) (intCells_one _) (by simp only [maxLen]; omega) (by simp only; omega) fun l5 w5 hO5 hl5 hF5 hM5 => ?_
  have hF5 : Fr no w4 w5 := hF5.mono (fun k _ hk => bk_nil hk)
  have hO5 : Own w5 T.y_int 1 l5 (intCells (zs.take k)) := by simpa using hO5
  have s5 := hF5.size
  have r5 : ∀ k, l5.bk k → w4.heap.size ≤ k ∧ k < w5.heap.size := fun k hk => ⟨by
    rcases moved_bk hM5 hk with h | h
    · exact bk_nil h
    · exact h, hO5.lt hk⟩
  have hl5' : l5.len = k := by simpa using hl5
  refine ⟨Keep.of hF5 (fun g hg _ => ⟨id, by simp only [inIv, or_false] at hg; omega⟩), fun w6 g hB6 hg _ hgo w7 hB7 => ?_⟩
  have s6 := hB6.size
  have s7 := hB7.size
  have hO7 := (hO5.keep (fr_below hB6) (fun _ _ => id)).keep (fr_below hB7) (fun _ _ => id)
  have hgo7 := (fr_below hB7).heap hgo id
  refine runT_append und_ints hi hz hs1 hby rfl (by decide) hO7 (m := 1) (news := intCells [id_]) rfl (fun j u hu => by rw [blk_cell hgo7 j]; exact hu) (intCells_one _) (by simp only [maxLen]; omega) (by omega) fun l8 w8 hO8 hl8 hF8 hM8 => ?_
  rw [← intCells_app] at hO8
  have s8 := hF8.size
  have r8 : ∀ k, l8.bk k → (w4.heap.size ≤ k ∧ k < w5.heap.size) ∨ (w7.heap.size ≤ k ∧ k < w8.heap.size) := fun k hk => by
    rcases moved_bk hM8 hk with h | h
    · exact .inl (r5 k h)
    · exact .inr ⟨h, hO8.lt hk⟩
  refine ⟨Keep.of hF8 (fun g' hg' hgu => ⟨fun hk => by have := r5 _ hk; simp only [inIv, or_false] at hg'; omega, by simp only [inIv, or_false] at hg'; omega⟩), fun w9 hB9 => ?_⟩
  have s9 := hB9.size
  have hO9 := hO8.keep (fr_below hB9) (fun _ _ => id)
  have b4 : Below w2.heap.size w2 w4 := hB3.trans (hB4.mono s3)
  have b5 := b4.trans ((below_fr hF5).mono b4.size)
  have b6 := b5.trans (hB6.mono b5.size)
  have b7 := b6.trans (hB7.mono b6.size)
  have b8 := b7.trans (hF8.toBelow (B := w2.heap.size) (fun k hk => by have := r5 k hk; omega) b7.size)
  have b9 := b8.trans (hB9.mono b8.size)
  have hT9 := hT.below b9
  have hpost : Ints w9 ⟨slA l.a l.cap k 1, l.len - k, l.cap - k⟩ (zs.drop k) := by
    refine ⟨by simp only [List.length_drop]; omega, fun j x hj => ?_⟩
    have hlt : k + j < zs.length := by have := (List.getElem?_eq_some_iff.1 hj).1; simp only [List.length_drop] at this; omega
    rw [List.getElem?_drop] at hj
    obtain ⟨a, ha, h1⟩ := hT9.2 (k + j) x hj
    have e : slA l.a l.cap k 1 = some (a.add (k * 1)) := by
      unfold slA
      rw [if_neg (by omega), ha]; rfl
    have e2 : k * 1 + j * 1 = (k + j) * 1 := by omega
    exact ⟨_, e, by rw [add_add, e2]; exact h1⟩
  have hl8' : l8.len = k + 1 := by omega
  have hpl := hpost.1
  simp only [List.length_drop] at hpl
  refine app_any (src := ⟨slA l.a l.cap k 1, l.len - k, l.cap - k⟩) und_ints hi hz hs1 hby rfl (by decide) hO9 (fun h => by
      have ha : l.a = none := by
        unfold slA at h
        simp only at h
        split at h
        · exact h
        · cases hs : l.a with
          | none => rfl
          | some x => rw [hs] at h; cases h
      have h' := hnil ha
      rw [h']
      simp [slA]) (news := intCells (zs.drop k)) (by simp [intCells]; omega) (fun a ha => hpost.cell ha) (intCells_one _) (by simp only [maxLen]; omega) (by simp only; omega) fun l10 w10 hO10 hl10 hF10 hM10 => ?_
  rw [← intCells_app, ← hput] at hO10
  have s10 := hF10.size
  refine ⟨Keep.of hF10 (fun g' hg' hgu => ⟨fun hk => by have := r8 _ hk; simp only [inIv, or_false] at hg'; omega, by simp only [inIv, or_false] at hg'; omega⟩), fun w11 hB11 => ?_⟩
  refine hR l10 w11 (hO10.keep (fr_below hB11) (fun _ _ => id)) (fun k hk => .inr ?_) ?_
  · rcases moved_bk hM10 hk with h | h
    · have := r8 k h; omega
    · omega
  · have b10 := b9.trans (hF10.toBelow (B := w2.heap.size) (fun k hk => by have := r8 k hk; omega) b9.size)
    exact b10.trans (hB11.mono b10.size)


theorem Put_st {w : World} {X : List As} {l : Sl} {zs : List Int} {x : Int} (h : St w (Row EI T.y_int l zs :: X)) (hb : zs.length ≤ 1000000) {R : Sl → World → Prop}
    (hR : ∀ l' w', St w' (Row EI T.y_int l' (putU zs x) :: X) → R l' w') : F.masonryref1_Put l x w R := by
  obtain ⟨S, ⟨hO, e⟩, hlt, hX⟩ := h.out
  subst e
  have hO2 : Own w T.y_int 1 l (intCells zs) := by rw [← EI_all]; exact hO
  exact Put_spec hO2 hb fun l' w' h1 h2 h3 => hR l' w' (hX (S' := l'.bk) ⟨by rw [← EI_all] at h1; exact h1, rfl⟩ ((fr_below h3).mono fun _ _ hk => hk.elim) fun k hk => h2 k hk)
end Go.Proofs.YtmokmbhhnbcelaaGreatDoor
