/- chain: which chain is where; in plain words. -/
import Derived.Test.YtmokmbhhnbcelaaGreatDoorCn
set_option linter.unusedVariables false
namespace Go.Proofs.YtmokmbhhnbcelaaGreatDoor
open Go Go.Vc Go.RowKit Go.Lib

/-! ### Sectors that are free -/
def freeN (bs : List Bool) : Nat := bs.countP fun b => !b
def takeN (bs : List Bool) : Nat → List Bool
  | 0 => bs
  | j + 1 => (takeN bs j).set (freeAt (takeN bs j)) true
theorem takeN_len (bs : List Bool) : ∀ j, (takeN bs j).length = bs.length
  | 0 => rfl
  | j + 1 => by rw [takeN, List.length_set, takeN_len bs j]
theorem freeN_pos {bs : List Bool} : freeAt bs < bs.length ↔ 0 < freeN bs := by
  unfold freeAt freeN
  rw [List.findIdx_lt_length, List.countP_pos_iff]
theorem freeN_set : ∀ {bs : List Bool}, freeAt bs < bs.length → freeN (bs.set (freeAt bs) true) + 1 = freeN bs
  | [], h => by simp at h
  | b :: r, h => by
    cases b
    · have e : freeAt (false :: r) = 0 := by simp [freeAt, List.findIdx_cons]
      rw [e]; simp [freeN]
    · have e : freeAt (true :: r) = freeAt r + 1 := by simp [freeAt, List.findIdx_cons]
      rw [e] at h ⊢
      have ih := freeN_set (bs := r) (by simpa using h)
      simpa [freeN] using ih
theorem freeN_take {bs : List Bool} : ∀ {j : Nat}, j ≤ freeN bs → freeN (takeN bs j) + j = freeN bs
  | 0, _ => rfl
  | j + 1, h => by
    have ih := freeN_take (bs := bs) (j := j) (by omega)
    have h2 : freeAt (takeN bs j) < (takeN bs j).length := freeN_pos.2 (by omega)
    have := freeN_set h2
    rw [takeN]; omega
theorem take_lt {bs : List Bool} {j : Nat} (h : j < freeN bs) : freeAt (takeN bs j) < bs.length := by
  have := freeN_take (bs := bs) (j := j) (by omega)
  rw [← takeN_len bs j]
  exact freeN_pos.2 (by omega)
theorem take_full {bs : List Bool} : freeAt (takeN bs (freeN bs)) = bs.length := by
  have h1 := freeN_take (bs := bs) (j := freeN bs) (Nat.le_refl _)
  have h2 : ¬ freeAt (takeN bs (freeN bs)) < (takeN bs (freeN bs)).length := fun h => by have := freeN_pos.1 h; omega
  have h3 : freeAt (takeN bs (freeN bs)) ≤ (takeN bs (freeN bs)).length := List.findIdx_le_length
  rw [takeN_len] at h2 h3; omega
theorem take_get (bs : List Bool) : ∀ (j i : Nat), i < bs.length → ((takeN bs j).getD i false = true ↔ bs.getD i false = true ∨ ∃ t, t < j ∧ freeAt (takeN bs t) = i)
  | 0, i, hi => by simp [takeN]
  | j + 1, i, hi => by
    have ih := take_get bs j i hi
    have hl := takeN_len bs j
    rw [takeN]
    by_cases he : freeAt (takeN bs j) = i
    · have : ((takeN bs j).set (freeAt (takeN bs j)) true).getD i false = true := by rw [he]; simp [hl, hi]
      rw [this]
      simp only [true_iff]
      exact .inr ⟨j, Nat.lt_succ_self j, he⟩
    · have : ((takeN bs j).set (freeAt (takeN bs j)) true).getD i false = (takeN bs j).getD i false := by
        simp only [List.getD_eq_getElem?_getD]
        rw [List.getElem?_set_ne he]
      rw [this, ih]
      constructor
      · rintro (h | ⟨t, ht, h⟩)
        · exact .inl h
        · exact .inr ⟨t, by omega, h⟩
      · rintro (h | ⟨t, ht, h⟩)
        · exact .inl h
        · rcases Nat.lt_succ_iff_lt_or_eq.1 ht with h2 | h2
          · exact .inr ⟨t, h2, h⟩
          · subst h2; exact absurd h he
theorem take_ne {bs : List Bool} {s t : Nat} (hst : s < t) (ht : t < freeN bs) : freeAt (takeN bs s) ≠ freeAt (takeN bs t) := fun e => by
  have h1 := take_lt ht
  have h2 : freeAt (takeN bs t) < (takeN bs t).length := by rw [takeN_len]; exact h1
  have h3 := free_false h2
  have h4 := (take_get bs t _ h1).2 (.inr ⟨s, hst, e⟩)
  rw [h3] at h4; cases h4
theorem take_was {bs : List Bool} {t : Nat} (ht : t < freeN bs) : bs.getD (freeAt (takeN bs t)) false = false := by
  have h1 := take_lt ht
  have h3 := free_false (bs := takeN bs t) (by rw [takeN_len]; exact h1)
  cases h : bs.getD (freeAt (takeN bs t)) false with
  | false => rfl
  | true => rw [(take_get bs t _ h1).2 (.inl h)] at h3; cases h3
theorem freeN_all (bs : List Bool) : bs.length - (allL bs bs.length).length = freeN bs := by
  have h1 : ∀ m, m ≤ bs.length → (allL bs m).length = (bs.take m).countP id := by
    intro m
    induction m with
    | zero => intro _; rfl
    | succ m ih =>
      intro hm
      have ih := ih (by omega)
      rw [allL_succ, List.take_succ_eq_append_getElem (by omega), List.countP_append]
      have e : bs.getD m false = bs[m] := by simp [show m < bs.length by omega]
      rw [e]
      cases bs[m] <;> simp [ih]
  have h2 : bs.countP id + freeN bs = bs.length := by
    unfold freeN
    rw [List.length_eq_countP_add_countP (p := id)]
    congr 2
    funext x
    cases x <;> rfl
  have := h1 bs.length (Nat.le_refl _)
  rw [List.take_length] at this
  omega

/-! ### What a desk tells of sectors behind a change -/
theorem mem_keysW {ws : List Wr1} {p : Wr1} {a : Int} : a ∈ keysW (ws ++ [p]) ↔ a ∈ keysW ws ∨ a = p.1 := by simp [keysW]
theorem get_new (D : DkV) (v : Bs) (a : Int) : getD (newD' D v) a = (if a = (freeAt D.bs : Int) then v else getD D a) ∧ getE (newD' D v) a = if a = (freeAt D.bs : Int) then 0 else getE D a := by
  unfold getD getE newD'
  simp only [mem_keysW, lastW_app, List.length_set]
  by_cases h : a = (freeAt D.bs : Int)
  · simp [h]
  · have h2 : ¬ (freeAt D.bs : Int) = a := fun e => h e.symm
    simp [h, h2]
theorem get_set (D : DkV) (b : Int) (v : Bs) (a : Int) : getD (setD D b v) a = (if a = b then v else getD D a) ∧ getE (setD D b v) a = if a = b then 0 else getE D a := by
  unfold getD getE setD
  simp only [mem_keysW, lastW_app]
  by_cases h : a = b
  · simp [h]
  · have h2 : ¬ b = a := fun e => h e.symm
    simp [h, h2]

/-! ### Chains -/
structure Chn (n : Nat) (L : Nat → Lk) (P : Nat → Int) : Prop where
  pos : 1 ≤ n ∧ n ≤ 40
  inj : ∀ i j, i < n → j < n → P i = P j → i = j
  ok : ∀ i, i < n → LkOk (L i)
  step : ∀ i, i < n → lkStep ((List.range i).map L) (L i) = true
  next : ∀ i, i < n → (L i).next = if i + 1 < n then P (i + 1) else 0
  nz : ∀ i, i < n → P i ≠ 0
/-- its first m sectors are there -/
def HasC (D : DkV) (L : Nat → Lk) (P : Nat → Int) (m : Nat) : Prop := ∀ i, i < m → getE D (P i) = 0 ∧ getD D (P i) = layLk (L i)

theorem Chn.to {n : Nat} {L : Nat → Lk} {P : Nat → Int} (h : Chn n L P) {D : DkV} : ∀ {j : Nat}, j < n → HasC D L P j → walkD D (P 0) = walkC D (41 - j) ((List.range j).map L) ((List.range j).map P) (P j)
  | 0, _, _ => rfl
  | j + 1, hj, hg => by
    rw [h.to (j := j) (by omega) (fun i hi => hg i (by omega))]
    have hp := h.pos
    have e1 : 41 - j = (40 - j) + 1 := by omega
    rw [e1, walkC]
    have hn : ¬ (P j ∈ (List.range j).map P ∨ 40 ≤ ((List.range j).map L).length) := by
      rintro (hm | hm)
      · obtain ⟨i, hi, he⟩ := List.mem_map.1 hm
        have hi := List.mem_range.1 hi
        have := h.inj i j (by omega) (by omega) he
        omega
      · simp at hm; omega
    obtain ⟨g1, g2⟩ := hg j (Nat.lt_succ_self j)
    rw [if_neg hn, if_neg (by simp [g1]), g2, readLk_lay (h.ok j (by omega))]
    have hs := h.step j (by omega)
    have hx := h.next j (by omega)
    rw [if_pos hj] at hx
    simp only [Bool.true_and, hs, if_true]
    rw [if_neg (by rw [hx]; exact h.nz _ hj), hx]
    have e2 : 40 - j = 41 - (j + 1) := by omega
    rw [e2, List.range_succ, List.map_append, List.map_append]
    rfl

theorem Chn.walk {n : Nat} {L : Nat → Lk} {P : Nat → Int} (h : Chn n L P) {D : DkV} (hg : HasC D L P n) : walkD D (P 0) = ((List.range n).map L, (List.range n).map P, 0) := by
  have hp := h.pos
  obtain ⟨j, rfl⟩ : ∃ j, n = j + 1 := ⟨n - 1, by omega⟩
  rw [h.to (j := j) (Nat.lt_succ_self j) (fun i hi => hg i (by omega))]
  have e1 : 41 - j = (40 - j) + 1 := by omega
  rw [e1, walkC]
  have hn : ¬ (P j ∈ (List.range j).map P ∨ 40 ≤ ((List.range j).map L).length) := by
    rintro (hm | hm)
    · obtain ⟨i, hi, he⟩ := List.mem_map.1 hm
      have hi := List.mem_range.1 hi
      have := h.inj i j (by omega) (by omega) he
      omega
    · simp at hm; omega
  obtain ⟨g1, g2⟩ := hg j (Nat.lt_succ_self j)
  rw [if_neg hn, if_neg (by simp [g1]), g2, readLk_lay (h.ok j (by omega))]
  have hs := h.step j (by omega)
  have hx := h.next j (by omega)
  rw [if_neg (by omega)] at hx
  simp only [Bool.true_and, hs, if_true]
  rw [if_pos hx, List.range_succ, List.map_append, List.map_append]
  rfl

/-- a sector that is none, or not the one that should be there -/
theorem Chn.bad {n : Nat} {L : Nat → Lk} {P : Nat → Int} (h : Chn n L P) {D : DkV} {j : Nat} (hj : j < n) (hg : HasC D L P j) (he : getE D (P j) = 0)
    (hb : ((readLk (getD D (P j))).2 && lkStep ((List.range j).map L) (readLk (getD D (P j))).1) = false) : walkD D (P 0) = ([], [], 25) := by
  rw [h.to hj hg]
  have hp := h.pos
  have e1 : 41 - j = (40 - j) + 1 := by omega
  rw [e1, walkC]
  split
  · rfl
  · rw [if_neg (by simp [he]), if_neg (by rw [hb]; decide)]

/-! ### What Put makes -/
def needN (len : Nat) : Nat := if len = 0 then 1 else (len - 1) / 236 + 1
def partB (b : Bs) (i : Nat) : Bs := (b.drop (i * 236)).take 236
def lkOf (gen tag : Int) (b : Bs) (i : Nat) (next : Int) : Lk := ⟨gen, tag, i, if i = 0 then 1 else 0, next, partB b i⟩
def putS (D : DkV) (gen tag : Int) (b : Bs) (n : Nat) : Nat → DkV × Int
  | 0 => (D, 0)
  | j + 1 => (newD' (putS D gen tag b n j).1 (layLk (lkOf gen tag b (n - 1 - j) (putS D gen tag b n j).2)), freeAt (putS D gen tag b n j).1.bs)

section
variable {D : DkV} {gen tag : Int} {b : Bs} {n : Nat}
theorem putS_bs : ∀ j, (putS D gen tag b n j).1.bs = takeN D.bs j
  | 0 => rfl
  | j + 1 => by rw [putS, takeN, ← putS_bs j]; rfl
theorem putS_same : ∀ j, (putS D gen tag b n j).1.d = D.d ∧ (putS D gen tag b n j).1.seq = D.seq ∧ (putS D gen tag b n j).1.commits = D.commits ∧ (putS D gen tag b n j).1.syncs = D.syncs
  | 0 => ⟨rfl, rfl, rfl, rfl⟩
  | j + 1 => putS_same j
theorem putS_back (j : Nat) : backD (putS D gen tag b n j).1 D = D := by
  obtain ⟨h1, h2, h3, h4⟩ := putS_same (D := D) (gen := gen) (tag := tag) (b := b) (n := n) j
  unfold backD
  rw [h1, h2, h3, h4]
/-- where the piece i of a chain of n lies -/
def placeP (D : DkV) (n i : Nat) : Int := if i < n then (freeAt (takeN D.bs (n - 1 - i)) : Int) else 0
def linkP (D : DkV) (gen tag : Int) (b : Bs) (n i : Nat) : Lk := lkOf gen tag b i (placeP D n (i + 1))
theorem putS_at : ∀ j, j ≤ n → (putS D gen tag b n j).2 = placeP D n (n - j)
  | 0, _ => by unfold placeP; rw [if_neg (by omega)]; rfl
  | j + 1, hj => by
    unfold placeP
    rw [if_pos (by omega), putS, putS_bs]
    have : n - 1 - (n - (j + 1)) = j := by omega
    rw [this]
theorem putS_get : ∀ j, j ≤ n → j ≤ freeN D.bs →
    (∀ i, n - j ≤ i → i < n → getE (putS D gen tag b n j).1 (placeP D n i) = 0 ∧ getD (putS D gen tag b n j).1 (placeP D n i) = layLk (linkP D gen tag b n i)) ∧
    (∀ a : Int, (∀ i, n - j ≤ i → i < n → placeP D n i ≠ a) → getE (putS D gen tag b n j).1 a = getE D a ∧ getD (putS D gen tag b n j).1 a = getD D a)
  | 0, _, _ => ⟨fun i h1 h2 => by omega, fun a _ => ⟨rfl, rfl⟩⟩
  | j + 1, hj, hf => by
    obtain ⟨ih1, ih2⟩ := putS_get j (by omega) (by omega)
    have hg := get_new (putS D gen tag b n j).1 (layLk (lkOf gen tag b (n - 1 - j) (putS D gen tag b n j).2))
    have hp : placeP D n (n - 1 - j) = (freeAt (putS D gen tag b n j).1.bs : Int) := by
      unfold placeP
      rw [if_pos (by omega), putS_bs]
      have : n - 1 - (n - 1 - j) = j := by omega
      rw [this]
    have hne : ∀ i, n - j ≤ i → i < n → placeP D n i ≠ (freeAt (putS D gen tag b n j).1.bs : Int) := fun i h1 h2 he => by
      unfold placeP at he
      rw [if_pos h2, putS_bs] at he
      have := take_ne (bs := D.bs) (s := n - 1 - i) (t := j) (by omega) (by omega)
      omega
    rw [putS]
    simp only
    refine ⟨fun i h1 h2 => ?_, fun a ha => ?_⟩
    · by_cases hi : i = n - 1 - j
      · subst hi
        rw [(hg _).1, (hg _).2, hp, if_pos rfl, if_pos rfl]
        refine ⟨rfl, ?_⟩
        unfold linkP
        rw [putS_at j (by omega)]
        have : n - 1 - j + 1 = n - j := by omega
        rw [this]
      · have h3 := hne i (by omega) h2
        rw [(hg _).1, (hg _).2, if_neg h3, if_neg h3]
        exact ih1 i (by omega) h2
    · have h3 : a ≠ (freeAt (putS D gen tag b n j).1.bs : Int) := fun e => ha (n - 1 - j) (by omega) (by omega) (hp.trans e.symm)
      rw [(hg _).1, (hg _).2, if_neg h3, if_neg h3]
      exact ih2 a fun i h1 h2 => ha i (by omega) h2

theorem needN_pos (l : Nat) : 1 ≤ needN l := by unfold needN; split <;> omega
theorem partB_len (i : Nat) : (partB b i).length = min 236 (b.length - i * 236) := by simp [partB]
theorem partB_full {i : Nat} (h : i + 1 < needN b.length) : (partB b i).length = 236 := by
  rw [partB_len]
  unfold needN at h
  split at h <;> omega
theorem partB_ne {i : Nat} (h : i < needN b.length) (h0 : 0 < i) : partB b i ≠ [] := fun e => by
  have := partB_len (b := b) i
  rw [e] at this
  unfold needN at h
  split at h
  · omega
  · simp at this; omega
theorem partB_all : ∀ m, ((List.range m).map (partB b)).flatten = b.take (m * 236)
  | 0 => by simp
  | m + 1 => by
    rw [List.range_succ, List.map_append, List.flatten_append, partB_all m]
    simp only [List.map_cons, List.map_nil, List.flatten_cons, List.flatten_nil, List.append_nil, partB]
    rw [Nat.add_mul, Nat.one_mul, List.take_add]
theorem partB_whole (h : b.length ≤ 9440) : ((List.range (needN b.length)).map (partB b)).flatten = b := by
  rw [partB_all, List.take_of_length_le]
  unfold needN
  split <;> omega

/-- a chain that Put made -/
theorem putS_chn (hg : 1 ≤ gen ∧ gen ≤ 3) (ht : 0 ≤ tag ∧ tag ≤ 200) (hb : b.length ≤ 9440) (hn : n = needN b.length) (hf : n ≤ freeN D.bs) (hl : D.bs.length ≤ 2000) (h0 : D.bs.getD 0 false = true) :
    Chn n (linkP D gen tag b n) (placeP D n) := by
  have hn1 := needN_pos b.length
  have hn2 : n ≤ 40 := by rw [hn]; unfold needN; split <;> omega
  have hpl : ∀ i, i < n → placeP D n i = (freeAt (takeN D.bs (n - 1 - i)) : Int) ∧ freeAt (takeN D.bs (n - 1 - i)) < D.bs.length := fun i hi => ⟨by unfold placeP; rw [if_pos hi], take_lt (by omega)⟩
  have hnz : ∀ i, i < n → placeP D n i ≠ 0 := fun i hi he => by
    rw [(hpl i hi).1] at he
    have h1 := take_was (bs := D.bs) (t := n - 1 - i) (by omega)
    have h2 : freeAt (takeN D.bs (n - 1 - i)) = 0 := by omega
    rw [h2, h0] at h1; cases h1
  refine ⟨⟨by omega, hn2⟩, fun i j hi hj he => ?_, fun i hi => ?_, fun i hi => ?_, fun i hi => ?_, hnz⟩
  · rw [(hpl i hi).1, (hpl j hj).1] at he
    rcases Nat.lt_trichotomy i j with h | h | h
    · exact absurd (by omega : freeAt (takeN D.bs (n - 1 - j)) = freeAt (takeN D.bs (n - 1 - i))) (take_ne (by omega) (by omega))
    · exact h
    · exact absurd (by omega : freeAt (takeN D.bs (n - 1 - i)) = freeAt (takeN D.bs (n - 1 - j))) (take_ne (by omega) (by omega))
  · refine ⟨hg, ht, ⟨by show (0 : Int) ≤ (i : Int); omega, by show (i : Int) < 256; omega⟩, ?_, ?_, ?_⟩
    · show 0 ≤ (if i = 0 then (1 : Int) else 0) ∧ (if i = 0 then (1 : Int) else 0) < 65536
      split <;> omega
    · show 0 ≤ placeP D n (i + 1) ∧ placeP D n (i + 1) < 65536
      by_cases h : i + 1 < n
      · have := hpl (i + 1) h; omega
      · unfold placeP; rw [if_neg h]; omega
    · show (partB b i).length ≤ 236
      rw [partB_len]; omega
  · have hd : decide ((linkP D gen tag b n i).next = 0) = true ∨ decide ((linkP D gen tag b n i).data.length = 236) = true := by
      by_cases h : i + 1 < n
      · right
        rw [decide_eq_true_eq]
        exact partB_full (by omega)
      · left
        rw [decide_eq_true_eq]
        show placeP D n (i + 1) = 0
        unfold placeP; rw [if_neg h]
    have hnum : (linkP D gen tag b n i).number = ((List.range i).map (linkP D gen tag b n)).length := by simp; rfl
    unfold lkStep
    rcases i with _ | i
    · simp only [hnum, decide_true, Bool.true_and]
      simp only [List.range_zero, List.map_nil, Bool.true_and]
      rcases hd with h | h <;> simp [h]
    · have e : (List.range (i + 1)).map (linkP D gen tag b n) = linkP D gen tag b n 0 :: (List.range i).map fun t => linkP D gen tag b n (t + 1) := by
        rw [List.range_succ_eq_map]; simp [Function.comp_def]
      rw [e] at hnum ⊢
      have h1 : partB b (i + 1) ≠ [] := partB_ne (by omega) (by omega)
      have h2 : (linkP D gen tag b n (i + 1)).data ≠ [] := h1
      have h3 : (linkP D gen tag b n (i + 1)).refs = 0 := rfl
      have h4 : (linkP D gen tag b n (i + 1)).gen = (linkP D gen tag b n 0).gen := rfl
      have h5 : (linkP D gen tag b n (i + 1)).tag = (linkP D gen tag b n 0).tag := rfl
      simp only [hnum, h2, h3, h4, h5, decide_true, Bool.true_and, ne_eq, not_false_iff]
      rcases hd with h | h <;> simp [h]
  · show placeP D n (i + 1) = _
    by_cases h : i + 1 < n
    · rw [if_pos h]
    · rw [if_neg h]; unfold placeP; rw [if_neg h]
end
end Go.Proofs.YtmokmbhhnbcelaaGreatDoor

/- chain: Need, Put, Sectors, Get, Refs, Drop. -/
set_option linter.unusedVariables false
namespace Go.Proofs.YtmokmbhhnbcelaaGreatDoor
open Go Go.Vc Go.RowKit Go.Lib

section
variable {w : World} {X : List As} {k g c : Nat} {D : DkV}
theorem Need_chain {n : Nat} (hn : n ≤ 1000000000) {R : Int → World → Prop} (hR : R (needN n : Int) w) : F.chain_Need (n : Int) w R := by
  apply E.chain_Need
  unfold V.chain_Need
  try simp (config := { zeta := false }) only [cnd_all]
  refine ⟨fun h => by omega, fun _ => ⟨fun h => ?_, fun h => ⟨by decide, ?_⟩⟩⟩
  · have e : needN n = 1 := by unfold needN; rw [if_pos (by omega)]
    rw [e] at hR; exact hR
  · have e1 : w64 ((n : Int) - 1) = ((n - 1 : Nat) : Int) := by rw [w64_id (by omega) (by omega)]; omega
    have e2 : (((n - 1 : Nat) : Int)).tdiv 236 = (((n - 1) / 236 : Nat) : Int) := (Int.ofNat_tdiv (n - 1) 236).symm
    have e3 : w64 (((n - 1) / 236 : Nat) : Int) = (((n - 1) / 236 : Nat) : Int) := w64_id (by omega) (by omega)
    rw [e1, e2, e3, w64_id (by omega) (by omega)]
    have e : (needN n : Int) = (((n - 1) / 236 : Nat) : Int) + 1 := by unfold needN; rw [if_neg (by omega)]; omega
    rw [e] at hR; exact hR

theorem lkOf_ok {gen tag next : Int} {b : Bs} {i : Nat} (hg : 1 ≤ gen ∧ gen ≤ 3) (ht : 0 ≤ tag ∧ tag ≤ 200) (hi : i < 256) (hn : 0 ≤ next ∧ next < 65536) : LkOk (lkOf gen tag b i next) := by
  refine ⟨hg, ht, ⟨by show (0 : Int) ≤ (i : Int); omega, by show (i : Int) < 256; omega⟩, ?_, hn, ?_⟩
  · show 0 ≤ (if i = 0 then (1 : Int) else 0) ∧ (if i = 0 then (1 : Int) else 0) < 65536
    split <;> omega
  · show (partB b i).length ≤ 236
    rw [partB_len]; omega
theorem placeP_range (D : DkV) (n i : Nat) : 0 ≤ placeP D n i ∧ placeP D n i ≤ D.bs.length := by
  unfold placeP
  split
  · have : freeAt (takeN D.bs (n - 1 - i)) ≤ (takeN D.bs (n - 1 - i)).length := List.findIdx_le_length
    rw [takeN_len] at this
    omega
  · omega

set_option maxHeartbeats 1000000 in
theorem Put_chain (h : St w (DeskS k g c D :: X)) {gen tag : Int} {b : Bs} (hg : 1 ≤ gen ∧ gen ≤ 3) (ht : 0 ≤ tag ∧ tag ≤ 200) (hb : b.length ≤ 9440) (hc : c ≤ 900000) {R : Int → Int → World → Prop}
    (hF : ∀ w', freeN D.bs < needN b.length → St w' (DeskS k g (c + 40) D :: X) → R 0 20 w')
    (hR : ∀ w', needN b.length ≤ freeN D.bs → St w' (DeskS k g (c + 40) (putS D gen tag b (needN b.length) (needN b.length)).1 :: X) → R (placeP D (needN b.length) 0) 0 w') : F.chain_Put (some (blk k)) gen tag (tx b) w R := by
  apply E.chain_Put
  unfold V.chain_Put
  try simp (config := { zeta := false }) only [cnd_all]
  have hk := DeskS.ok h
  have hbl := hk.bsl
  refine ⟨fun v w' => v = false ∧ w' = w, ⟨fun h => by omega, fun _ => ⟨fun h => by omega, fun _ => ⟨fun h => by omega, fun _ => ⟨decide_eq_false (by omega), rfl⟩⟩⟩⟩, ?_⟩
  rintro v w' ⟨rfl, rfl⟩
  refine ⟨fun h => (by cases h), fun _ => ⟨fun h => by omega, fun _ => Mark_st h fun r mb w1 h1 => ?_⟩⟩
  intro wa1
  replace h1 : St wa1 (Cs _ _ _ :: _) := h1.new _ _
  clear_value wa1
  refine ⟨h1.wr0 (by simp), ?_⟩
  intro wa2
  replace h1 : St wa2 _ := h1.set0 _
  clear_value wa2
  refine ⟨h1.wr (by simp), ?_⟩
  intro wa3
  replace h1 : St wa3 _ := h1.set 1 _
  clear_value wa3
  refine ⟨h1.wr (by simp), ?_⟩
  intro wa4
  replace h1 : St wa4 _ := h1.set 2 _
  clear_value wa4
  refine ⟨h1.wr (by simp), ?_⟩
  intro wa5
  replace h1 : St wa5 _ := h1.set 3 _
  clear_value wa5
  simp only [List.set_cons_zero, List.set_cons_succ] at h1
  generalize w1.heap.size = z at *
  have hN1 := needN_pos b.length
  have hN2 : needN b.length ≤ 40 := by unfold needN; split <;> omega
  refine Need_chain (by omega) ?_
  have hS := fun j => putS_same (D := D) (gen := gen) (tag := tag) (b := b) (n := needN b.length) j
  have hBs := fun j => putS_bs (D := D) (gen := gen) (tag := tag) (b := b) (n := needN b.length) j
  have hAt := fun j => putS_at (D := D) (gen := gen) (tag := tag) (b := b) (n := needN b.length) j
  have hSu : ∀ j, putS D gen tag b (needN b.length) (j + 1) = (newD' (putS D gen tag b (needN b.length) j).1 (layLk (lkOf gen tag b (needN b.length - 1 - j) (putS D gen tag b (needN b.length) j).2)), (freeAt (putS D gen tag b (needN b.length) j).1.bs : Int)) := fun j => rfl
  have hB := fun j => putS_back (D := D) (gen := gen) (tag := tag) (b := b) (n := needN b.length) j
  generalize hN : needN b.length = N at *
  refine ⟨fun at_ n2 w' => ∃ j : Nat, j ≤ N ∧ n2 = (N : Int) - 1 - j ∧ at_ = (putS D gen tag b N j).2 ∧ j ≤ freeN D.bs ∧
      St w' (DeskS k g (c + j) (putS D gen tag b N j).1 :: Cs z [.pointer (some (blk k)), .pointer (some (blk r)), .map (some mb), .int .i64 D.syncs] T.y_desk_Mark :: RoomS r D.bs :: MapS mb D.ws :: X),
    fun _ n2 _ => (n2 + 1).toNat, ⟨0, Nat.zero_le _, by rw [w64_id (by omega) (by omega)]; omega, rfl, Nat.zero_le _, h1.up3⟩, ?_⟩
  rintro at_ n2 w2 ⟨j, hj, rfl, rfl, hjf, h2⟩
  refine ⟨fun hge => ?_, fun hlt => ?_⟩
  · obtain ⟨i, hi, hi2⟩ : ∃ i : Nat, (N : Int) - 1 - j = i ∧ i = N - 1 - j := ⟨N - 1 - j, by omega, rfl⟩
    rw [hi]
    have e1 : w64 ((i : Int) * 236) = ((i * 236 : Nat) : Int) := by rw [w64_id (by omega) (by omega)]; omega
    have e2 : w64 (w64 ((i : Int) + 1) * 236) = (((i + 1) * 236 : Nat) : Int) := by rw [w64_succ (by omega), w64_id (by omega) (by omega)]; omega
    have e3 : imin (((i + 1) * 236 : Nat) : Int) (b.length : Int) = ((min ((i + 1) * 236) b.length : Nat) : Int) := by unfold imin; split <;> omega
    rw [e1, e2, e3, Int.toNat_natCast, Int.toNat_natCast]
    have e4 : (tx b).extract (i * 236) (min ((i + 1) * 236) b.length) = tx (partB b i) := by
      rw [tx_ext]
      congr 1
      unfold partB
      apply List.ext_getElem?
      intro t
      simp only [List.getElem?_take, List.getElem?_drop]
      by_cases ht1 : t < 236
      · rw [if_pos ht1]
        split
        · rfl
        · rw [List.getElem?_eq_none (by omega)]
      · rw [if_neg ht1, if_neg (by omega)]
    rw [e4]
    have hib : i * 236 ≤ b.length := by
      unfold needN at hN
      split at hN <;> omega
    refine ⟨by omega, by omega, by omega, ?_⟩
    intro wa6
    replace h2 : St wa6 (Cs _ _ _ :: _) := h2.new _ _
    clear_value wa6
    refine ⟨h2.wr0 (by simp), ?_⟩
    intro wa7
    replace h2 : St wa7 _ := h2.set0 _
    clear_value wa7
    refine ⟨h2.wr (by simp), ?_⟩
    intro wa8
    replace h2 : St wa8 _ := h2.set 1 _
    clear_value wa8
    refine ⟨h2.wr (by simp), ?_⟩
    intro wa9
    replace h2 : St wa9 _ := h2.set 2 _
    clear_value wa9
    refine ⟨h2.wr (by simp), ?_⟩
    intro wa10
    replace h2 : St wa10 _ := h2.set 3 _
    clear_value wa10
    refine ⟨h2.wr (by simp), ?_⟩
    intro wa11
    replace h2 : St wa11 _ := h2.set 4 _
    clear_value wa11
    refine ⟨h2.wr (by simp), ?_⟩
    intro wa12
    replace h2 : St wa12 _ := h2.set 5 _
    clear_value wa12
    simp only [List.set_cons_zero, List.set_cons_succ] at h2
    generalize w2.heap.size = y at *
    refine ⟨fun w' => St w' (Cs y (lkCells (lkOf gen tag b i (putS D gen tag b N j).2)) T.y_chain_link :: DeskS k g (c + j) (putS D gen tag b N j).1 :: Cs z [.pointer (some (blk k)), .pointer (some (blk r)), .map (some mb), .int .i64 D.syncs] T.y_desk_Mark :: RoomS r D.bs :: MapS mb D.ws :: X), ⟨fun h0 => ?_, fun h0 => ?_⟩, ?_⟩
    · refine ⟨h2.wr (by simp), ?_⟩
      intro wa13
      replace h2 : St wa13 _ := h2.set 3 _
      clear_value wa13
      have e : lkCells (lkOf gen tag b i (putS D gen tag b N j).2) = [.int .i64 gen, .int .i64 tag, .int .i64 (i : Int), .int .i64 1, .int .i64 (putS D gen tag b N j).2, .string (tx (partB b i))] := by
        have : i = 0 := by omega
        simp [lkCells, lkOf, this]
      rw [e]; exact h2
    · have e : lkCells (lkOf gen tag b i (putS D gen tag b N j).2) = [.int .i64 gen, .int .i64 tag, .int .i64 (i : Int), .int .i64 0, .int .i64 (putS D gen tag b N j).2, .string (tx (partB b i))] := by
        have : ¬ i = 0 := by omega
        simp [lkCells, lkOf, this]
      rw [e]; exact h2
    rintro w3 h3
    refine ⟨_, h3.cell0, _, h3.cell 1, _, h3.cell 2, _, h3.cell 3, _, h3.cell 4, _, h3.cell 5, ?_⟩
    have hpr := placeP_range D N (N - j)
    rw [← hAt j hj] at hpr
    have hok : LkOk (lkOf gen tag b i (putS D gen tag b N j).2) := lkOf_ok hg ht (by omega) (by omega)
    have hll := layLk_len hok
    refine lay_link hok h3 fun w4 h4 => New_st h4.drop (by omega) (by omega) (fun h => absurd hll h) (fun _ hfull => ?_) fun w5 _ hlt5 h5 => ?_
    · rw [hBs, takeN_len] at hfull
      have hlf : freeN D.bs < N := by
        rcases Nat.lt_or_ge j (freeN D.bs) with h | h
        · have := take_lt h; omega
        · omega
      refine ⟨fun _ => ?_, fun h => by omega⟩
      have q := h4.drop.sw
      refine ⟨_, q.cell0, _, q.cell 1, _, q.cell 2, _, q.cell 3, ?_⟩
      refine Back_st (M := D) (c' := c) q.sw.d2 hk (by rw [hBs, takeN_len]) (hS j).2.2.2.symm fun w6 h6 => ?_
      rw [hB] at h6
      exact hF w6 hlf (DeskS.mono h6.d2.d2 (by omega))
    · rw [hBs, takeN_len] at hlt5
      have hjlt : j < freeN D.bs := by
        rcases Nat.lt_or_ge j (freeN D.bs) with h | h
        · exact h
        · have e : j = freeN D.bs := by omega
          rw [e, take_full] at hlt5; omega
      refine ⟨fun h => by omega, fun _ => ⟨⟨j + 1, by omega, by rw [w64_id (by omega) (by omega)]; omega, by rw [hSu], hjlt, ?_⟩, ?_⟩⟩
      · rw [hSu, ← hi2]; exact h5
      · rw [w64_id (by omega) (by omega)]
        show ((i : Int) - 1 + 1).toNat < ((i : Int) + 1).toNat
        omega
  · have hjN : j = N := by omega
    subst hjN
    have := hR w2 hjf (DeskS.mono h2.d2.d2.d2 (by omega))
    rw [hAt j (Nat.le_refl _), Nat.sub_self]
    exact this

theorem walkC_facts : ∀ (n : Nat) (xs : List Lk) (ps : List Int) (next : Int), (∀ x ∈ xs, LkOk x) → xs.length + n ≤ 41 → ps.length = xs.length → (walkC D n xs ps next).2.2 = 0 →
    (∀ x ∈ (walkC D n xs ps next).1, LkOk x) ∧ (walkC D n xs ps next).1.length ≤ 41 ∧ (walkC D n xs ps next).1 ≠ [] ∧ (walkC D n xs ps next).2.1.length = (walkC D n xs ps next).1.length
  | 0, xs, ps, next, _, _, _, h => by simp [walkC] at h
  | n + 1, xs, ps, next, hx, hl, hp, h => by
    rw [walkC] at h ⊢
    split
    · rename_i h1; rw [if_pos h1] at h; simp at h
    · rename_i h1
      rw [if_neg h1] at h
      split
      · rename_i h2; rw [if_pos h2] at h; exact absurd h h2
      · rename_i h2
        rw [if_neg h2] at h
        split
        · rename_i h3
          rw [if_pos h3] at h
          have hok := (readLk_ok (b := getD D next) (by revert h3; cases (readLk (getD D next)).2 <;> simp)).1
          have hx2 : ∀ y ∈ xs ++ [(readLk (getD D next)).1], LkOk y := fun y hy => by
            rcases List.mem_append.1 hy with hy | hy
            · exact hx y hy
            · simp only [List.mem_cons, List.not_mem_nil, or_false] at hy
              subst hy; exact hok
          split
          · exact ⟨hx2, by simp; omega, by simp, by simp [hp]⟩
          · rename_i h4
            rw [if_neg h4] at h
            exact walkC_facts n _ _ _ hx2 (by simp; omega) (by simp [hp]) h
        · rename_i h3; rw [if_neg h3] at h; simp at h
theorem walkD_facts {a : Int} (h : (walkD D a).2.2 = 0) : (∀ x ∈ (walkD D a).1, LkOk x) ∧ (walkD D a).1.length ≤ 41 ∧ (walkD D a).1 ≠ [] ∧ (walkD D a).2.1.length = (walkD D a).1.length :=
  walkC_facts 41 [] [] a (by simp) (by simp) rfl h

theorem Has.lk {l : Sl} {xs : List Lk} (h : Has ELk w l xs) {m : Nat} (hm : m < xs.length) : ∃ ad, l.a = some ad ∧ m < l.len ∧ w.cell? (ad.add (m * 6)) = some (.int .i64 xs[m].gen) ∧ w.cell? ((ad.add (m * 6)).add 1) = some (.int .i64 xs[m].tag) ∧ w.cell? ((ad.add (m * 6)).add 2) = some (.int .i64 xs[m].number) ∧
    w.cell? ((ad.add (m * 6)).add 3) = some (.int .i64 xs[m].refs) ∧ w.cell? ((ad.add (m * 6)).add 4) = some (.int .i64 xs[m].next) ∧ w.cell? ((ad.add (m * 6)).add 5) = some (.string (tx xs[m].data)) := by
  obtain ⟨ad, ha, hl, hc⟩ := h.at hm
  have h0 := hc 0 _ rfl
  rw [addr_add0] at h0
  exact ⟨ad, ha, hl, h0, hc 1 _ rfl, hc 2 _ rfl, hc 3 _ rfl, hc 4 _ rfl, hc 5 _ rfl⟩

def dataOf (xs : List Lk) : Bs := (xs.map (·.data)).flatten
theorem dataOf_app (a b : List Lk) : dataOf (a ++ b) = dataOf a ++ dataOf b := by simp [dataOf]
theorem dataOf_one (x : Lk) : dataOf [x] = x.data := by simp [dataOf]
theorem dataOf_len : ∀ {xs : List Lk}, (∀ x ∈ xs, LkOk x) → (dataOf xs).length ≤ 236 * xs.length
  | [], _ => by simp [dataOf]
  | x :: r, h => by
    have h1 := dataOf_len (xs := r) fun y hy => h y (List.mem_cons_of_mem _ hy)
    have h2 := (h x (List.mem_cons_self ..)).data
    simp only [dataOf, List.map_cons, List.flatten_cons, List.length_append, List.length_cons] at h1 ⊢
    omega

set_option maxHeartbeats 1000000 in
theorem Get_chain (h : St w (DeskS k g c D :: X)) {a : Int} (ha : -9223372036854775808 ≤ a ∧ a < 9223372036854775808) {R : Int → Int → Int → ByteArray → Int → World → Prop}
    (hE : ∀ w', (walkD D a).2.2 ≠ 0 → St w' (DeskS k g c D :: X) → R 0 0 0 sNil (walkD D a).2.2 w')
    (hR : ∀ x xs w', (walkD D a).1 = x :: xs → (walkD D a).2.2 = 0 → St w' (DeskS k g c D :: X) → R x.gen x.tag x.refs (tx (dataOf (x :: xs))) 0 w') : F.chain_Get (some (blk k)) a w R := by
  apply E.chain_Get
  unfold V.chain_Get
  try simp (config := { zeta := false }) only [cnd_all]
  intro wa1
  replace h : St wa1 (Cs _ _ _ :: _) := h.new _ _
  clear_value wa1
  generalize w.heap.size = q at *
  refine walk_chain h.sw ha fun l pl w1 h1 => ⟨fun he => ?_, fun he => ?_⟩
  · have h1 := h1.drop.drop.sw
    refine ⟨h1.wr0 (by simp), ?_⟩
    intro wa2
    replace h1 : St wa2 _ := h1.set0 _
    clear_value wa2
    refine ⟨h1.wr (by simp), ?_⟩
    intro wa3
    replace h1 : St wa3 _ := h1.set 1 _
    clear_value wa3
    refine ⟨h1.wr (by simp), ?_⟩
    intro wa4
    replace h1 : St wa4 _ := h1.set 2 _
    clear_value wa4
    refine ⟨h1.wr (by simp), ?_⟩
    intro wa5
    replace h1 : St wa5 _ := h1.set 3 _
    clear_value wa5
    simp only [List.set_cons_zero, List.set_cons_succ] at h1
    refine ⟨_, h1.cell0, _, h1.cell 1, _, h1.cell 2, _, h1.cell 3, ?_⟩
    exact hE _ he h1.drop
  obtain ⟨f1, f2, f3, f4⟩ := walkD_facts he
  generalize (walkD D a).1 = xs at *
  generalize (walkD D a).2.1 = ps at *
  obtain ⟨x, r, rfl⟩ : ∃ x r, xs = x :: r := by
    rcases xs with _ | ⟨x, r⟩
    · exact absurd rfl f3
    · exact ⟨x, r, rfl⟩
  -- Row ELk :: Row EI :: DeskS :: Cs q :: X
  intro wa6
  replace h1 : St wa6 _ := h1.drew
  clear_value wa6
  obtain ⟨ad, had, hlt, c0, c1, c2, c3, c4, c5⟩ := Has.lk (h1.has (by decide)) (m := 0) (by simp)
  refine ⟨ad, had, by decide, by omega, _, c0, ad, had, by decide, by omega, _, c1, ad, had, by decide, by omega, _, c3, ?_⟩
  intro wa7
  replace h1 : St wa7 (Cs _ _ _ :: _) := h1.new _ _
  clear_value wa7
  obtain ⟨ad', had', hlt, c0, c1, c2, c3, c4, c5⟩ := Has.lk (h1.sw.has (by decide)) (m := 0) (by simp)
  rw [had] at had'
  injection had' with had'
  subst had'
  refine ⟨c3, c1, c0, ?_⟩
  refine ⟨h1.wr0 (by simp), ?_⟩
  intro wa8
  replace h1 : St wa8 _ := h1.set0 _
  clear_value wa8
  refine ⟨h1.wr (by simp), ?_⟩
  intro wa9
  replace h1 : St wa9 _ := h1.set 1 _
  clear_value wa9
  refine ⟨h1.wr (by simp), ?_⟩
  intro wa10
  replace h1 : St wa10 _ := h1.set 2 _
  clear_value wa10
  refine ⟨h1.wr (by simp), ?_⟩
  intro wa11
  replace h1 : St wa11 _ := h1.set 3 _
  clear_value wa11
  simp only [List.set_cons_zero, List.set_cons_succ] at h1
  generalize wa6.heap.size = z at *
  have hll : l.len = (x :: r).length := (h1.sw.has (by decide)).1
  refine ⟨Cnt (x :: r).length fun m w' => St w' (Cs z [.int .i64 x.gen, .int .i64 x.tag, .int .i64 x.refs, .string (tx (dataOf ((x :: r).take m)))] T.y_chain_Chain :: Row ELk T.y_chain_link l (x :: r) :: Row EI T.y_int pl ps :: DeskS k g c D :: Cs q [.int .i64 0, .int .i64 0, .int .i64 0, .string sNil] T.y_chain_Chain :: X),
    cntM (x :: r).length, Cnt.zero h1, ?_⟩
  rintro _ w2 ⟨m, rfl, hm, h2⟩
  refine ⟨fun hlt => ?_, fun hge => ?_⟩
  · have hlt : m < (x :: r).length := by omega
    obtain ⟨ad, had, hlt2, c0, c1, c2, c3, c4, c5⟩ := Has.lk (h2.sw.has (by decide)) hlt
    refine ⟨ad, had, by omega, by omega, _, c0, _, c1, _, c2, _, c3, _, c4, _, c5, ?_⟩
    intro wa12
    replace h2 : St wa12 (Cs _ _ _ :: _) := h2.new _ _
    clear_value wa12
    refine ⟨h2.wr0 (by simp), ?_⟩
    intro wa13
    replace h2 : St wa13 _ := h2.set0 _
    clear_value wa13
    refine ⟨h2.wr (by simp), ?_⟩
    intro wa14
    replace h2 : St wa14 _ := h2.set 1 _
    clear_value wa14
    refine ⟨h2.wr (by simp), ?_⟩
    intro wa15
    replace h2 : St wa15 _ := h2.set 2 _
    clear_value wa15
    refine ⟨h2.wr (by simp), ?_⟩
    intro wa16
    replace h2 : St wa16 _ := h2.set 3 _
    clear_value wa16
    refine ⟨h2.wr (by simp), ?_⟩
    intro wa17
    replace h2 : St wa17 _ := h2.set 4 _
    clear_value wa17
    refine ⟨h2.wr (by simp), ?_⟩
    intro wa18
    replace h2 : St wa18 _ := h2.set 5 _
    clear_value wa18
    simp only [List.set_cons_zero, List.set_cons_succ] at h2
    have hd := dataOf_len (xs := (x :: r).take m) fun y hy => f1 y (List.mem_of_mem_take hy)
    have hd2 := (f1 _ (List.getElem_mem hlt)).data
    refine ⟨_, h2.sw.cell 3, _, h2.cell 5, by rw [tx_size, tx_size]; simp at hd; omega, ?_⟩
    replace h2 := h2.drop
    refine ⟨h2.wr (by simp), ?_⟩
    intro wa19
    replace h2 : St wa19 _ := h2.set 3 _
    clear_value wa19
    refine Cnt.next hlt (by omega) ?_
    have e : tx (dataOf ((x :: r).take m)) ++ tx ((x :: r)[m].data) = tx (dataOf ((x :: r).take (m + 1))) := by
      rw [tx_app, List.take_succ_eq_append_getElem hlt, dataOf_app, dataOf_one]
    rw [e] at h2
    exact h2
  · have hmm : m = (x :: r).length := by omega
    subst hmm
    rw [List.take_length] at h2
    refine ⟨_, h2.cell0, _, h2.cell 1, _, h2.cell 2, _, h2.cell 3, ?_⟩
    have h3 := h2.up4
    refine ⟨h3.wr0 (by simp), ?_⟩
    intro wa20
    replace h3 : St wa20 _ := h3.set0 _
    clear_value wa20
    refine ⟨h3.wr (by simp), ?_⟩
    intro wa21
    replace h3 : St wa21 _ := h3.set 1 _
    clear_value wa21
    refine ⟨h3.wr (by simp), ?_⟩
    intro wa22
    replace h3 : St wa22 _ := h3.set 2 _
    clear_value wa22
    refine ⟨h3.wr (by simp), ?_⟩
    intro wa23
    replace h3 : St wa23 _ := h3.set 3 _
    clear_value wa23
    simp only [List.set_cons_zero, List.set_cons_succ] at h3
    refine ⟨_, h3.cell0, _, h3.cell 1, _, h3.cell 2, _, h3.cell 3, ?_⟩
    exact hR x r _ rfl he h3.drop.drop.drop.drop

theorem Drop_chain (h : St w (DeskS k g c D :: X)) {a : Int} (ha : -9223372036854775808 ≤ a ∧ a < 9223372036854775808) {R : Int → World → Prop}
    (hpr : ∀ z ∈ (walkD D a).2.1, -9223372036854775808 ≤ z ∧ z < 9223372036854775808)
    (hE : ∀ w', (walkD D a).2.2 ≠ 0 → St w' (DeskS k g c D :: X) → R (walkD D a).2.2 w')
    (hN : ∀ w', (walkD D a).2.2 = 0 → ¬ dropOk D.bs (walkD D a).2.1 → St w' (DeskS k g c D :: X) → R 15 w')
    (hR : ∀ w', (walkD D a).2.2 = 0 → dropOk D.bs (walkD D a).2.1 → St w' (DeskS k g c (dropD D (walkD D a).2.1) :: X) → R 0 w') : F.chain_Drop (some (blk k)) a w R := by
  apply E.chain_Drop
  unfold V.chain_Drop
  try simp (config := { zeta := false }) only [cnd_all]
  refine walk_chain h ha fun l pl w1 h1 => ⟨fun he => hE w1 he h1.drop.drop, fun he => ?_⟩
  obtain ⟨f1, f2, f3, f4⟩ := walkD_facts he
  exact Drop_st h1.drop.sw (by omega) hpr (fun hn => hN w1 he hn h1.drop.drop) fun w2 hok h2 => hR w2 he hok h2.d2
end
end Go.Proofs.YtmokmbhhnbcelaaGreatDoor
