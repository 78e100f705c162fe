/- words: many rows, each of its own. -/
import Derived.Test.YtmokmbhhnbcelaaGreatDoorSq
import Derived.Test.YtmokmbhhnbcelaaGreatDoorDa
set_option linter.unusedVariables false
namespace Go.Proofs.YtmokmbhhnbcelaaGreatDoor
open Go Go.Vc Go.RowKit Go.Lib

theorem StP.perm {L L' : List As} (h : L.Perm L') : ∀ {w : World} {S : Nat → Prop}, StP L w S → StP L' w S := by
  induction h with
  | nil => exact fun h => h
  | cons A _ ih => exact fun h => StP.cons (fun S hS => ih hS) h
  | swap A B l => exact fun h => StP.swap h
  | trans _ _ ih1 ih2 => exact fun h => ih2 (ih1 h)
theorem St.perm {w : World} {L L' : List As} (h : St w L) (hp : L.Perm L') : St w L' := by
  obtain ⟨S, h⟩ := h
  exact ⟨S, StP.perm hp h⟩

section
variable {α : Type} {En : Enc α} {t : TypeId} {w : World} {X : List As}
def rowsL (En : Enc α) (t : TypeId) (xs : List (Sl × List α)) : List As := xs.map fun p => Row En t p.1 p.2
/-- lists, each with a row of its own -/
def Rows' (En : Enc α) (t : TypeId) (xs : List (Sl × List α)) : As := As.all (rowsL En t xs)
theorem Rows'.nil (h : St w X) : St w (Rows' En t [] :: X) := h.fold []
theorem Rows'.split {a b : List (Sl × List α)} {p : Sl × List α} (h : St w (Rows' En t (a ++ p :: b) :: X)) : St w (Row En t p.1 p.2 :: Rows' En t a :: Rows' En t b :: X) := by
  have h1 := h.unfold
  have e : rowsL En t (a ++ p :: b) = rowsL En t a ++ Row En t p.1 p.2 :: rowsL En t b := by simp [rowsL]
  rw [e] at h1
  have h2 : St w (rowsL En t b ++ (rowsL En t a ++ (Row En t p.1 p.2 :: X))) := St.perm h1 (by
    have p1 : (rowsL En t a ++ Row En t p.1 p.2 :: rowsL En t b ++ X).Perm (Row En t p.1 p.2 :: (rowsL En t a ++ rowsL En t b) ++ X) := List.Perm.append_right X List.perm_middle
    refine p1.trans ?_
    have p2 : (rowsL En t b ++ (rowsL En t a ++ Row En t p.1 p.2 :: X)).Perm (Row En t p.1 p.2 :: (rowsL En t b ++ (rowsL En t a ++ X))) := by
      rw [← List.append_assoc, ← List.append_assoc]
      exact List.perm_middle
    refine List.Perm.trans ?_ p2.symm
    rw [List.cons_append]
    refine List.Perm.cons _ ?_
    rw [← List.append_assoc]
    exact List.Perm.append_right X List.perm_append_comm)
  have h3 := (h2.fold (rowsL En t b))
  have h4 := (St.perm h3 (L' := rowsL En t a ++ (As.all (rowsL En t b) :: Row En t p.1 p.2 :: X)) (by
    exact (List.perm_middle).symm)).fold (rowsL En t a)
  exact h4.up2
theorem Rows'.join {a b : List (Sl × List α)} {p : Sl × List α} (h : St w (Row En t p.1 p.2 :: Rows' En t a :: Rows' En t b :: X)) : St w (Rows' En t (a ++ p :: b) :: X) := by
  have h1 := h.sw.unfold
  have h2 : St w (As.all (rowsL En t b) :: (rowsL En t a ++ (Row En t p.1 p.2 :: X))) := St.perm h1 (by
    have : (rowsL En t a ++ Row En t p.1 p.2 :: Rows' En t b :: X).Perm (rowsL En t a ++ Rows' En t b :: Row En t p.1 p.2 :: X) := List.Perm.append_left _ (List.Perm.swap _ _ _)
    exact this.trans List.perm_middle)
  have h3 := h2.unfold
  have e : rowsL En t (a ++ p :: b) = rowsL En t a ++ Row En t p.1 p.2 :: rowsL En t b := by simp [rowsL]
  refine St.fold (rowsL En t (a ++ p :: b)) (St.perm h3 ?_)
  rw [e]
  have p2 : (rowsL En t b ++ (rowsL En t a ++ Row En t p.1 p.2 :: X)).Perm (Row En t p.1 p.2 :: (rowsL En t b ++ (rowsL En t a ++ X))) := by
    rw [← List.append_assoc, ← List.append_assoc]
    exact List.perm_middle
  refine p2.trans ?_
  have p1 : (rowsL En t a ++ Row En t p.1 p.2 :: rowsL En t b ++ X).Perm (Row En t p.1 p.2 :: (rowsL En t a ++ rowsL En t b) ++ X) := List.Perm.append_right X List.perm_middle
  refine List.Perm.trans ?_ p1.symm
  rw [List.cons_append]
  refine List.Perm.cons _ ?_
  rw [← List.append_assoc]
  exact List.Perm.append_right X List.perm_append_comm
theorem Rows'.has {xs : List (Sl × List α)} (h : St w (Rows' En t xs :: X)) (hn : 0 < En.n) {i : Nat} {p : Sl × List α} (hi : xs[i]? = some p) : Has En w p.1 p.2 := by
  obtain ⟨hlt, rfl⟩ := List.getElem?_eq_some_iff.1 hi
  have e : xs = xs.take i ++ xs[i] :: xs.drop (i + 1) := by rw [← List.drop_eq_getElem_cons hlt, List.take_append_drop]
  rw [e] at h
  have := (Rows'.split h).has hn
  exact this
end
/-! ### Appends, with what the old slice reads -/
section
variable {w : World} {L : List As} {α : Type} {En : Enc α} {t : TypeId} {l : Sl} {xs : List α}
/-- append; the old slice is the new one's first part, or a row of its own still -/
theorem St.app2 {P : Program} {ts ty : TypeId} {bytes : Nat} (hE : Elt P ts t En.n bytes) (h : St w (Row En t l xs :: L)) {sl : Sl} {ys : List α} (hs : Has En w sl ys) {a : Addr} (ha : sl.a = some a)
    (hb : (xs.length + ys.length) * bytes ≤ 140737488355328) (hb2 : xs.length + ys.length ≤ 4611686018427387904) {R : Sl → World → Prop}
    (hR1 : ∀ l' w', St w' (Row En t l' (xs ++ ys) :: L) → l'.len = xs.length + ys.length → l'.a = l.a → R l' w')
    (hR2 : ∀ l' w', St w' (Row En t l' (xs ++ ys) :: Row En t l xs :: L) → l'.len = xs.length + ys.length → R l' w') :
    RunT P (Builtin.append_ #[ts, ts] ty #[.slice l.a l.len l.cap, .slice (some a) sl.len sl.cap]) [.one .slice] w R := by
  obtain ⟨i, z, hi, hz, h1, h2, h3⟩ := hE.info
  have hl := (h.has hE.pos).1
  obtain ⟨S, ⟨hO, e⟩, hlt, hX⟩ := h.out
  subst e
  refine runT_append2 hE.und hi hz h1 h2 h3 hE.pos hO (m := sl.len) (news := En.all ys) (by rw [En.all_len, hs.1]) (fun j u hu => ?_) (En.all_one ys) (by rw [hl, hs.1]; simp only [maxLen]; omega) (by rw [hl, hs.1]; exact hb) fun l' w' ho hl' hor => ?_
  · have hj : j < ys.length * En.n := by rw [← En.all_len]; exact (List.getElem?_eq_some_iff.1 hu).1
    have hd : j / En.n < ys.length := (Nat.div_lt_iff_lt_mul hE.pos).2 hj
    have hm := Nat.mod_lt j hE.pos
    have hx : ys[j / En.n]? = some ys[j / En.n] := by simp [hd]
    have hc0 : (En.cells ys[j / En.n])[j % En.n]? = some ((En.cells ys[j / En.n])[j % En.n]'(by rw [En.len]; exact hm)) := by simp [En.len, hm]
    have e1 := En.at hx hc0
    have e2 : j / En.n * En.n + j % En.n = j := by rw [Nat.mul_comm]; exact Nat.div_add_mod j En.n
    rw [e2, hu] at e1
    obtain ⟨a', ha', hc⟩ := hs.2 _ _ hx
    rw [ha] at ha'
    injection ha' with ha'
    subst ha'
    have := hc _ _ hc0
    rw [e2] at this
    rw [this, e1]
  · rw [← En.all_app] at ho
    rcases hor with ⟨hm, hf⟩ | ⟨⟨g, hm, hg⟩, hf⟩
    · refine hR1 l' w' (hX ⟨ho, rfl⟩ hf fun k hk => ?_) (by rw [hl', hl, hs.1]) hm
      obtain ⟨a', ha', rfl⟩ := hk
      exact .inl ⟨a', by rw [← hm]; exact ha', rfl⟩
    · refine hR2 l' w' (h.add (A := Row En t l' (xs ++ ys)) (S := l'.bk) ⟨ho, rfl⟩ hf fun k hk => ?_) (by rw [hl', hl, hs.1])
      obtain ⟨a', ha', rfl⟩ := hk
      rw [hm] at ha'; injection ha' with ha'; subst ha'; exact hg
/-- the first elements of a slice -/
theorem Has.pre {sl sl' : Sl} {ys : List α} (h : Has En w sl' (xs ++ ys)) (ha : sl'.a = sl.a) (hl : sl.len = xs.length) : Has En w sl xs :=
  ⟨hl, fun j x hj => by
    have hlt := (List.getElem?_eq_some_iff.1 hj).1
    obtain ⟨a, h1, h2⟩ := h.2 j x (by rw [List.getElem?_append_left hlt]; exact hj)
    exact ⟨a, by rw [← ha]; exact h1, h2⟩⟩
/-- the elements behind some -/
theorem Has.post {sl : Sl} (h : Has En w sl xs) {k : Nat} (hk : k ≤ xs.length) (hc : sl.len ≤ sl.cap) : Has En w ⟨slA sl.a sl.cap k En.n, sl.len - k, sl.cap - k⟩ (xs.drop k) :=
  ⟨by rw [List.length_drop, h.1], fun j x hj => by
    rw [List.getElem?_drop] at hj
    have hlt := (List.getElem?_eq_some_iff.1 hj).1
    obtain ⟨a, h1, h2⟩ := h.2 (k + j) x hj
    have hl := h.1
    refine ⟨a.add (k * En.n), ?_, fun i u hu => ?_⟩
    · unfold slA
      rw [if_neg (by omega), h1]; rfl
    · rw [Vc.addr_add]
      have := h2 i u hu
      rw [show k * En.n + (j * En.n + i) = (k + j) * En.n + i by rw [Nat.add_mul]; omega]
      exact this⟩
theorem Row.cap (h : St w (Row En t l xs :: L)) : l.len ≤ l.cap := by
  have hO := h.own
  rcases hO.2 with ⟨h2, h0⟩ | ⟨g, cap, cur, h2, hbg, hgg, hnc, hcm, hcs, htake⟩
  · simp only [Value.slice.injEq] at h2; omega
  · simp only [Value.slice.injEq] at h2; omega
end
end Go.Proofs.YtmokmbhhnbcelaaGreatDoor

/- chain: a link, as bytes and back; in plain words. -/
set_option linter.unusedVariables false
namespace Go.Proofs.YtmokmbhhnbcelaaGreatDoor
open Go Go.Vc Go.RowKit Go.Lib

structure Lk where
  gen : Int
  tag : Int
  number : Int
  refs : Int
  next : Int
  data : Bs

def linkBytes (x : Lk) : Bs := [2, x.gen, x.tag, x.number].flatMap (leBytes 1) ++ [x.refs, x.next].flatMap (leBytes 2) ++ (leBytes 2 (x.data.length : Int) ++ x.data)
def layLk (x : Lk) : Bs := sealS 256 (linkBytes x)
structure LkOk (x : Lk) : Prop where
  gen : 1 ≤ x.gen ∧ x.gen ≤ 3
  tag : 0 ≤ x.tag ∧ x.tag ≤ 200
  number : 0 ≤ x.number ∧ x.number < 256
  refs : 0 ≤ x.refs ∧ x.refs < 65536
  next : 0 ≤ x.next ∧ x.next < 65536
  data : x.data.length ≤ 236

theorem linkBytes_len (x : Lk) : (linkBytes x).length = 10 + x.data.length := by simp [linkBytes, leBytes_len]; omega
theorem layLk_len {x : Lk} (h : LkOk x) : (layLk x).length = 256 := sealS_len (by decide) (by rw [linkBytes_len]; have := h.data; omega)

theorem lowIn_layI {k : Nat} {v : Int} (h0 : 0 ≤ v) (hv : v < 256 ^ k) (hk : k ≤ 7) (rest : Bs) : lowIn k (leBytes k v ++ rest) 0 = (v, rest, 0) := by
  obtain ⟨n, rfl⟩ : ∃ n : Nat, v = n := ⟨v.toNat, by omega⟩
  have h1 : n < 256 ^ k := by
    have : ((256 ^ k : Nat) : Int) = 256 ^ k := by simp
    omega
  have h2 : 256 ^ k ≤ 256 ^ 7 := Nat.pow_le_pow_right (by decide) hk
  have h3 : (256 : Nat) ^ 7 = 72057594037927936 := by decide
  exact lowIn_lay h1 (by omega) rest

theorem rawIn_app (a b : Bs) : rawIn (a.length : Int) (a ++ b) 0 = (a, b, 0) := by
  unfold rawIn
  rw [if_neg (by simp), if_neg (by omega), if_neg (by rw [List.length_append]; omega)]
  simp

theorem textIn_lay {d : Bs} (h : d.length < 65536) (rest : Bs) : textIn (leBytes 2 (d.length : Int) ++ (d ++ rest)) 0 = (d, rest, 0) := by
  unfold textIn
  rw [lowIn_layI (by omega) (by have : (256 : Int) ^ 2 = 65536 := by decide
                                omega) (by decide)]
  exact rawIn_app d rest

def parseLk (s : Bs) : Lk :=
  let a0 := lowIn 1 s 0
  let a1 := lowIn 1 a0.2.1 a0.2.2
  let a2 := lowIn 1 a1.2.1 a1.2.2
  let a3 := lowIn 1 a2.2.1 a2.2.2
  let a4 := lowIn 2 a3.2.1 a3.2.2
  let a5 := lowIn 2 a4.2.1 a4.2.2
  ⟨a1.1, a2.1, a3.1, a4.1, a5.1, (textIn a5.2.1 a5.2.2).1⟩

theorem parseLk_lay {x : Lk} (h : LkOk x) (pad : Bs) : parseLk (linkBytes x ++ pad) = x := by
  have e1 : (256 : Int) ^ 1 = 256 := by decide
  have e2 : (256 : Int) ^ 2 = 65536 := by decide
  have h1 := h.gen
  have h2 := h.tag
  have h3 := h.number
  have h4 := h.refs
  have h5 := h.next
  have h6 := h.data
  have e : linkBytes x ++ pad = leBytes 1 2 ++ (leBytes 1 x.gen ++ (leBytes 1 x.tag ++ (leBytes 1 x.number ++ (leBytes 2 x.refs ++ (leBytes 2 x.next ++ (leBytes 2 (x.data.length : Int) ++ (x.data ++ pad))))))) := by
    simp [linkBytes]
  rw [e]
  unfold parseLk
  rw [lowIn_layI (by omega) (by omega) (by decide)]
  simp only
  rw [lowIn_layI (by omega) (by omega) (by decide)]
  simp only
  rw [lowIn_layI (by omega) (by omega) (by decide)]
  simp only
  rw [lowIn_layI (by omega) (by omega) (by decide)]
  simp only
  rw [lowIn_layI (by omega) (by omega) (by decide)]
  simp only
  rw [lowIn_layI (by omega) (by omega) (by decide)]
  simp only
  rw [textIn_lay (by omega)]

theorem lowIn1 (s : Bs) (e : Int) : 0 ≤ (lowIn 1 s e).1 ∧ (lowIn 1 s e).1 < 256 := by
  have h := lowIn_bound 1 s e (by decide)
  have : (256 : Int) ^ 1 = 256 := by decide
  omega
theorem lowIn2 (s : Bs) (e : Int) : 0 ≤ (lowIn 2 s e).1 ∧ (lowIn 2 s e).1 < 65536 := by
  have h := lowIn_bound 2 s e (by decide)
  have : (256 : Int) ^ 2 = 65536 := by decide
  omega
theorem parseLk_ranges (s : Bs) : 0 ≤ (parseLk s).gen ∧ (0 ≤ (parseLk s).tag) ∧ (0 ≤ (parseLk s).number ∧ (parseLk s).number < 256) ∧ (0 ≤ (parseLk s).refs ∧ (parseLk s).refs < 65536) ∧ (0 ≤ (parseLk s).next ∧ (parseLk s).next < 65536) := by
  dsimp only [parseLk]
  exact ⟨(lowIn1 _ _).1, (lowIn1 _ _).1, lowIn1 _ _, lowIn2 _ _, lowIn2 _ _⟩

/-- which values pass the first look -/
def lkFit (x : Lk) : Bool := decide (1 ≤ x.gen) && (decide (x.gen ≤ 3) && (decide (x.tag ≤ 200) && decide (x.data.length ≤ 236)))
theorem lkFit_ok {s : Bs} (h : lkFit (parseLk s) = true) : LkOk (parseLk s) := by
  simp only [lkFit, Bool.and_eq_true, decide_eq_true_eq] at h
  obtain ⟨r1, r2, r3, r4, r5⟩ := parseLk_ranges s
  exact ⟨⟨h.1, h.2.1⟩, ⟨r2, h.2.2.1⟩, r3, r4, r5, h.2.2.2⟩

/-- a link read: what it says, whether it is one -/
def lkZ : Lk := ⟨0, 0, 0, 0, 0, []⟩
def readLk (b : Bs) : Lk × Bool :=
  if (openB b).2 ≠ 0 ∨ b.length ≠ 256 then (lkZ, false) else (parseLk (openB b).1, lkFit (parseLk (openB b).1) && decide (layLk (parseLk (openB b).1) = b))

theorem readLk_lay {x : Lk} (h : LkOk x) : readLk (layLk x) = (x, true) := by
  have hl := layLk_len h
  have ho : openB (layLk x) = (padTo 252 (linkBytes x), 0) := openB_seal (by decide) (by rw [linkBytes_len]; have := h.data; omega)
  have hp : parseLk (padTo 252 (linkBytes x)) = x := parseLk_lay h _
  have hf : lkFit x = true := by
    simp only [lkFit, Bool.and_eq_true, decide_eq_true_eq]
    exact ⟨h.gen.1, h.gen.2, h.tag.2, h.data⟩
  unfold readLk
  rw [ho, if_neg (by simp [hl])]
  simp only [hp, hf, decide_true, Bool.and_true]

theorem readLk_ok {b : Bs} (h : (readLk b).2 = true) : LkOk (readLk b).1 ∧ layLk (readLk b).1 = b := by
  unfold readLk at h ⊢
  split
  · rename_i hc; rw [if_pos hc] at h; cases h
  · rename_i hc
    rw [if_neg hc] at h
    simp only [Bool.and_eq_true, decide_eq_true_eq] at h
    exact ⟨lkFit_ok h.1, h.2⟩

end Go.Proofs.YtmokmbhhnbcelaaGreatDoor
