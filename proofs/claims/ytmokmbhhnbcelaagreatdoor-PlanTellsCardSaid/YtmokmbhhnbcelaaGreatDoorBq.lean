/- words: many rows, each of its own. -/
import Derived.Test.YtmokmbhhnbcelaaGreatDoorSq
import Derived.Test.YtmokmbhhnbcelaaGreatDoorDa
import Derived.Test.YtmokmbhhnbcelaaGreatDoorPe
set_option linter.unusedVariables false
namespace Go.Proofs.YtmokmbhhnbcelaaGreatDoor
open Go Go.Vc Go.RowKit Go.Lib

theorem StP.perm {L L' : List As} (h : L.Perm L') : ∀ {w : World} {S : Nat → Prop}, StP L w S → StP L' w S := by
  induction h with
  | nil => exact fun h => h
  | cons A _ ih => exact fun h => StP.cons (fun S hS => ih hS) h
  | swap A B l => exact fun h => StP.swap h
  | trans _ _ ih1 ih2 => exact fun h => ih2 (ih1 h)
theorem St.perm {w : World} {L L' : List As} (h : St w L) (hp : L.Perm L') : St w L' := by
  obtain ⟨S, h⟩ := h
  exact ⟨S, StP.perm hp h⟩

def ESl : Enc Sl := ⟨fun s => [.slice s.a s.len s.cap], 1, fun _ => rfl, fun _ u hu => by simp only [List.mem_cons, List.not_mem_nil, or_false] at hu; subst hu; rfl⟩

section
variable {α : Type} {En : Enc α} {t : TypeId} {w : World} {X : List As}
def rowsL (En : Enc α) (t : TypeId) (xs : List (Sl × List α)) : List As := xs.map fun p => Row En t p.1 p.2
/-- lists, each with a row of its own -/
def Rows' (En : Enc α) (t : TypeId) (xs : List (Sl × List α)) : As := As.all (rowsL En t xs)
theorem Rows'.nil (h : St w X) : St w (Rows' En t [] :: X) := h.fold []
theorem Rows'.split {a b : List (Sl × List α)} {p : Sl × List α} (h : St w (Rows' En t (a ++ p :: b) :: X)) : St w (Row En t p.1 p.2 :: Rows' En t a :: Rows' En t b :: X) := by
  have h1 := h.unfold
  have e : rowsL En t (a ++ p :: b) = rowsL En t a ++ Row En t p.1 p.2 :: rowsL En t b := by simp [rowsL]
  rw [e] at h1
  have h2 : St w (rowsL En t b ++ (rowsL En t a ++ (Row En t p.1 p.2 :: X))) := St.perm h1 (by
    have p1 : (rowsL En t a ++ Row En t p.1 p.2 :: rowsL En t b ++ X).Perm (Row En t p.1 p.2 :: (rowsL En t a ++ rowsL En t b) ++ X) := List.Perm.append_right X List.perm_middle
    refine p1.trans ?_
    have p2 : (rowsL En t b ++ (rowsL En t a ++ Row En t p.1 p.2 :: X)).Perm (Row En t p.1 p.2 :: (rowsL En t b ++ (rowsL En t a ++ X))) := by
      rw [← List.append_assoc, ← List.append_assoc]
      exact List.perm_middle
    refine List.Perm.trans ?_ p2.symm
    rw [List.cons_append]
    refine List.Perm.cons _ ?_
    rw [← List.append_assoc]
    exact List.Perm.append_right X List.perm_append_comm)
  have h3 := (h2.fold (rowsL En t b))
  have h4 := (St.perm h3 (L' := rowsL En t a ++ (As.all (rowsL En t b) :: Row En t p.1 p.2 :: X)) (by
    exact (List.perm_middle).symm)).fold (rowsL En t a)
  exact h4.up2
theorem Rows'.join {a b : List (Sl × List α)} {p : Sl × List α} (h : St w (Row En t p.1 p.2 :: Rows' En t a :: Rows' En t b :: X)) : St w (Rows' En t (a ++ p :: b) :: X) := by
  have h1 := h.sw.unfold
  have h2 : St w (As.all (rowsL En t b) :: (rowsL En t a ++ (Row En t p.1 p.2 :: X))) := St.perm h1 (by
    have : (rowsL En t a ++ Row En t p.1 p.2 :: Rows' En t b :: X).Perm (rowsL En t a ++ Rows' En t b :: Row En t p.1 p.2 :: X) := List.Perm.append_left _ (List.Perm.swap _ _ _)
    exact this.trans List.perm_middle)
  have h3 := h2.unfold
  have e : rowsL En t (a ++ p :: b) = rowsL En t a ++ Row En t p.1 p.2 :: rowsL En t b := by simp [rowsL]
  refine St.fold (rowsL En t (a ++ p :: b)) (St.perm h3 ?_)
  rw [e]
  have p2 : (rowsL En t b ++ (rowsL En t a ++ Row En t p.1 p.2 :: X)).Perm (Row En t p.1 p.2 :: (rowsL En t b ++ (rowsL En t a ++ X))) := by
    rw [← List.append_assoc, ← List.append_assoc]
    exact List.perm_middle
  refine p2.trans ?_
  have p1 : (rowsL En t a ++ Row En t p.1 p.2 :: rowsL En t b ++ X).Perm (Row En t p.1 p.2 :: (rowsL En t a ++ rowsL En t b) ++ X) := List.Perm.append_right X List.perm_middle
  refine List.Perm.trans ?_ p1.symm
  rw [List.cons_append]
  refine List.Perm.cons _ ?_
  rw [← List.append_assoc]
  exact List.Perm.append_right X List.perm_append_comm
theorem Rows'.snoc {xs : List (Sl × List α)} {p : Sl × List α} (h : St w (Row En t p.1 p.2 :: Rows' En t xs :: X)) : St w (Rows' En t (xs ++ [p]) :: X) :=
  Rows'.join (b := []) (Rows'.nil (En := En) (t := t) h).dn2
theorem Rows'.has {xs : List (Sl × List α)} (h : St w (Rows' En t xs :: X)) (hn : 0 < En.n) {i : Nat} {p : Sl × List α} (hi : xs[i]? = some p) : Has En w p.1 p.2 := by
  obtain ⟨hlt, rfl⟩ := List.getElem?_eq_some_iff.1 hi
  have e : xs = xs.take i ++ xs[i] :: xs.drop (i + 1) := by rw [← List.drop_eq_getElem_cons hlt, List.take_append_drop]
  rw [e] at h
  have := (Rows'.split h).has hn
  exact this
end
/-! ### Appends, with what the old slice reads -/
section
variable {w : World} {L : List As} {α : Type} {En : Enc α} {t : TypeId} {l : Sl} {xs : List α}
/-- append; the old slice is the new one's first part, or a row of its own still -/
theorem St.app2 {P : Program} {ts ty : TypeId} {bytes : Nat} (hE : Elt P ts t En.n bytes) (h : St w (Row En t l xs :: L)) {sl : Sl} {ys : List α} (hs : Has En w sl ys) {a : Addr} (ha : sl.a = some a)
    (hb : (xs.length + ys.length) * bytes ≤ 140737488355328) (hb2 : xs.length + ys.length ≤ 4611686018427387904) {R : Sl → World → Prop}
    (hR1 : ∀ l' w', St w' (Row En t l' (xs ++ ys) :: L) → l'.len = xs.length + ys.length → l'.a = l.a → R l' w')
    (hR2 : ∀ l' w', St w' (Row En t l' (xs ++ ys) :: Row En t l xs :: L) → l'.len = xs.length + ys.length → R l' w') :
    RunT P (Builtin.append_ #[ts, ts] ty #[.slice l.a l.len l.cap, .slice (some a) sl.len sl.cap]) [.one .slice] w R := by
  obtain ⟨i, z, hi, hz, h1, h2, h3⟩ := hE.info
  have hl := (h.has hE.pos).1
  obtain ⟨S, ⟨hO, e⟩, hlt, hX⟩ := h.out
  subst e
  refine runT_append2 hE.und hi hz h1 h2 h3 hE.pos hO (m := sl.len) (news := En.all ys) (by rw [En.all_len, hs.1]) (fun j u hu => ?_) (En.all_one ys) (by rw [hl, hs.1]; simp only [maxLen]; omega) (by rw [hl, hs.1]; exact hb) fun l' w' ho hl' hor => ?_
  · have hj : j < ys.length * En.n := by rw [← En.all_len]; exact (List.getElem?_eq_some_iff.1 hu).1
    have hd : j / En.n < ys.length := (Nat.div_lt_iff_lt_mul hE.pos).2 hj
    have hm := Nat.mod_lt j hE.pos
    have hx : ys[j / En.n]? = some ys[j / En.n] := by simp [hd]
    have hc0 : (En.cells ys[j / En.n])[j % En.n]? = some ((En.cells ys[j / En.n])[j % En.n]'(by rw [En.len]; exact hm)) := by simp [En.len, hm]
    have e1 := En.at hx hc0
    have e2 : j / En.n * En.n + j % En.n = j := by rw [Nat.mul_comm]; exact Nat.div_add_mod j En.n
    rw [e2, hu] at e1
    obtain ⟨a', ha', hc⟩ := hs.2 _ _ hx
    rw [ha] at ha'
    injection ha' with ha'
    subst ha'
    have := hc _ _ hc0
    rw [e2] at this
    rw [this, e1]
  · rw [← En.all_app] at ho
    rcases hor with ⟨hm, hf⟩ | ⟨⟨g, hm, hg⟩, hf⟩
    · refine hR1 l' w' (hX ⟨ho, rfl⟩ hf fun k hk => ?_) (by rw [hl', hl, hs.1]) hm
      obtain ⟨a', ha', rfl⟩ := hk
      exact .inl ⟨a', by rw [← hm]; exact ha', rfl⟩
    · refine hR2 l' w' (h.add (A := Row En t l' (xs ++ ys)) (S := l'.bk) ⟨ho, rfl⟩ hf fun k hk => ?_) (by rw [hl', hl, hs.1])
      obtain ⟨a', ha', rfl⟩ := hk
      rw [hm] at ha'; injection ha' with ha'; subst ha'; exact hg
/-- the first elements of a slice -/
theorem Has.pre {sl sl' : Sl} {ys : List α} (h : Has En w sl' (xs ++ ys)) (ha : sl'.a = sl.a) (hl : sl.len = xs.length) : Has En w sl xs :=
  ⟨hl, fun j x hj => by
    have hlt := (List.getElem?_eq_some_iff.1 hj).1
    obtain ⟨a, h1, h2⟩ := h.2 j x (by rw [List.getElem?_append_left hlt]; exact hj)
    exact ⟨a, by rw [← ha]; exact h1, h2⟩⟩
/-- the elements behind some -/
theorem Has.post {sl : Sl} (h : Has En w sl xs) {k : Nat} (hk : k ≤ xs.length) (hc : sl.len ≤ sl.cap) : Has En w ⟨slA sl.a sl.cap k En.n, sl.len - k, sl.cap - k⟩ (xs.drop k) :=
  ⟨by rw [List.length_drop, h.1], fun j x hj => by
    rw [List.getElem?_drop] at hj
    have hlt := (List.getElem?_eq_some_iff.1 hj).1
    obtain ⟨a, h1, h2⟩ := h.2 (k + j) x hj
    have hl := h.1
    refine ⟨a.add (k * En.n), ?_, fun i u hu => ?_⟩
    · unfold slA
      rw [if_neg (by omega), h1]; rfl
    · rw [Vc.addr_add]
      have := h2 i u hu
      rw [show k * En.n + (j * En.n + i) = (k + j) * En.n + i by rw [Nat.add_mul]; omega]
      exact this⟩
theorem Row.cap (h : St w (Row En t l xs :: L)) : l.len ≤ l.cap := by
  have hO := h.own
  rcases hO.2 with ⟨h2, h0⟩ | ⟨g, cap, cur, h2, hbg, hgg, hnc, hcm, hcs, htake⟩
  · simp only [Value.slice.injEq] at h2; omega
  · simp only [Value.slice.injEq] at h2; omega
end
end Go.Proofs.YtmokmbhhnbcelaaGreatDoor

/- masonrybook: lists of pieces that are lent, kept, marked, grown. -/
set_option linter.unusedVariables false
namespace Go.Proofs.YtmokmbhhnbcelaaGreatDoor
open Go Go.Vc Go.RowKit Go.Lib

theorem Own.setN {w : World} {t : TypeId} {sz : Nat} (hsz : 0 < sz) {l : Sl} {xs : List Value} (h : Own w t sz l xs) {k : Nat} (hk : k < xs.length) (x : Value) {a : Addr} (ha : l.a = some a) :
    Wr w (a.add k) ∧ Own (w.setCell (a.add k) x) t sz l (xs.set k x) ∧ Fr l.bk w (w.setCell (a.add k) x) := by
  have hlen := h.len
  have h0 : l.len ≠ 0 := fun h0 => by rw [h0] at hlen; omega
  obtain ⟨g, cur, ha', hg, hc, ht, hlc, hm⟩ := Own.row h h0
  rw [ha] at ha'
  injection ha' with ha'
  subst ha'
  have h2 := blk_set hg k x
  have hle : l.len * sz ≤ l.cap * sz := Nat.mul_le_mul_right _ hlc
  refine ⟨blk_wr hg (by omega), ?_, (fr_set w g k _).mono (fun i _ hi => ⟨blk g, ha, Eq.symm hi⟩)⟩
  have h3 := Own.of (n := l.len) (cap := l.cap) h2 (by rw [List.length_set, hc]) hlc hm
  have e : (cur.set k x).take (l.len * sz) = xs.set k x := by
    rw [List.take_set, ht]
  rw [e] at h3
  have : l = ⟨some (blk g), l.len, l.cap⟩ := by cases l; simp only at ha; subst ha; rfl
  rw [this]; exact h3

section
variable {w : World} {X : List As}
theorem pc_set : ∀ (xs : List Pc) (k : Nat) (hk : k < xs.length) (n : Int), (EPc.all xs).set (k * 2) (.int .i64 n) = EPc.all (xs.set k (n, xs[k].2)) ∧ (EPc.all xs).set (k * 2 + 1) (.int .i64 n) = EPc.all (xs.set k (xs[k].1, n))
  | [], k, hk, n => by simp at hk
  | y :: r, 0, hk, n => by
    have e1 : EPc.all (y :: r) = .int .i64 y.1 :: .int .i64 y.2 :: EPc.all r := by simp [Enc.all, EPc]
    rw [e1]
    simp [Enc.all, EPc]
  | y :: r, k + 1, hk, n => by
    have ih := pc_set r k (by simpa using hk) n
    have e1 : EPc.all (y :: r) = .int .i64 y.1 :: .int .i64 y.2 :: EPc.all r := by simp [Enc.all, EPc]
    constructor
    · rw [e1, show (k + 1) * 2 = k * 2 + 1 + 1 by omega, List.set_cons_succ, List.set_cons_succ, ih.1]
      simp [Enc.all, EPc]
    · rw [e1, show (k + 1) * 2 + 1 = (k * 2 + 1) + 1 + 1 by omega, List.set_cons_succ, List.set_cons_succ, ih.2]
      simp [Enc.all, EPc]
theorem Row.setPc {t : TypeId} {l : Sl} {xs : List Pc} (h : St w (Row EPc t l xs :: X)) {k : Nat} (hk : k < xs.length) {a : Addr} (ha : l.a = some a) (n : Int) :
    (Wr w (a.add (k * 2)) ∧ St (w.setCell (a.add (k * 2)) (.int .i64 n)) (Row EPc t l (xs.set k (n, xs[k].2)) :: X)) ∧
    (Wr w ((a.add (k * 2)).add 1) ∧ St (w.setCell ((a.add (k * 2)).add 1) (.int .i64 n)) (Row EPc t l (xs.set k (xs[k].1, n)) :: X)) := by
  obtain ⟨S, ⟨hO, e⟩, hlt, hX⟩ := h.out
  subst e
  have hl := EPc.all_len xs
  rw [show EPc.n = 2 from rfl] at hO hl
  have e1 : (a.add (k * 2)).add 1 = a.add (k * 2 + 1) := Vc.addr_add _ _ _
  obtain ⟨p1, p2⟩ := pc_set xs k hk n
  constructor
  · obtain ⟨q1, q2, q3⟩ := Own.setN (by decide) hO (k := k * 2) (by rw [hl]; omega) (.int .i64 n) ha
    refine ⟨q1, hX ⟨?_, rfl⟩ q3 (fun j hj => .inl hj)⟩
    rw [p1] at q2; exact q2
  · rw [e1]
    obtain ⟨q1, q2, q3⟩ := Own.setN (by decide) hO (k := k * 2 + 1) (by rw [hl]; omega) (.int .i64 n) ha
    refine ⟨q1, hX ⟨?_, rfl⟩ q3 (fun j hj => .inl hj)⟩
    rw [p2] at q2; exact q2
end

section
variable {w : World} {X : List As} {α : Type} {En : Enc α} {t : TypeId} {l : Sl} {xs : List α}
/-- append of a slice that may be nil -/
theorem St.appN {P : Program} {ts ty : TypeId} {bytes : Nat} (hE : Elt P ts t En.n bytes) (h : St w (Row En t l xs :: X)) {sl : Sl} {ys : List α} (hs : Has En w sl ys) (hn : NilOk sl)
    (hb : (xs.length + ys.length) * bytes ≤ 140737488355328) (hb2 : xs.length + ys.length ≤ 4611686018427387904) {R : Sl → World → Prop}
    (hR : ∀ l' w', St w' (Row En t l' (xs ++ ys) :: X) → l'.len = xs.length + ys.length → R l' w') :
    RunT P (Builtin.append_ #[ts, ts] ty #[.slice l.a l.len l.cap, .slice sl.a sl.len sl.cap]) [.one .slice] w R := by
  cases ha : sl.a with
  | none =>
    have hz := hn ha
    subst hz
    have hy : ys = [] := List.eq_nil_of_length_eq_zero (by rw [← hs.1])
    subst hy
    obtain ⟨i, z, hi, hz, h1, h2, h3⟩ := hE.info
    have hr := run_append_owned_none (P := P) w 0 ts ty t i En.n hE.und hi (.slice l.a l.len l.cap) l.len (En.all xs) h.own
    exact runT_slice hr (hR l w (by rw [List.append_nil]; exact h) (h.has hE.pos).1)
  | some a => exact St.app hE h hs ha hb hb2 hR
theorem St.copy {P : Program} {ts ty : TypeId} {bytes : Nat} (hE : Elt P ts t En.n bytes) (h : St w X) {sl : Sl} (hs : Has En w sl xs) (hn : NilOk sl)
    (hb : xs.length * bytes ≤ 140737488355328) (hb2 : xs.length ≤ 4611686018427387904) {R : Sl → World → Prop} (hR : ∀ l' w', St w' (Row En t l' xs :: X) → R l' w') :
    RunT P (Builtin.append_ #[ts, ts] ty #[.slice none 0 0, .slice sl.a sl.len sl.cap]) [.one .slice] w R :=
  St.appN hE (h.row0 En t) hs hn (by simpa using hb) (by simpa using hb2) fun l' w' h' _ => hR l' w' h'
theorem Row.nilOk (h : St w (Row En t l xs :: X)) : NilOk l := fun ha => (Own.isNil h.own ha).1
/-- one of several -/
theorem St.among {M : List As} : ∀ {w : World} {i : Nat} {A : As} {S : Nat → Prop}, StP M w S → M[i]? = some A → ∃ S, A.p w S := by
  induction M with
  | nil => intro w i A S _ hi; simp at hi
  | cons B r ih =>
    intro w i A S h hi
    obtain ⟨a, b, ha, hb, _, _⟩ := h
    rcases i with _ | i
    · simp only [List.getElem?_cons_zero, Option.some.injEq] at hi
      subst hi; exact ⟨a, ha⟩
    · exact ih hb (by simpa using hi)
theorem St.amongs {M : List As} (h : St w (As.all M :: X)) {i : Nat} {A : As} (hi : M[i]? = some A) : ∃ S, A.p w S := by
  obtain ⟨S, hS⟩ := h.hd
  exact St.among hS hi
theorem St.snocs {M : List As} {A : As} (h : St w (A :: As.all M :: X)) : St w (As.all (M ++ [A]) :: X) := by
  have h1 : St w (M ++ A :: X) := St.perm h.sw.unfold (List.Perm.refl _)
  have h2 : St w ((M ++ [A]) ++ X) := by rw [List.append_assoc]; exact h1
  exact h2.fold _
end

/-! ### Marks -/
def mkP (i k : Nat) : Pc := (-1000 * (i : Int) - k - 1, 0)
def marksP (i a n : Nat) : List Pc := (List.range n).map fun j => mkP i (a + j)
theorem marksP_len (i a n : Nat) : (marksP i a n).length = n := by simp [marksP]
theorem marksP_succ (i a n : Nat) : marksP i a (n + 1) = marksP i a n ++ [mkP i (a + n)] := by simp [marksP, List.range_succ]
theorem marksP_app (i a b : Nat) : marksP i 0 a ++ marksP i a b = marksP i 0 (a + b) := by
  induction b with
  | zero => simp [marksP]
  | succ b ih => rw [marksP_succ, ← List.append_assoc, ih, ← Nat.add_assoc, marksP_succ, Nat.zero_add]
theorem marksP_get (i n k : Nat) (hk : k < n) : (marksP i 0 n)[k]'(by rw [marksP_len]; exact hk) = mkP i k := by simp [marksP]

section
variable {w : World} {X : List As}
theorem markP_st (h : St w X) {i a n : Nat} (hi : i ≤ 1000) (hn : a + n ≤ 100000000) {R : Sl → World → Prop} (hR : ∀ o w', St w' (Row EPc T.y_api_Piece o (marksP i a n) :: X) → R o w') : F.masonrybook_markPieces (i : Int) (a : Int) (n : Int) w R := by
  apply E.masonrybook_markPieces
  unfold V.masonrybook_markPieces
  try simp (config := { zeta := false }) only [cnd_all, Nat.reduceAdd]
  have e0 : w64 ((a : Int) + n) = ((a + n : Nat) : Int) := by rw [w64_id (by omega) (by omega)]; omega
  rw [e0]
  refine ⟨fun o k w' => ∃ m : Nat, k = ((a + m : Nat) : Int) ∧ m ≤ n ∧ St w' (Row EPc T.y_api_Piece o (marksP i a m) :: X), fun _ k _ => (((a + n : Nat) : Int) - k).toNat, ⟨0, rfl, Nat.zero_le _, h.row0 EPc T.y_api_Piece⟩, ?_⟩
  rintro o k w1 ⟨m, rfl, hm, h1⟩
  refine ⟨fun hlt => ?_, fun hge => ?_⟩
  · have hlt : m < n := by omega
    have e1 : w64 (w64 (w64 (-1000 * (i : Int)) - ((a + m : Nat) : Int)) - 1) = (mkP i (a + m)).1 := by
      unfold mkP
      simp only
      rw [w64_id (x := -1000 * (i : Int)) (by omega) (by omega), w64_id (x := -1000 * (i : Int) - ((a + m : Nat) : Int)) (by omega) (by omega), w64_id (by omega) (by omega)]
    rw [e1]
    intro wa1
    replace h1 : St wa1 (Cs _ _ _ :: _) := h1.new _ _
    clear_value wa1
    refine St.app elt_pc h1.sw (sl := ⟨some (blk w1.heap.size), 1, 1⟩) (ys := [mkP i (a + m)]) (h1.lit (xs := [mkP i (a + m)]) rfl rfl 1) rfl (by simp [marksP_len]; omega) (by simp [marksP_len]; omega) fun o2 w2 h2 hl2 => ?_
    rw [← marksP_succ] at h2
    have e2 : w64 (((a + m : Nat) : Int) + 1) = ((a + (m + 1) : Nat) : Int) := by rw [w64_id (by omega) (by omega)]; omega
    rw [e2]
    exact ⟨⟨m + 1, rfl, hlt, h2.d2⟩, by show (((a + n : Nat) : Int) - ((a + (m + 1) : Nat) : Int)).toNat < (((a + n : Nat) : Int) - ((a + m : Nat) : Int)).toNat; omega⟩
  · have hmm : m = n := by omega
    subst hmm
    exact hR o w1 h1
theorem copyP_st (h : St w X) {sl : Sl} {xs : List Pc} (hs : Has EPc w sl xs) (hn : NilOk sl) (hb : xs.length ≤ 1000000) {R : Sl → World → Prop} (hR : ∀ l' w', St w' (Row EPc T.y_api_Piece l' xs :: X) → R l' w') : F.masonrybook_copyPieces sl w R := by
  apply E.masonrybook_copyPieces
  unfold V.masonrybook_copyPieces
  refine St.copy (t := T.y_api_Piece) (bytes := 16) elt_pc h hs hn (by omega) (by omega) fun l' w' h' => hR l' w' h'
theorem LentP_st (h : St w X) {sl : Sl} {xs : List Pc} (hx : Has EPc w sl xs) (hn : NilOk sl) (hb : xs.length ≤ 1000000) {R : Sl → World → Prop}
    (hR : ∀ a c w', St w' (Row EPc T.y_api_Piece ⟨a, xs.length + 1, c⟩ (xs ++ [(-77, 0)]) :: X) → R ⟨a, xs.length, c⟩ w') : F.masonrybook_LentPieces sl w R := by
  apply E.masonrybook_LentPieces
  unfold V.masonrybook_LentPieces
  try simp (config := { zeta := false }) only [cnd_all, Nat.reduceAdd]
  have hl := hx.1
  refine copyP_st h hx hn hb fun l1 w1 h1 => ?_
  intro wa1
  replace h1 : St wa1 (Cs _ _ _ :: _) := h1.new _ _
  clear_value wa1
  refine St.app elt_pc h1.sw (sl := ⟨some (blk w1.heap.size), 1, 1⟩) (ys := [(-77, 0)]) (h1.lit (xs := [(-77, 0)]) rfl rfl 1) rfl (by simp; omega) (by simp; omega) fun l2 w2 h2 hl2 => ?_
  have hcap := Row.cap h2
  simp only [List.length_cons, List.length_nil, Nat.zero_add] at hl2
  refine ⟨by omega, by omega, ?_⟩
  rw [slA0, Int.toNat_natCast, hl]
  obtain ⟨a2, n2, c2⟩ := l2
  simp only at hl2
  subst hl2
  exact hR a2 c2 w2 h2.d2
theorem StaysP_st {a : Option Addr} {c : Nat} {sl : Sl} {xs : List Pc} (h : St w (Row EPc T.y_api_Piece ⟨a, xs.length + 1, c⟩ (xs ++ [(-77, 0)]) :: X)) (hx : ∀ w', St w' X → Has EPc w' sl xs) (hb : xs.length ≤ 1000000) {R : Bool → World → Prop}
    (hR : ∀ w', St w' (Row EPc T.y_api_Piece ⟨a, xs.length + 1, c⟩ (xs ++ [(-77, 0)]) :: X) → R true w') : F.masonrybook_StaysPieces ⟨a, xs.length, c⟩ sl w R := by
  apply E.masonrybook_StaysPieces
  unfold V.masonrybook_StaysPieces
  try simp (config := { zeta := false }) only [cnd_all, Nat.reduceAdd]
  have hpre : ∀ w', St w' (Row EPc T.y_api_Piece ⟨a, xs.length + 1, c⟩ (xs ++ [(-77, 0)]) :: X) → Has EPc w' ⟨a, xs.length, c⟩ xs := fun w' hw => by
    have hh : Has EPc w' ⟨a, xs.length + 1, c⟩ (xs ++ [(-77, 0)]) := hw.has (by decide)
    exact Has.pre (sl := ⟨a, xs.length, c⟩) hh rfl rfl
  have hw2 : ∀ w', St w' (Row EPc T.y_api_Piece ⟨a, xs.length + 1, c⟩ (xs ++ [(-77, 0)]) :: X) → Has EPc w' sl xs := fun w' hw => hx w' hw.drop
  refine SameP_st h (xs := xs) (ys := xs) hpre hw2 hb fun w1 h1 => ?_
  rw [decide_eq_true rfl]
  refine ⟨fun _ => ?_, fun h => (by cases h)⟩
  have hcap := Row.cap h1
  simp only at hcap
  obtain ⟨ad, ha, _, c0, c1⟩ := Has.pc (h1.has (by decide)) (m := xs.length) (by simp)
  rw [List.getElem_append_right (Nat.le_refl _)] at c0
  simp only [Nat.sub_self, List.getElem_cons_zero] at c0
  have e1 : w64 (((xs.length : Nat) : Int) + 1) = ((xs.length + 1 : Nat) : Int) := w64_succ (by omega)
  rw [e1, slA0]
  refine ⟨by omega, by omega, ad, ha, by omega, by omega, _, c0, ?_⟩
  exact hR w1 h1
end
end Go.Proofs.YtmokmbhhnbcelaaGreatDoor
