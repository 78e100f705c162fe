/- plan: which pieces of a range; in plain words. -/
import Derived.Test.YtmokmbhhnbcelaaGreatDoorShelg
import Derived.Test.YtmokmbhhnbcelaaGreatDoorCl
import Derived.Test.YtmokmbhhnbcelaaGreatDoorGc
import Derived.Test.YtmokmbhhnbcelaaGreatDoorBa
import Derived.Test.YtmokmbhhnbcelaaGreatDoorCy
set_option linter.unusedVariables false
namespace Go.Proofs.YtmokmbhhnbcelaaGreatDoor
open Go Go.Vc Go.RowKit Go.Lib
/-- a piece: where, how long -/
abbrev Pc := Int × Int
structure CutV where
  at_ : Int
  out : List Pc
  ahead : Int
  behind : Int
def LenOk (l : List Pc) : Prop := ∀ p ∈ l, 1 ≤ p.2 ∧ p.2 ≤ 128
theorem LenOk.app {a b : List Pc} (h : LenOk (a ++ b)) : LenOk a ∧ LenOk b := ⟨fun p hp => h p (List.mem_append.2 (.inl hp)), fun p hp => h p (List.mem_append.2 (.inr hp))⟩
end Go.Proofs.YtmokmbhhnbcelaaGreatDoor

/- plan: pieces as bytes, and back; in plain words. -/
set_option linter.unusedVariables false
namespace Go.Proofs.YtmokmbhhnbcelaaGreatDoor
open Go Go.Vc Go.RowKit Go.Lib
end Go.Proofs.YtmokmbhhnbcelaaGreatDoor

/- plan: Size, Cut, may; masonrybook.SamePieces. -/
set_option linter.unusedVariables false
namespace Go.Proofs.YtmokmbhhnbcelaaGreatDoor
open Go Go.Vc Go.RowKit Go.Lib
theorem LenOk.take {l : List Pc} (h : LenOk l) (m : Nat) : LenOk (l.take m) := fun p hp => h p (List.mem_of_mem_take hp)
section
variable {w : World} {X : List As}
end
end Go.Proofs.YtmokmbhhnbcelaaGreatDoor

/- plan: may; masonrybook.SamePieces. -/
set_option linter.unusedVariables false
namespace Go.Proofs.YtmokmbhhnbcelaaGreatDoor
open Go Go.Vc Go.RowKit Go.Lib
section
variable {w : World} {X : List As}
end
end Go.Proofs.YtmokmbhhnbcelaaGreatDoor

/- masonrybook: lists of pieces that are lent, kept, marked, grown. -/
set_option linter.unusedVariables false
namespace Go.Proofs.YtmokmbhhnbcelaaGreatDoor
open Go Go.Vc Go.RowKit Go.Lib
section
variable {w : World} {X : List As}
end
section
variable {w : World} {X : List As} {α : Type} {En : Enc α} {t : TypeId} {l : Sl} {xs : List α}
/-- append of a slice that may be nil -/
theorem St.appN {P : Program} {ts ty : TypeId} {bytes : Nat} (hE : Elt P ts t En.n bytes) (h : St w (Row En t l xs :: X)) {sl : Sl} {ys : List α} (hs : Has En w sl ys) (hn : NilOk sl)
    (hb : (xs.length + ys.length) * bytes ≤ 140737488355328) (hb2 : xs.length + ys.length ≤ 4611686018427387904) {R : Sl → World → Prop}
    (hR : ∀ l' w', St w' (Row En t l' (xs ++ ys) :: X) → l'.len = xs.length + ys.length → R l' w') :
    RunT P (Builtin.append_ #[ts, ts] ty #[.slice l.a l.len l.cap, .slice sl.a sl.len sl.cap]) [.one .slice] w R := by
  cases ha : sl.a with
  | none =>
    have hz := hn ha
    subst hz
    have hy : ys = [] := List.eq_nil_of_length_eq_zero (by rw [← hs.1])
    subst hy
    obtain ⟨i, z, hi, hz, h1, h2, h3⟩ := hE.info
    have hr := run_append_owned_none (P := P) w 0 ts ty t i En.n hE.und hi (.slice l.a l.len l.cap) l.len (En.all xs) h.own
    exact runT_slice hr (hR l w (by rw [List.append_nil]; exact h) (h.has hE.pos).1)
  | some a => exact St.app hE h hs ha hb hb2 hR
theorem St.copy {P : Program} {ts ty : TypeId} {bytes : Nat} (hE : Elt P ts t En.n bytes) (h : St w X) {sl : Sl} (hs : Has En w sl xs) (hn : NilOk sl)
    (hb : xs.length * bytes ≤ 140737488355328) (hb2 : xs.length ≤ 4611686018427387904) {R : Sl → World → Prop} (hR : ∀ l' w', St w' (Row En t l' xs :: X) → R l' w') :
    RunT P (Builtin.append_ #[ts, ts] ty #[.slice none 0 0, .slice sl.a sl.len sl.cap]) [.one .slice] w R :=
  St.appN hE (h.row0 En t) hs hn (by simpa using hb) (by simpa using hb2) fun l' w' h' _ => hR l' w' h'
end
/-! ### Marks -/
section
variable {w : World} {X : List As}
end
end Go.Proofs.YtmokmbhhnbcelaaGreatDoor

/- masonrybook: lists of texts: copies, lent ones, short ones, joined. -/
set_option linter.unusedVariables false
namespace Go.Proofs.YtmokmbhhnbcelaaGreatDoor
open Go Go.Vc Go.RowKit Go.Lib
theorem Has.txt {w : World} {l : Sl} {xs : List Bs} (h : Has ET w l xs) {m : Nat} (hm : m < xs.length) : ∃ ad, l.a = some ad ∧ m < l.len ∧ w.cell? (ad.add (m * 1)) = some (.string (tx xs[m])) := by
  obtain ⟨ad, ha, hl, hc⟩ := h.at hm
  have h0 := hc 0 _ rfl
  rw [Vc.addr_add0] at h0
  exact ⟨ad, ha, hl, h0⟩
section
variable {w : World} {X : List As}
end
end Go.Proofs.YtmokmbhhnbcelaaGreatDoor

/- ChainSizes: the walk. -/
set_option linter.unusedVariables false
namespace Go.Proofs.YtmokmbhhnbcelaaGreatDoor
open Go Go.Vc Go.RowKit Go.Lib
theorem giveL_get (bs : List Bool) {i : Nat} (hi : i < bs.length) (zs : List Int) : (giveL bs zs).getD i false = (bs.getD i false && decide ((i : Int) ∉ zs)) := by
  refine snoc_ind (P := fun zs => (giveL bs zs).getD i false = (bs.getD i false && decide ((i : Int) ∉ zs))) (by simp [giveL]) (fun l x ih => ?_) zs
  have hl := giveL_len bs l
  rw [giveL_app]
  by_cases hx : x = (i : Int)
  · have e : decide ((i : Int) ∉ l ++ [x]) = false := by simp [hx]
    rw [e, Bool.and_false]
    split
    · have : x.toNat = i := by omega
      rw [this]; simp [hl, hi]
    · rename_i hu
      simp only [usedB, Bool.and_eq_true, decide_eq_true_eq, not_and, Bool.not_eq_true] at hu
      have := hu (by omega) (by omega)
      have e2 : x.toNat = i := by omega
      rw [e2] at this; exact this
  · have e : decide ((i : Int) ∉ l ++ [x]) = decide ((i : Int) ∉ l) := by
      have : ¬ (i : Int) = x := fun h => hx h.symm
      simp [this]
    rw [e]
    split
    · rename_i hu
      simp only [usedB, Bool.and_eq_true, decide_eq_true_eq] at hu
      have : x.toNat ≠ i := by omega
      rw [← ih]
      simp only [List.getD_eq_getElem?_getD]
      rw [List.getElem?_set_ne this]
    · exact ih
theorem place_ok {D : DkV} {n : Nat} (hn : n ≤ freeN D.bs) (h0 : D.bs.getD 0 false = true) (h1 : D.bs.getD 1 false = true) {i : Nat} (hi : i < n) : 2 ≤ placeP D n i := by
  have h := (place_used hi hn).2
  have hr := (placeP_range D n i).1
  rcases Int.lt_or_le (placeP D n i) 2 with h2 | h2
  · have : (placeP D n i).toNat = 0 ∨ (placeP D n i).toNat = 1 := by omega
    rcases this with e | e <;> rw [e] at h
    · rw [h0] at h; cases h
    · rw [h1] at h; cases h
  · exact h2
theorem drop_ok {D : DkV} {n : Nat} {P : Nat → Int} (hinj : ∀ i j, i < n → j < n → P i = P j → i = j) (hP : ∀ i, i < n → 2 ≤ P i ∧ usedB D.bs (P i) = true) : dropOk D.bs ((List.range n).map P) := fun i hi => by
  have hi' : i < n := by simpa using hi
  have e : ((List.range n).map P)[i] = P i := by simp
  rw [e]
  have := hP i hi'
  refine ⟨by omega, by omega, this.2, fun hm => ?_⟩
  rw [List.mem_take_iff_getElem] at hm
  obtain ⟨j, hj, he⟩ := hm
  simp at hj he
  have := hinj j i (by omega) hi' he
  omega
section
variable {w : World} {X : List As}
theorem Ints.take {sl : Sl} {zs : List Int} (hT : Ints w sl zs) {m : Nat} (hm : m ≤ zs.length) (c : Nat) : Ints w ⟨sl.a, m, c⟩ (zs.take m) :=
  ⟨by simp [hm], fun j v hj => by
    rw [List.getElem?_take] at hj
    split at hj
    · exact hT.2 j v hj
    · cases hj⟩
end
end Go.Proofs.YtmokmbhhnbcelaaGreatDoor

/- chain.Refs, whole. -/
set_option linter.unusedVariables false
namespace Go.Proofs.YtmokmbhhnbcelaaGreatDoor
open Go Go.Vc Go.RowKit Go.Lib
section
variable {w : World} {X : List As} {k g c : Nat} {D : DkV}
set_option maxHeartbeats 1000000 in
theorem Refs_chain (h : St w (DeskS k g c D :: X)) {a by_ : Int} (ha : -9223372036854775808 ≤ a ∧ a < 9223372036854775808) (hc : c ≤ 1000000) {R : Int → Int → World → Prop}
    (hu : (walkD D a).2.2 = 0 → a ≠ 1 ∧ usedB D.bs a = true)
    (hE : ∀ w', (walkD D a).2.2 ≠ 0 → St w' (DeskS k g c D :: X) → R 0 (walkD D a).2.2 w')
    (hB : ∀ x xs w', (walkD D a).1 = x :: xs → (walkD D a).2.2 = 0 → (by_ < -x.refs ∨ 60000 - x.refs < by_) → St w' (DeskS k g c D :: X) → R 0 15 w')
    (hR : ∀ x xs w', (walkD D a).1 = x :: xs → (walkD D a).2.2 = 0 → -x.refs ≤ by_ → by_ ≤ 60000 - x.refs → St w' (DeskS k g (c + 1) (setD D a (layLk { x with refs := x.refs + by_ })) :: X) → R (x.refs + by_) 0 w') : F.chain_Refs (some (blk k)) a by_ w R := by
  apply E.chain_Refs
  unfold V.chain_Refs
  try simp (config := { zeta := false }) only [cnd_all, Nat.reduceAdd]
  refine walk_chain h ha fun l pl w1 h1 => ⟨fun he => hE _ he h1.drop.drop, fun he => ?_⟩
  obtain ⟨f1, f2, f3, f4⟩ := walkD_facts he
  obtain ⟨u1, u2⟩ := hu he
  generalize (walkD D a).1 = xs at *
  generalize (walkD D a).2.1 = ps at *
  obtain ⟨x, r, rfl⟩ : ∃ x r, xs = x :: r := by
    rcases xs with _ | ⟨x, r⟩
    · exact absurd rfl f3
    · exact ⟨x, r, rfl⟩
  have hx := f1 x (List.mem_cons_self ..)
  have hr := hx.refs
  have hBb := hB x r
  have hRr := hR x r
  obtain ⟨ad, had, hlt, c0, c1, c2, c3, c4, c5⟩ := Has.lk (h1.has (by decide)) (m := 0) (by simp)
  refine ⟨ad, had, by decide, by omega, _, c0, _, c1, _, c2, _, c3, _, c4, _, c5, ?_⟩
  have h2 := h1.drop.drop
  intro wa1
  replace h2 : St wa1 (Cs _ _ _ :: _) := h2.new _ _
  clear_value wa1
  refine ⟨h2.wr0 (by simp), ?_⟩
  intro wa2
  replace h2 : St wa2 _ := h2.set0 _
  clear_value wa2
  refine ⟨h2.wr (by simp), ?_⟩
  intro wa3
  replace h2 : St wa3 _ := h2.set 1 _
  clear_value wa3
  refine ⟨h2.wr (by simp), ?_⟩
  intro wa4
  replace h2 : St wa4 _ := h2.set 2 _
  clear_value wa4
  refine ⟨h2.wr (by simp), ?_⟩
  intro wa5
  replace h2 : St wa5 _ := h2.set 3 _
  clear_value wa5
  refine ⟨h2.wr (by simp), ?_⟩
  intro wa6
  replace h2 : St wa6 _ := h2.set 4 _
  clear_value wa6
  refine ⟨h2.wr (by simp), ?_⟩
  intro wa7
  replace h2 : St wa7 _ := h2.set 5 _
  clear_value wa7
  simp only [List.set_cons_zero, List.set_cons_succ] at h2
  generalize w1.heap.size = z at *
  have e1 : w64 (0 - x.refs) = -x.refs := by rw [w64_id (by omega) (by omega)]; omega
  have e2 : w64 (60000 - x.refs) = 60000 - x.refs := w64_id (by omega) (by omega)
  simp only [List.getElem_cons_zero] at h2
  refine ⟨fun b w' => w' = wa7 ∧ b = decide (by_ < -x.refs ∨ 60000 - x.refs < by_), ⟨_, h2.cell 3, fun hb => ⟨rfl, ?_⟩, fun hb => ⟨_, h2.cell 3, rfl, ?_⟩⟩, ?_⟩
  · rw [eq_comm, decide_eq_true_iff]; left; omega
  · rw [Bool.eq_iff_iff, decide_eq_true_iff, decide_eq_true_iff]; omega
  rintro b w2 ⟨rfl, rfl⟩
  refine ⟨fun hb => hBb _ rfl he (of_decide_eq_true hb) h2.drop, fun hb => ?_⟩
  have hb := of_decide_eq_false hb
  have e3 : w64 (x.refs + by_) = x.refs + by_ := w64_id (by omega) (by omega)
  refine ⟨_, h2.cell 3, ?_⟩
  rw [e3]
  refine ⟨h2.wr (by simp), ?_⟩
  intro wa8
  replace h2 : St wa8 _ := h2.set 3 _
  clear_value wa8
  simp only [List.set_cons_zero, List.set_cons_succ] at h2
  refine ⟨_, h2.cell0, _, h2.cell 1, _, h2.cell 2, _, h2.cell 3, _, h2.cell 4, _, h2.cell 5, ?_⟩
  have hx2 : LkOk { x with refs := x.refs + by_ } := ⟨hx.gen, hx.tag, hx.number, by simp only; omega, hx.next, hx.data⟩
  refine lay_link (x := { x with refs := x.refs + by_ }) hx2 h2 fun w3 h3 => ?_
  have hll := layLk_len hx2
  refine Set_st h3.sw hc (by omega) (fun h => ?_) (fun _ _ h => absurd hll h) fun w4 _ _ _ h4 => ⟨fun h => absurd rfl h, fun _ => ⟨_, h4.sw.cell 3, ?_⟩⟩
  · rcases h with h | h
    · exact absurd h u1
    · rw [u2] at h; cases h
  exact hRr _ rfl he (by omega) (by omega) h4.sw.drop
end
end Go.Proofs.YtmokmbhhnbcelaaGreatDoor
