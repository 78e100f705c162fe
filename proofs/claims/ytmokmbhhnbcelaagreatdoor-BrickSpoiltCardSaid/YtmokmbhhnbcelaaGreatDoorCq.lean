/- chain: calls on a chain that is there; masonrylaw12.Fresh, alive. -/
import Derived.Test.YtmokmbhhnbcelaaGreatDoorCp
import Derived.Test.YtmokmbhhnbcelaaGreatDoorSs
set_option linter.unusedVariables false
namespace Go.Proofs.YtmokmbhhnbcelaaGreatDoor
open Go Go.Vc Go.RowKit Go.Lib

theorem freeN_bs0 {m : Nat} (hm : 2 ≤ m) : freeN (bs0 m) = m - 2 := by
  have e : bs0 m = takeN (List.replicate m false) 2 := by
    have f0 : freeAt (List.replicate m false) = 0 := freeAt_eq (fun i hi => by omega) (by rw [List.getElem?_replicate, if_pos (by omega)])
    have f1 : freeAt ((List.replicate m false).set 0 true) = 1 := freeAt_eq (fun i hi => by
      have : i = 0 := by omega
      subst this
      rw [List.getElem?_set_self (by simp; omega)]) (by rw [List.getElem?_set_ne (by omega), List.getElem?_replicate, if_pos (by omega)])
    show _ = (takeN (List.replicate m false) 1).set (freeAt (takeN (List.replicate m false) 1)) true
    have t1 : takeN (List.replicate m false) 1 = (List.replicate m false).set 0 true := by
      show (List.replicate m false).set (freeAt (List.replicate m false)) true = _
      rw [f0]
    rw [t1, f1]
    rfl
  have h0 : freeN (List.replicate m false) = m := by simp [freeN, List.countP_replicate]
  have := freeN_take (bs := List.replicate m false) (j := 2) (by omega)
  rw [e]; omega
theorem fmt0_bs {n : Nat} : (fmt0 n).bs = bs0 (n - 111) := by
  unfold fmt0 fmtD
  exact Eq.refl (bs0 (n - 111))

theorem put_has {D : DkV} {gen tag : Int} {b : Bs} (hf : needN b.length ≤ freeN D.bs) : HasC (putS D gen tag b (needN b.length) (needN b.length)).1 (linkP D gen tag b (needN b.length)) (placeP D (needN b.length)) (needN b.length) :=
  fun i hi => (putS_get (needN b.length) (Nat.le_refl _) hf).1 i (by omega) hi
theorem put_else {D : DkV} {gen tag : Int} {b : Bs} (hf : needN b.length ≤ freeN D.bs) {a : Int} (ha : ∀ i, i < needN b.length → placeP D (needN b.length) i ≠ a) : getE (putS D gen tag b (needN b.length) (needN b.length)).1 a = getE D a ∧ getD (putS D gen tag b (needN b.length) (needN b.length)).1 a = getD D a :=
  (putS_get (needN b.length) (Nat.le_refl _) hf).2 a fun i _ hi => ha i hi
theorem dataOf_put {D : DkV} {gen tag : Int} {b : Bs} (hb : b.length ≤ 9440) {n : Nat} : dataOf ((List.range (needN b.length)).map (linkP D gen tag b n)) = b := by
  have : (List.range (needN b.length)).map (fun i => (linkP D gen tag b n i).data) = (List.range (needN b.length)).map (partB b) := rfl
  unfold dataOf
  rw [List.map_map]
  show ((List.range (needN b.length)).map (fun i => (linkP D gen tag b n i).data)).flatten = b
  rw [this, partB_whole hb]
/-- the places that Put takes are in use behind it, and were free -/
theorem place_used {D : DkV} {n i : Nat} (hi : i < n) (hn : n ≤ freeN D.bs) : usedB (takeN D.bs n) (placeP D n i) = true ∧ D.bs.getD (placeP D n i).toNat false = false := by
  unfold placeP
  rw [if_pos hi]
  have h1 := take_lt (bs := D.bs) (j := n - 1 - i) (by omega)
  have h2 := (take_get D.bs n _ h1).2 (.inr ⟨n - 1 - i, by omega, rfl⟩)
  refine ⟨?_, ?_⟩
  · unfold usedB
    rw [takeN_len, decide_eq_true (by omega), decide_eq_true (by omega), Int.toNat_natCast, h2]; rfl
  · rw [Int.toNat_natCast]; exact take_was (by omega)

section
variable {w : World} {X : List As} {k g c : Nat} {D : DkV} {n : Nat} {L : Nat → Lk} {P : Nat → Int}
theorem Get_chn (h : St w (DeskS k g c D :: X)) (hc : Chn n L P) (hg : HasC D L P n) (hP : 0 ≤ P 0 ∧ P 0 < 65536) {R : Int → Int → Int → ByteArray → Int → World → Prop}
    (hR : ∀ w', St w' (DeskS k g c D :: X) → R (L 0).gen (L 0).tag (L 0).refs (tx (dataOf ((List.range n).map L))) 0 w') : F.chain_Get (some (blk k)) (P 0) w R := by
  have hw := hc.walk hg
  refine Get_chain h (by omega) (fun w' he => absurd (by rw [hw]) he) fun x xs w' hx he h' => ?_
  rw [hw] at hx
  have hp := hc.pos
  have e : (List.range n).map L = x :: xs := hx
  rw [← e]
  obtain ⟨m, rfl⟩ : ∃ m, n = m + 1 := ⟨n - 1, by omega⟩
  rw [List.range_succ_eq_map] at e
  simp only [List.map_cons, List.cons.injEq] at e
  rw [← e.1]
  exact hR w' h'
theorem Fresh_st (h : St w X) {n : Nat} (h1 : 140 ≤ n) (h2 : n ≤ 2000) {R : Option Addr → World → Prop} (hR : ∀ k g w', St w' (DeskS k g 1001 (fmt0 n) :: X) → R (some (blk k)) w') : F.masonrylaw12_Fresh (n : Int) w R := by
  apply E.masonrylaw12_Fresh
  unfold V.masonrylaw12_Fresh
  try simp (config := { zeta := false }) only [cnd_all]
  refine newdisk_st h h1 h2 fun g w1 h1' => ⟨fun h => absurd rfl h, fun _ => format0_st h1' h1 h2 fun k w2 h2' => ⟨fun h => absurd rfl h, fun _ => ⟨fun h => (by cases h), fun _ => ?_⟩⟩⟩
  obtain ⟨u, hu⟩ := DeskS.wal h2'
  exact ⟨blk k, rfl, some (blk u), hu, fun h => (by cases h), fun _ => hR k g w2 h2'⟩

end
end Go.Proofs.YtmokmbhhnbcelaaGreatDoor
