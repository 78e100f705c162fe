/- desk: Keep; Drop of a list that came in. -/
import Derived.Test.YtmokmbhhnbcelaaGreatDoorSs
import Derived.Test.YtmokmbhhnbcelaaGreatDoorShelh
import Derived.Test.YtmokmbhhnbcelaaGreatDoorHy
set_option linter.unusedVariables false
namespace Go.Proofs.YtmokmbhhnbcelaaGreatDoor
open Go Go.Vc Go.RowKit Go.Lib Go.Maps Go.Proofs

section
variable {w : World}
end
end Go.Proofs.YtmokmbhhnbcelaaGreatDoor

/- desk: its parts apart; Drop, Keep of lists that came in; acts without syncs. -/
set_option linter.unusedVariables false
namespace Go.Proofs.YtmokmbhhnbcelaaGreatDoor
open Go Go.Vc Go.RowKit Go.Lib Go.Maps Go.Proofs

/-- a Wal and its disk -/
def WDS (u g : Nat) (D : DkV) : As where
  p := fun w S => ∃ fpd, Wl w u g ⟨D.seq, false, D.commits⟩ ∧ Dsk w g fpd D.d ∧ S = fun j => j = u ∨ fpd j
  lt := fun ⟨fpd, h1, h2, e⟩ k hk => by
    subst e
    rcases hk with rfl | hk
    · exact h1.lt
    · exact h2.lt hk
  keep := fun ⟨fpd, h1, h2, e⟩ hf => ⟨fpd, h1.keep hf (fun hn => hn (by subst e; exact .inl rfl)), h2.keep hf (fun j hj hn => hn (by subst e; exact .inr hj)), e⟩
abbrev dkC (u r b : Nat) (s : Int) : List Value := [.pointer (some (blk u)), .pointer (some (blk r)), .map (some b), .int .i64 s, .int .i64 0]
section
variable {w : World} {X : List As} {k g c : Nat} {D : DkV}
theorem DeskS.parts (h : St w (DeskS k g c D :: X)) : DOk c D ∧ ∃ u r b, St w (Cs k (dkC u r b D.syncs) T.y_desk_Desk :: RoomS r D.bs :: MapS b D.ws :: WDS u g D :: X) := by
  obtain ⟨Tf, a, t, ⟨hk, u, r, b, fpd, fpr, hA, e⟩, hX, hd, hs⟩ := h
  subst e
  have S := hA.sep
  refine ⟨hk, u, r, b, Tf, (· = k), fun j => fpr j ∨ (j = b ∨ ((j = u ∨ fpd j) ∨ t j)), ⟨hA.obj, rfl⟩, ⟨fpr, fun j => j = b ∨ ((j = u ∨ fpd j) ∨ t j), hA.rm, ⟨(· = b), fun j => (j = u ∨ fpd j) ∨ t j, ⟨hA.mp, rfl⟩, ⟨fun j => j = u ∨ fpd j, t, ⟨fpd, hA.wl, hA.dk, rfl⟩, hX, fun j hj ht => hd j ?_ ht, fun j => Iff.rfl⟩, fun j hj hor => ?_, fun j => Iff.rfl⟩, fun j hj hor => ?_, fun j => Iff.rfl⟩, fun j hj hor => ?_, fun j => ?_⟩
  · rcases hj with hj | hj
    · exact .inr (.inl hj)
    · exact .inr (.inr (.inr (.inl hj)))
  · have hj : j = b := hj
    subst hj
    rcases hor with (h1 | h1) | h1
    · exact S.bu h1
    · exact S.db h1
    · exact hd _ (.inr (.inr (.inl rfl))) h1
  · rcases hor with h1 | (h1 | h1) | h1
    · subst h1; exact S.rb hj
    · subst h1; exact S.ru hj
    · exact S.dr j h1 hj
    · exact hd j (.inr (.inr (.inr (.inr hj)))) h1
  · have hj : j = k := hj
    subst hj
    rcases hor with h1 | h1 | (h1 | h1) | h1
    · exact S.rk h1
    · exact S.bk h1.symm
    · exact S.ku h1
    · exact S.dk h1
    · exact hd _ (.inl rfl) h1
  · rw [hs j]
    constructor
    · rintro ((h1 | h1 | h1 | h1 | h1) | h1)
      · exact .inl h1
      · exact .inr (.inr (.inr (.inl (.inl h1))))
      · exact .inr (.inr (.inl h1))
      · exact .inr (.inr (.inr (.inl (.inr h1))))
      · exact .inr (.inl h1)
      · exact .inr (.inr (.inr (.inr h1)))
    · rintro (h1 | h1 | h1 | (h1 | h1) | h1)
      · exact .inl (.inl h1)
      · exact .inl (.inr (.inr (.inr (.inr h1))))
      · exact .inl (.inr (.inr (.inl h1)))
      · exact .inl (.inr (.inl h1))
      · exact .inl (.inr (.inr (.inr (.inl h1))))
      · exact .inr h1
theorem DeskS.join {u r b : Nat} (hk : DOk c D) (h : St w (Cs k (dkC u r b D.syncs) T.y_desk_Desk :: RoomS r D.bs :: MapS b D.ws :: WDS u g D :: X)) : St w (DeskS k g c D :: X) := by
  obtain ⟨Tf, a1, t1, ⟨ho, e1⟩, ⟨a2, t2, hr, ⟨a3, t3, ⟨hm, e3⟩, ⟨a4, t, ⟨fpd, hw, hdk, e4⟩, hX, d4, s4⟩, d3, s3⟩, d2, s2⟩, d1, s1⟩ := h
  subst e1 e3 e4
  refine ⟨Tf, fpK k u b fpd a2, t, ⟨hk, u, r, b, fpd, a2, ⟨ho, hw, hdk, hr, hm⟩, rfl⟩, hX, fun j hj ht => ?_, fun j => ?_⟩
  · have t3j : t3 j := (s4 j).2 (.inr ht)
    have t2j : t2 j := (s3 j).2 (.inr t3j)
    have t1j : t1 j := (s2 j).2 (.inr t2j)
    rcases hj with h1 | h1 | h1 | h1 | h1
    · exact d1 j h1 t1j
    · exact d4 j (.inl h1) ht
    · exact d3 j h1 t3j
    · exact d4 j (.inr h1) ht
    · exact d2 j h1 t2j
  · rw [s1 j, s2 j, s3 j, s4 j]
    constructor
    · rintro (h1 | h1 | h1 | (h1 | h1) | h1)
      · exact .inl (.inl h1)
      · exact .inl (.inr (.inr (.inr (.inr h1))))
      · exact .inl (.inr (.inr (.inl h1)))
      · exact .inl (.inr (.inl h1))
      · exact .inl (.inr (.inr (.inr (.inl h1))))
      · exact .inr h1
    · rintro ((h1 | h1 | h1 | h1 | h1) | h1)
      · exact .inl h1
      · exact .inr (.inr (.inr (.inl (.inl h1))))
      · exact .inr (.inr (.inl h1))
      · exact .inr (.inr (.inr (.inl (.inr h1))))
      · exact .inr (.inl h1)
      · exact .inr (.inr (.inr (.inr h1)))
theorem WDS.to {u : Nat} {D' : DkV} (hd : D'.d = D.d) (hs : D'.seq = D.seq) (hc : D'.commits = D.commits) (h : St w (WDS u g D :: X)) : St w (WDS u g D' :: X) :=
  h.as fun S ⟨fpd, h1, h2, e⟩ => ⟨fpd, by rw [hs, hc]; exact h1, by rw [hd]; exact h2, e⟩

theorem Used_st {r : Nat} {bs : List Bool} (h : St w (RoomS r bs :: X)) {at_ : Int} {R : Bool → World → Prop} (hR : R (usedB bs at_) w) : F.room_Room_Used (some (blk r)) at_ w R := by
  obtain ⟨S, hr⟩ := h.hd
  exact Used_room hr hR
end
end Go.Proofs.YtmokmbhhnbcelaaGreatDoor
