/- masonrybook: lists of pieces that are lent, kept, marked, grown. -/
import Derived.Test.YtmokmbhhnbcelaaGreatDoorCl
import Derived.Test.YtmokmbhhnbcelaaGreatDoorPe
import Derived.Test.YtmokmbhhnbcelaaGreatDoorGc
import Derived.Test.YtmokmbhhnbcelaaGreatDoorBa
set_option linter.unusedVariables false
namespace Go.Proofs.YtmokmbhhnbcelaaGreatDoor
open Go Go.Vc Go.RowKit Go.Lib

section
variable {w : World} {X : List As}
end

section
variable {w : World} {X : List As} {α : Type} {En : Enc α} {t : TypeId} {l : Sl} {xs : List α}
/-- append of a slice that may be nil -/
theorem St.appN {P : Program} {ts ty : TypeId} {bytes : Nat} (hE : Elt P ts t En.n bytes) (h : St w (Row En t l xs :: X)) {sl : Sl} {ys : List α} (hs : Has En w sl ys) (hn : NilOk sl)
    (hb : (xs.length + ys.length) * bytes ≤ 140737488355328) (hb2 : xs.length + ys.length ≤ 4611686018427387904) {R : Sl → World → Prop}
    (hR : ∀ l' w', St w' (Row En t l' (xs ++ ys) :: X) → l'.len = xs.length + ys.length → R l' w') :
    RunT P (Builtin.append_ #[ts, ts] ty #[.slice l.a l.len l.cap, .slice sl.a sl.len sl.cap]) [.one .slice] w R := by
  cases ha : sl.a with
  | none =>
    have hz := hn ha
    subst hz
    have hy : ys = [] := List.eq_nil_of_length_eq_zero (by rw [← hs.1])
    subst hy
    obtain ⟨i, z, hi, hz, h1, h2, h3⟩ := hE.info
    have hr := run_append_owned_none (P := P) w 0 ts ty t i En.n hE.und hi (.slice l.a l.len l.cap) l.len (En.all xs) h.own
    exact runT_slice hr (hR l w (by rw [List.append_nil]; exact h) (h.has hE.pos).1)
  | some a => exact St.app hE h hs ha hb hb2 hR
theorem St.copy {P : Program} {ts ty : TypeId} {bytes : Nat} (hE : Elt P ts t En.n bytes) (h : St w X) {sl : Sl} (hs : Has En w sl xs) (hn : NilOk sl)
    (hb : xs.length * bytes ≤ 140737488355328) (hb2 : xs.length ≤ 4611686018427387904) {R : Sl → World → Prop} (hR : ∀ l' w', St w' (Row En t l' xs :: X) → R l' w') :
    RunT P (Builtin.append_ #[ts, ts] ty #[.slice none 0 0, .slice sl.a sl.len sl.cap]) [.one .slice] w R :=
  St.appN hE (h.row0 En t) hs hn (by simpa using hb) (by simpa using hb2) fun l' w' h' _ => hR l' w' h'
end

/-! ### Marks -/
section
variable {w : World} {X : List As}
end
end Go.Proofs.YtmokmbhhnbcelaaGreatDoor

/- masonrybook: lists of texts: copies, lent ones, short ones, joined. -/
set_option linter.unusedVariables false
namespace Go.Proofs.YtmokmbhhnbcelaaGreatDoor
open Go Go.Vc Go.RowKit Go.Lib

section
variable {w : World} {X : List As}
end
end Go.Proofs.YtmokmbhhnbcelaaGreatDoor
