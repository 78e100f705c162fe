/- masonrybook: lists of pieces that are lent, kept, marked, grown. -/
import Derived.Test.YtmokmbhhnbcelaaGreatDoorBo
import Derived.Test.YtmokmbhhnbcelaaGreatDoorPe
set_option linter.unusedVariables false
namespace Go.Proofs.YtmokmbhhnbcelaaGreatDoor
open Go Go.Vc Go.RowKit Go.Lib

theorem Own.setN {w : World} {t : TypeId} {sz : Nat} (hsz : 0 < sz) {l : Sl} {xs : List Value} (h : Own w t sz l xs) {k : Nat} (hk : k < xs.length) (x : Value) {a : Addr} (ha : l.a = some a) :
    Wr w (a.add k) ∧ Own (w.setCell (a.add k) x) t sz l (xs.set k x) ∧ Fr l.bk w (w.setCell (a.add k) x) := by
  have hlen := h.len
  have h0 : l.len ≠ 0 := fun h0 => by rw [h0] at hlen; omega
  obtain ⟨g, cur, ha', hg, hc, ht, hlc, hm⟩ := Own.row h h0
  rw [ha] at ha'
  injection ha' with ha'
  subst ha'
  have h2 := blk_set hg k x
  have hle : l.len * sz ≤ l.cap * sz := Nat.mul_le_mul_right _ hlc
  refine ⟨blk_wr hg (by omega), ?_, (fr_set w g k _).mono (fun i _ hi => ⟨blk g, ha, Eq.symm hi⟩)⟩
  have h3 := Own.of (n := l.len) (cap := l.cap) h2 (by rw [List.length_set, hc]) hlc hm
  have e : (cur.set k x).take (l.len * sz) = xs.set k x := by
    rw [List.take_set, ht]
  rw [e] at h3
  have : l = ⟨some (blk g), l.len, l.cap⟩ := by cases l; simp only at ha; subst ha; rfl
  rw [this]; exact h3

section
variable {w : World} {X : List As}
end

section
variable {w : World} {X : List As} {α : Type} {En : Enc α} {t : TypeId} {l : Sl} {xs : List α}
/-- append of a slice that may be nil -/
theorem St.appN {P : Program} {ts ty : TypeId} {bytes : Nat} (hE : Elt P ts t En.n bytes) (h : St w (Row En t l xs :: X)) {sl : Sl} {ys : List α} (hs : Has En w sl ys) (hn : NilOk sl)
    (hb : (xs.length + ys.length) * bytes ≤ 140737488355328) (hb2 : xs.length + ys.length ≤ 4611686018427387904) {R : Sl → World → Prop}
    (hR : ∀ l' w', St w' (Row En t l' (xs ++ ys) :: X) → l'.len = xs.length + ys.length → R l' w') :
    RunT P (Builtin.append_ #[ts, ts] ty #[.slice l.a l.len l.cap, .slice sl.a sl.len sl.cap]) [.one .slice] w R := by
  cases ha : sl.a with
  | none =>
    have hz := hn ha
    subst hz
    have hy : ys = [] := List.eq_nil_of_length_eq_zero (by rw [← hs.1])
    subst hy
    obtain ⟨i, z, hi, hz, h1, h2, h3⟩ := hE.info
    have hr := run_append_owned_none (P := P) w 0 ts ty t i En.n hE.und hi (.slice l.a l.len l.cap) l.len (En.all xs) h.own
    exact runT_slice hr (hR l w (by rw [List.append_nil]; exact h) (h.has hE.pos).1)
  | some a => exact St.app hE h hs ha hb hb2 hR
theorem St.copy {P : Program} {ts ty : TypeId} {bytes : Nat} (hE : Elt P ts t En.n bytes) (h : St w X) {sl : Sl} (hs : Has En w sl xs) (hn : NilOk sl)
    (hb : xs.length * bytes ≤ 140737488355328) (hb2 : xs.length ≤ 4611686018427387904) {R : Sl → World → Prop} (hR : ∀ l' w', St w' (Row En t l' xs :: X) → R l' w') :
    RunT P (Builtin.append_ #[ts, ts] ty #[.slice none 0 0, .slice sl.a sl.len sl.cap]) [.one .slice] w R :=
  St.appN hE (h.row0 En t) hs hn (by simpa using hb) (by simpa using hb2) fun l' w' h' _ => hR l' w' h'
theorem Row.nilOk (h : St w (Row En t l xs :: X)) : NilOk l := fun ha => (Own.isNil h.own ha).1
end

/-! ### Marks -/
section
variable {w : World} {X : List As}
end
end Go.Proofs.YtmokmbhhnbcelaaGreatDoor
