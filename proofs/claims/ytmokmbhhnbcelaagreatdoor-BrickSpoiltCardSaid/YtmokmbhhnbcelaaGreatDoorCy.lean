/- bytes of a text as a slice of their own; chain.Refs of a chain that is broken; masonrylaw12: ChainSpoilt. -/
import Derived.Test.YtmokmbhhnbcelaaGreatDoorCx
set_option linter.unusedVariables false
namespace Go.Proofs.YtmokmbhhnbcelaaGreatDoor
open Go Go.Vc Go.RowKit Go.Lib

/-- bytes that a text was turned to -/
def BzS (g : Nat) (bs : Bs) : As where
  p := fun w S => (∃ pad fz, w.heap[g]? = some (.cells ⟨bv bs ++ pad⟩ T.y_uint8 fz) ∧ (bv bs ++ pad).length ≤ fz.1) ∧ S = fun k => k = g
  lt := fun ⟨⟨pad, fz, h, _⟩, e⟩ k hk => by subst e; have : k = g := hk; subst this; exact heap_lt h
  keep := fun ⟨⟨pad, fz, h, h2⟩, e⟩ hf => ⟨⟨pad, fz, hf.heap h (fun hn => hn (by subst e; rfl)), h2⟩, e⟩
section
variable {w w' : World} {X : List As}
theorem St.bytes (h : St w X) {l : Bs} {R : Sl → World → Prop} (hR : ∀ g cap w', St w' (BzS g l :: X) → R ⟨some (blk g), l.length, cap⟩ w') : RunT Pg (convert T.y_string T.y_sl_uint8 (.string (tx l))) [.one .slice] w R := by
  have hr := run_bytes_of_string (P := Pg) w T.y_string T.y_sl_uint8 T.y_uint8 (tx l) und_str und_bytes und_byte
  rw [tx_size] at hr
  have e : bv l ++ List.replicate (grownCap w l.length 0 T.y_uint8 - l.length) (.int .u8 0) = (bytesRow (tx l) (grownCap w l.length 0 T.y_uint8)).toList := by
    have hs := tx_size l
    unfold bytesRow bv
    rw [hs]
    simp [tx]
  generalize grownCap w l.length 0 T.y_uint8 = cap at *
  generalize bytesRow (tx l) cap = row at *
  have hO : (w.drew.alloc (.cells row T.y_uint8 (row.size, row.size + 1))).heap[w.heap.size]? = some (.cells row T.y_uint8 (row.size, row.size + 1)) := heap_alloc_new w.drew _
  have hf : Fr no w (w.drew.alloc (.cells row T.y_uint8 (row.size, row.size + 1))) := (Fr.drew _ w).trans (Fr.alloc no _ _) (fun _ _ h => h)
  generalize w.drew.alloc (.cells row T.y_uint8 (row.size, row.size + 1)) = w1 at *
  refine runT_slice (l := ⟨some (blk w.heap.size), l.length, cap⟩) hr (hR w.heap.size cap w1 (h.add (A := BzS w.heap.size l) (S := fun k => k = w.heap.size) ⟨⟨List.replicate (cap - l.length) (.int .u8 0), (row.size, row.size + 1), by rw [e]; exact hO, by rw [e]; simp⟩, rfl⟩ hf (fun k hk => Nat.le_of_eq (Eq.symm hk))))
theorem BzS.get {g : Nat} {bs : Bs} (h : St w (BzS g bs :: X)) {k : Nat} (hk : k < bs.length) : w.cell? ((blk g).add k) = some (.int .u8 ((bs.getD k 0).toNat : Int)) := by
  obtain ⟨S, ⟨pad, fz, hb, h2⟩, e⟩ := h.hd
  rw [add_blk, cell_of_row _ g k _ _ _ hb]
  simp [bv, hk, List.getElem?_append_left]
theorem BzS.set {g : Nat} {bs : Bs} (h : St w (BzS g bs :: X)) {k : Nat} (hk : k < bs.length) (v : UInt8) :
    Wr w ((blk g).add k) ∧ St (w.setCell ((blk g).add k) (.int .u8 (v.toNat : Int))) (BzS g (bs.set k v) :: X) := by
  have hc := BzS.get h hk
  obtain ⟨S, ⟨⟨pad, fz, hb, h2⟩, e⟩, _, hX⟩ := h.out
  subst e
  have hlen : (bv bs ++ pad).length = bs.length + pad.length := by simp [bv]
  refine ⟨⟨⟨_, hc⟩, ?_⟩, hX (S' := fun k => k = g) ⟨⟨pad, fz, ?_, ?_⟩, rfl⟩ (fr_set w g k _) fun j hj => .inl hj⟩
  · rw [add_blk]
    simp [World.frozen?, hb]
    omega
  · rw [add_blk, Go.Lib.heap_setCell_same hb]
    have : (bv bs ++ pad).set k (.int .u8 (v.toNat : Int)) = bv (bs.set k v) ++ pad := by
      rw [List.set_append_left _ _ (by simp [bv, hk])]
      simp [bv, List.map_set]
    simp [List.setIfInBounds_toArray, this]
  · have : (bv (bs.set k v) ++ pad).length = (bv bs ++ pad).length := by simp [bv]
    rw [this]; exact h2
theorem BzS.str {g cap n : Nat} {bs : Bs} (h : St w (BzS g bs :: X)) (hn : n = bs.length) {R : ByteArray → World → Prop} (hR : R (tx bs) w) : RunT Pg (convert T.y_sl_uint8 T.y_string (.slice (some (blk g)) n cap)) [.one .str] w R := by
  subst hn
  have := run_convert_bytes_back (P := Pg) w T.y_sl_uint8 T.y_string T.y_uint8 (blk g) cap bs und_bytes und_byte und_str (fun j hj => by
    have := BzS.get h hj
    rw [this]; simp [hj])
  exact ⟨⟨bs.toArray⟩, w, this, hR⟩

section
variable {k g c : Nat} {D : DkV}
theorem Zeros_st (h : St w X) {n : Nat} (hn : n ≤ 1000000) {R : ByteArray → World → Prop} (hR : ∀ w', St w' X → R (tx (List.replicate n 0)) w') : F.masonryref1_Zeros (n : Int) w R := by
  apply E.masonryref1_Zeros
  unfold V.masonryref1_Zeros
  exact zeros_st h hn hR
end
end
end Go.Proofs.YtmokmbhhnbcelaaGreatDoor
