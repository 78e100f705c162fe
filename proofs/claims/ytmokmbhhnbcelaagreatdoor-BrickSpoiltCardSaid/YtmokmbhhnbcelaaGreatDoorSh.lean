/- Calls of Go's library: strings.Trim at an ASCII cutset, stringslite.Clone. -/
import Derived.Test.YtmokmbhhnbcelaaGreatDoorOu
import Derived.Test.YtmokmbhhnbcelaaGreatDoorShelf
set_option linter.unusedVariables false
namespace Go.Proofs.YtmokmbhhnbcelaaGreatDoor
open Go Go.Vc Go.RowKit Go.Lib

theorem Clone_spec {l : List UInt8} {w : World} (hs : l.length ≤ 281474976710656) {R : ByteArray → World → Prop} (hR : ∀ w', Below w.heap.size w w' → R (tx l) w') : F.stringslite_Clone (tx l) w R := by
  have c : Calls Tryz.prog 185 #[.string (tx l)] w fun e w' => e = .returned (.string (tx l)) ∧ Below w.heap.size w w' := Any.stringslite_Clone Tryz.laysM316 (tx l) w (by rw [tx_size]; exact hs)
  exact Calls.mono c fun e w' h => ⟨tx l, h.1, hR w' h.2⟩

/-- what is left of a text, at its start, without bytes of a set -/
def trimL (set : List UInt8) (l : List UInt8) : List UInt8 := l.dropWhile fun b => set.contains b
def trim (set : List UInt8) (l : List UInt8) : List UInt8 := trimL set (trimL set l.reverse).reverse


theorem Trim_ascii {l : List UInt8} {cs : ByteArray} {w : World} (hs : l.length ≤ 281474976710656) (h1 : cs.size < 4294967281) (h2 : cs.data.toList.all (fun b => decide (b.toNat < 128)) = true) {R : ByteArray → World → Prop}
    (hR : ∀ w', Below w.heap.size w w' → R (tx (trim cs.data.toList l)) w') : F.strings_Trim (tx l) cs w R := by
  have c : Calls Tryz.prog 209 #[.string (tx l), .string cs] w fun e w' => e = .returned (.string ⟨(Lib.trimS (tx l).data.toList cs.data.toList).toArray⟩) ∧ Below w.heap.size w w' :=
    Any.strings_Trim_laid Tryz.lays160 (by kernel_rfl) (tx l) cs w (by rw [tx_size]; omega) h1 (ascii_of_all h2)
  rw [tx_data] at c
  exact Calls.mono c fun e w' h => ⟨tx (trim cs.data.toList l), h.1, hR w' h.2⟩

theorem Trim_zero {l : List UInt8} {w : World} (hs : l.length ≤ 281474976710656) {R : ByteArray → World → Prop} (hR : ∀ w', Below w.heap.size w w' → R (tx (trim [0] l)) w') : F.strings_Trim (tx l) str_x_ w R :=
  Trim_ascii hs (by decide) (by decide) hR

end Go.Proofs.YtmokmbhhnbcelaaGreatDoor
