/- 'masonrylaw16.BrickTells' returns true whatever the input, and leaves what it was handed as it was; the listed tables of Go's library are tied to the program's text. -/
import Derived.Test.YtmokmbhhnbcelaaGreatDoorGmj
import Derived.Test.YtmokmbhhnbcelaaGreatDoorRows
import Derived.Test.YtmokmbhhnbcelaaGreatDoorCards
import Derived.Test.YtmokmbhhnbcelaaGreatDoorTie
import Derived.WalkKit
import Derived.ProofKit
import Derived.OpenShut
import Derived.Lay
import Derived.SevenTiedAt
set_option linter.unusedVariables false
namespace Go.Proofs.YtmokmbhhnbcelaaGreatDoor
namespace BrickTellsDoor
open Go.ChangeShapes Go.WideShapes Go.ChangeAt Go.RowKit Go.Vc
open Go.ChangeMaps (open_string shut_string)
theorem own : ownKnob Tryz.prog.godebug = none := by kernel_rfl
def laid : List (String × DataW Unit) := [("unicode/utf8.acceptRanges", Rows.laid_unicode_utf8_acceptRanges), ("unicode/utf8.first", Rows.laid_unicode_utf8_first)]
theorem law {w : World} (gen : Int) (l : Sl) (lZ : List Bs) (hl : TxsN w l lZ) (by_ : Int) :
   Calls Tryz.prog 15 #[.int .i64 gen, .slice l.a l.len l.cap, .int .i64 by_] w fun e w' => e = .returned (.bool true) ∧ Below w.heap.size w w' := by
 have h := BrickTells_spec (w := w) (gen := gen) (hl := hl) (by_ := by_) (R := fun b w' => b = true ∧ Below w.heap.size w w') (fun w' h => ⟨rfl, h⟩)
 refine Calls.mono h fun e w' hx => ?_
 obtain ⟨b, he, rfl, hb⟩ := hx
 exact ⟨he, hb⟩
theorem laidOut : laidOutB Tryz.prog = true := by kernel_rfl
set_option maxRecDepth 100000 in
theorem lifted (os : Os) (started : os.Started) (H : Type) (enc : TypeId × Value → H) :
   ReturnsInHanded {} Tryz.checked os 15 .any (fun w args => (Rows.brickTellsSpec.pre enc Tryz.prog Tryz.f15 [] false w args ∧ laidMetH Tryz.prog laid w) ∧ sizedMet enc Tryz.prog Tryz.f15 (OpenSpec.ofChange Rows.brickTellsSpec) false w args)
     (Rows.brickTellsSpec.post enc Tryz.prog Tryz.f15 false true false false) := by
 refine returnsInHanded_of_change_and (C := Tryz.checked) (X := fun w _ => laidMetH Tryz.prog laid w) (fun _ _ _ hh h => h.of_heap hh) own started (by kernel_rfl) Tryz.func15
   (ChangeSpec.witness_shaped (enc := enc) (C := Tryz.checked) (os := os) (X := fun w _ => laidMetH Tryz.prog laid w) false (World.laidAll Tryz.prog os laid) #[.int .i64 0, .slice none 0 0, .int .i64 0] 8 (World.laidAll_os _ _ _)
     (World.shaped_of_ZipB (by kernel_rfl) (by kernel_rfl)) (by kernel_rfl) (by kernel_rfl) (by kernel_rfl)
     (by rw [MakeChecks.laidMetH_plain _ _ _ (by kernel_rfl)]; exact laidMet_laidAll _ (by kernel_rfl) (by kernel_rfl))) ?_
 intro W base args ds gs before hval0 hW _ _ hL _
 have hval : ∀ (j : Nat) t v, Tryz.f15.params[j]? = some t → args[j]? = some v → Value.okWide Tryz.prog W .any base t v := hval0
 have hW' := hW
 obtain ⟨p, q, hA0, hV, rfl, _, _⟩ := hW
 have hA : DataW.TrodAll enc Tryz.prog W 0 (fun _ => true) true Tryz.f15.params.toList args.toList ds p := hA0
 rw [Tryz.params15] at hA hval
 have hA : DataW.TrodAll enc Tryz.prog W 0 (fun _ => true) true [3, 100, 3] args.toList ds p := hA
 obtain ⟨v0, vs0, d0, ds0, p0, q0, ha0, rfl, rfl, h0, r0⟩ := trodAll_cons hA
 obtain ⟨v1, vs1, d1, ds1, p1, q1, rfl, rfl, rfl, h1, r1⟩ := trodAll_cons r0
 obtain ⟨v2, vs2, d2, ds2, p2, q2, rfl, rfl, rfl, h2, r2⟩ := trodAll_cons r1
 obtain ⟨rfl, rfl, rfl⟩ := trodAll_nil r2
 obtain rfl : args = #[v0, v1, v2] := Array.ext' (by simpa using ha0)
 obtain ⟨rfl, rfl⟩ := trodVars_none hV
 obtain ⟨gen, rfl, rfl, rfl, wn0⟩ := open_int Tryz.underlying3 (hval 0 3 v0 rfl rfl) h0
 obtain ⟨a1, len1, cap1, rfl⟩ := okWide_slice Tryz.underlying100 (hval 1 100 v1 rfl rfl)
 have lt1 : ∀ x ∈ p1, x.block < W.heap.size := by obtain ⟨m, hm⟩ := h1; exact DataW.trod_lt m _ _ _ hm
 obtain ⟨zs1, hT1⟩ := rd_txsN.slice h1
 obtain ⟨by_, rfl, rfl, rfl, wn2⟩ := open_int Tryz.underlying3 (hval 2 3 v2 rfl rfl) h2
 refine (law gen ⟨a1, len1, cap1⟩ zs1 hT1 by_).mono fun e W' ⟨he, hb⟩ => ?_
 subst he
 exact ⟨_, rfl, _, _, _, [], _, [], hW', trodAll_mk1 (shut_bool Tryz.underlying4 _), (trodAll_cons_mk (shut_int Tryz.underlying3 wn0) (trodAll_cons_mk (Below.trod laidOut (by kernel_rfl) (of_decide_eq_true (by kernel_rfl)) h1 hb lt1) (trodAll_cons_mk (shut_int Tryz.underlying3 wn2) trodAll_mk0))), rfl, hb.frame _, fun h => by cases h⟩
end BrickTellsDoor
end Go.Proofs.YtmokmbhhnbcelaaGreatDoor
