/- 'masonrylaw18.TreeAlike' returns true whatever the input, and leaves what it was handed as it was; the listed tables of Go's library are tied to the program's text. -/
import Derived.Test.YtggachhkcmfijaaGreatDoorQu
import Derived.Test.YtggachhkcmfijaaGreatDoorRows
import Derived.Test.YtggachhkcmfijaaGreatDoorCards
import Derived.Test.YtggachhkcmfijaaGreatDoorTie
import Derived.WalkKit
import Derived.ProofKit
import Derived.OpenShut
import Derived.Lay
import Derived.SevenTiedAt
import Derived.Lib.SmallJoins
set_option linter.unusedVariables false
namespace Go.Proofs.YtggachhkcmfijaaGreatDoor
namespace TreeAlikeDoor
open Go.ChangeShapes Go.WideShapes Go.ChangeAt Go.RowKit Go.Vc
open Go.ChangeMaps (open_string shut_string)
open Go.Deep Go.Joins
theorem own : ownKnob Tryz.prog.godebug = none := by kernel_rfl
def laid : List (String × DataW Unit) := [("unicode/utf8.acceptRanges", Rows.laid_unicode_utf8_acceptRanges), ("unicode/utf8.first", Rows.laid_unicode_utf8_first)]
theorem law {w : World} (n : Int) (pr0 : Int) (pr1 : ByteArray) (qr0 : Int) (qr1 : ByteArray) :
   Calls Tryz.prog 3 #[.int .i64 n, .agg #[.int .i64 pr0, .string pr1], .agg #[.int .i64 qr0, .string qr1]] w fun e w' => e = .returned (.bool true) ∧ Below w.heap.size w w' := by
 have h := TreeAlike_spec (w := w) (n := n) (pr0 := pr0) (pr1 := pr1.data.toList) (qr0 := qr0) (qr1 := qr1.data.toList) (R := fun b w' => b = true ∧ Below w.heap.size w w') (fun w' h => ⟨rfl, h⟩)
 rw [tx_self, tx_self] at h
 refine Calls.mono h fun e w' hx => ?_
 obtain ⟨b, he, rfl, hb⟩ := hx
 exact ⟨he, hb⟩
theorem laidOut : laidOutB Tryz.prog = true := by kernel_rfl
theorem undpr : ∃ f0 f1, Tryz.prog.underlying 23 = some (.struct #[f0, f1]) ∧ f0.type = 3 ∧ f1.type = 9 ∧ oneCellFields Tryz.prog #[f0, f1] = true := by
 exact ⟨_, _, Tryz.underlying23, rfl, rfl, by kernel_rfl⟩
theorem undqr : ∃ f0 f1, Tryz.prog.underlying 23 = some (.struct #[f0, f1]) ∧ f0.type = 3 ∧ f1.type = 9 ∧ oneCellFields Tryz.prog #[f0, f1] = true := by
 exact ⟨_, _, Tryz.underlying23, rfl, rfl, by kernel_rfl⟩
set_option maxRecDepth 100000 in
theorem lifted (os : Os) (started : os.Started) (H : Type) (enc : TypeId × Value → H) :
   ReturnsInHanded {} Tryz.checked os 3 .any (fun w args => (Rows.treeAlikeSpec.pre enc Tryz.prog Tryz.f3 [] false w args ∧ laidMetH Tryz.prog laid w) ∧ sizedMet enc Tryz.prog Tryz.f3 (OpenSpec.ofChange Rows.treeAlikeSpec) false w args)
     (Rows.treeAlikeSpec.post enc Tryz.prog Tryz.f3 false true false false) := by
 refine returnsInHanded_of_change_and (C := Tryz.checked) (X := fun w _ => laidMetH Tryz.prog laid w) (fun _ _ _ hh h => h.of_heap hh) own started (by kernel_rfl) Tryz.func3
   (ChangeSpec.witness_shaped (enc := enc) (C := Tryz.checked) (os := os) (X := fun w _ => laidMetH Tryz.prog laid w) false (World.laidAll Tryz.prog os laid) #[.int .i64 0, .agg #[.int .i64 0, .string ByteArray.empty], .agg #[.int .i64 0, .string ByteArray.empty]] 8 (World.laidAll_os _ _ _)
     (World.shaped_of_ZipB (by kernel_rfl) (by kernel_rfl)) (by kernel_rfl) (by kernel_rfl) (by kernel_rfl)
     (by rw [MakeChecks.laidMetH_plain _ _ _ (by kernel_rfl)]; exact laidMet_laidAll _ (by kernel_rfl) (by kernel_rfl))) ?_
 intro W base args ds gs before hval0 hW _ _ hL _
 have hval : ∀ (j : Nat) t v, Tryz.f3.params[j]? = some t → args[j]? = some v → Value.okWide Tryz.prog W .any base t v := hval0
 have hW' := hW
 obtain ⟨p, q, hA0, hV, rfl, _, _⟩ := hW
 have hA : DataW.TrodAll enc Tryz.prog W 0 (fun _ => true) true Tryz.f3.params.toList args.toList ds p := hA0
 rw [Tryz.params3] at hA hval
 have hA : DataW.TrodAll enc Tryz.prog W 0 (fun _ => true) true [3, 23, 23] args.toList ds p := hA
 obtain ⟨v0, vs0, d0, ds0, p0, q0, ha0, rfl, rfl, h0, r0⟩ := trodAll_cons hA
 obtain ⟨v1, vs1, d1, ds1, p1, q1, rfl, rfl, rfl, h1, r1⟩ := trodAll_cons r0
 obtain ⟨v2, vs2, d2, ds2, p2, q2, rfl, rfl, rfl, h2, r2⟩ := trodAll_cons r1
 obtain ⟨rfl, rfl, rfl⟩ := trodAll_nil r2
 obtain rfl : args = #[v0, v1, v2] := Array.ext' (by simpa using ha0)
 obtain ⟨rfl, rfl⟩ := trodVars_none hV
 obtain ⟨n, rfl, rfl, rfl, wn0⟩ := open_int Tryz.underlying3 (hval 0 3 v0 rfl rfl) h0
 have lt1 : ∀ x ∈ p1, x.block < W.heap.size := by obtain ⟨m, hm⟩ := h1; exact DataW.trod_lt m _ _ _ hm
 obtain ⟨f0, f1, hs, hf0, hf1, hone⟩ := undpr
 obtain ⟨u0, u1, y0, y1, m, rfl, _, _, t0, t1⟩ := open_agg2 hs hone (by kernel_rfl) (hval 1 23 v1 rfl rfl) h1
 rw [hf0] at t0
 rw [hf1] at t1
 obtain ⟨pr0, hx0, _⟩ := DataW.trod_int Tryz.underlying3 t0
 obtain rfl : u0 = .int .i64 pr0 := by simpa using hx0
 obtain ⟨pr1, hxs, _⟩ := DataW.trod_string Tryz.underlying9 t1
 obtain rfl : u1 = .string pr1 := by simpa using hxs
 have lt2 : ∀ x ∈ p2, x.block < W.heap.size := by obtain ⟨m, hm⟩ := h2; exact DataW.trod_lt m _ _ _ hm
 obtain ⟨f0, f1, hs, hf0, hf1, hone⟩ := undqr
 obtain ⟨u0, u1, y0, y1, m, rfl, _, _, t0, t1⟩ := open_agg2 hs hone (by kernel_rfl) (hval 2 23 v2 rfl rfl) h2
 rw [hf0] at t0
 rw [hf1] at t1
 obtain ⟨qr0, hx0, _⟩ := DataW.trod_int Tryz.underlying3 t0
 obtain rfl : u0 = .int .i64 qr0 := by simpa using hx0
 obtain ⟨qr1, hxs, _⟩ := DataW.trod_string Tryz.underlying9 t1
 obtain rfl : u1 = .string qr1 := by simpa using hxs
 refine (law n pr0 pr1 qr0 qr1).mono fun e W' ⟨he, hb⟩ => ?_
 subst he
 exact ⟨_, rfl, _, _, _, [], _, [], hW', trodAll_mk1 (shut_bool Tryz.underlying4 _), (trodAll_cons_mk (shut_int Tryz.underlying3 wn0) (trodAll_cons_mk (Below.trod laidOut (by kernel_rfl) (of_decide_eq_true (by kernel_rfl)) h1 hb lt1) (trodAll_cons_mk (Below.trod laidOut (by kernel_rfl) (of_decide_eq_true (by kernel_rfl)) h2 hb lt2) trodAll_mk0))), rfl, hb.frame _, fun h => by cases h⟩
end TreeAlikeDoor
end Go.Proofs.YtggachhkcmfijaaGreatDoor
