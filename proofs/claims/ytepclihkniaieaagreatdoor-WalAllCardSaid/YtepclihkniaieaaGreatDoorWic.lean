/- 'masonrylaw9.WalAll' returns true whatever the input, and leaves what it was handed as it was; the listed tables of Go's library are tied to the program's text. -/
import Derived.Test.YtepclihkniaieaaGreatDoorWi
import Derived.Test.YtepclihkniaieaaGreatDoorRows
import Derived.Test.YtepclihkniaieaaGreatDoorCards
import Derived.Test.YtepclihkniaieaaGreatDoorTie
import Derived.WalkKit
import Derived.ProofKit
import Derived.OpenShut
import Derived.Lay
import Derived.SevenTiedAt
set_option linter.unusedVariables false
namespace Go.Proofs.YtepclihkniaieaaGreatDoor
namespace WalAllDoor
open Go.ChangeShapes Go.WideShapes Go.ChangeAt Go.RowKit Go.Vc
open Go.ChangeMaps (open_string shut_string)

theorem own : ownKnob Tryz.prog.godebug = none := by kernel_rfl
def laid : List (String × DataW Unit) := [("unicode/utf8.acceptRanges", Rows.laid_unicode_utf8_acceptRanges), ("unicode/utf8.first", Rows.laid_unicode_utf8_first)]

theorem law {w : World} (n : Int) (times : Int) (arm : Int) (keep : Sl) (keepZ : List Int) (hkeep : Ints w keep keepZ) :
    Calls Tryz.prog 6 #[.int .i64 n, .int .i64 times, .int .i64 arm, .slice keep.a keep.len keep.cap] w fun e w' => e = .returned (.bool true) ∧ Below w.heap.size w w' := by
  have h := WalAll_spec (w := w) (n := n) (times := times) (arm := arm) (hkeep := hkeep) (R := fun b w' => b = true ∧ Below w.heap.size w w') (fun w' h => ⟨rfl, h⟩)
  refine Calls.mono h fun e w' hx => ?_
  obtain ⟨b, he, rfl, hb⟩ := hx
  exact ⟨he, hb⟩

theorem laidOut : laidOutB Tryz.prog = true := by kernel_rfl
theorem cells3 : Tryz.prog.cellsOf 3 = 1 := by kernel_rfl

/-- the numbers that a reading of a slice meets -/
theorem ints_of {H : Type} {enc : TypeId × Value → H} {W : World} {fuel : Nat} {cs : List Value} {x : DataW H × List MemPlace} (hf : DataW.trod enc Tryz.prog W 0 (fun _ => true) true fuel 22 cs = some x) : ∃ (s : Sl) (zs : List Int), cs = [.slice s.a s.len s.cap] ∧ Ints W s zs := by
  rcases DataW.trod_slice Tryz.underlying22 hf with ⟨hcs, _⟩ | ⟨ad, len, c, elems, rest, n, _, hcs, _, _, hlc, _, hel, hi, _⟩
  · exact ⟨⟨none, 0, 0⟩, [], hcs, ⟨rfl, fun j x hj => by simp at hj⟩⟩
  · have hx : ∀ i, ∃ x : Int, i < len → W.cell? (ad.add (i * 1)) = some (.int .i64 x) := by
      intro i
      by_cases hil : i < len
      · have h1 := hi i hil
        rw [cells3, List.getElem?_eq_getElem (by omega)] at h1
        obtain ⟨cs', hc, ht⟩ := Option.bind_eq_some_iff.1 h1
        obtain ⟨t, ht1, _⟩ := DataW.trod_int Tryz.underlying3 ht
        subst ht1
        obtain ⟨_, hcl, hat⟩ := World.cells?_some hc
        have := hat 0 (by decide)
        exact ⟨t, fun _ => by simpa [Addr.add] using this⟩
      · exact ⟨0, fun h => absurd h hil⟩
    obtain ⟨f, hf⟩ := Classical.axiomOfChoice hx
    refine ⟨⟨some ad, len, c⟩, (List.range len).map f, hcs, ⟨by simp, fun j x hj => ?_⟩⟩
    have hlt : j < len := by have := (List.getElem?_eq_some_iff.1 hj).1; simpa using this
    simp [hlt] at hj
    subst hj
    exact ⟨ad, rfl, hf j hlt⟩

/-- a slice of numbers that came in -/
theorem slice_of {H : Type} {enc : TypeId × Value → H} {W : World} {a : Option Addr} {len cap : Nat} {d : DataW H} {p : List MemPlace} (h : DataW.Trod enc Tryz.prog W 0 (fun _ => true) true 22 (.slice a len cap) d p) : ∃ zs, Ints W ⟨a, len, cap⟩ zs := by
  obtain ⟨fuel, hf⟩ := h
  obtain ⟨s, zs, hcs, h1⟩ := ints_of hf
  have e : (⟨a, len, cap⟩ : Sl) = s := by
    have h3 : [Value.slice a len cap] = [.slice s.a s.len s.cap] := hcs
    simp only [List.cons.injEq, Value.slice.injEq, and_true] at h3
    obtain ⟨rfl, rfl, rfl⟩ := h3
    rfl
  exact ⟨zs, by rw [e]; exact h1⟩


set_option maxRecDepth 100000 in
theorem lifted (os : Os) (started : os.Started) (H : Type) (enc : TypeId × Value → H) :
    ReturnsInHanded {} Tryz.checked os 6 .any (fun w args => (Rows.walAllSpec.pre enc Tryz.prog Tryz.f6 [] false w args ∧ laidMetH Tryz.prog laid w) ∧ sizedMet enc Tryz.prog Tryz.f6 (OpenSpec.ofChange Rows.walAllSpec) false w args)
      (Rows.walAllSpec.post enc Tryz.prog Tryz.f6 false true false false) := by
  refine returnsInHanded_of_change_and (C := Tryz.checked) (X := fun w _ => laidMetH Tryz.prog laid w) (fun _ _ _ hh h => h.of_heap hh) own started (by kernel_rfl) Tryz.func6
    (ChangeSpec.witness_shaped (enc := enc) (C := Tryz.checked) (os := os) (X := fun w _ => laidMetH Tryz.prog laid w) false (World.laidAll Tryz.prog os laid) #[.int .i64 0, .int .i64 0, .int .i64 0, .slice none 0 0] 8 (World.laidAll_os _ _ _)
      (World.shaped_of_ZipB (by kernel_rfl) (by kernel_rfl)) (by kernel_rfl) (by kernel_rfl) (by kernel_rfl)
      (by rw [MakeChecks.laidMetH_plain _ _ _ (by kernel_rfl)]; exact laidMet_laidAll _ (by kernel_rfl) (by kernel_rfl))) ?_
  intro W base args ds gs before hval0 hW _ _ hL _
  have hval : ∀ (j : Nat) t v, Tryz.f6.params[j]? = some t → args[j]? = some v → Value.okWide Tryz.prog W .any base t v := hval0
  have hW' := hW
  obtain ⟨p, q, hA0, hV, rfl, _, _⟩ := hW
  have hA : DataW.TrodAll enc Tryz.prog W 0 (fun _ => true) true Tryz.f6.params.toList args.toList ds p := hA0
  rw [Tryz.params6] at hA hval
  have hA : DataW.TrodAll enc Tryz.prog W 0 (fun _ => true) true [3, 3, 3, 22] args.toList ds p := hA
  obtain ⟨v0, vs0, d0, ds0, p0, q0, ha0, rfl, rfl, h0, r0⟩ := trodAll_cons hA
  obtain ⟨v1, vs1, d1, ds1, p1, q1, rfl, rfl, rfl, h1, r1⟩ := trodAll_cons r0
  obtain ⟨v2, vs2, d2, ds2, p2, q2, rfl, rfl, rfl, h2, r2⟩ := trodAll_cons r1
  obtain ⟨v3, vs3, d3, ds3, p3, q3, rfl, rfl, rfl, h3, r3⟩ := trodAll_cons r2
  obtain ⟨rfl, rfl, rfl⟩ := trodAll_nil r3
  obtain rfl : args = #[v0, v1, v2, v3] := Array.ext' (by simpa using ha0)
  obtain ⟨rfl, rfl⟩ := trodVars_none hV
  obtain ⟨n, rfl, rfl, rfl, wn0⟩ := open_int Tryz.underlying3 (hval 0 3 v0 rfl rfl) h0
  obtain ⟨times, rfl, rfl, rfl, wn1⟩ := open_int Tryz.underlying3 (hval 1 3 v1 rfl rfl) h1
  obtain ⟨arm, rfl, rfl, rfl, wn2⟩ := open_int Tryz.underlying3 (hval 2 3 v2 rfl rfl) h2
  obtain ⟨a3, len3, cap3, rfl⟩ := okWide_slice Tryz.underlying22 (hval 3 22 v3 rfl rfl)
  have lt3 : ∀ x ∈ p3, x.block < W.heap.size := by obtain ⟨m, hm⟩ := h3; exact DataW.trod_lt m _ _ _ hm
  obtain ⟨zs3, hT3⟩ := slice_of h3
  refine (law n times arm ⟨a3, len3, cap3⟩ zs3 hT3).mono fun e W' ⟨he, hb⟩ => ?_
  subst he
  exact ⟨_, rfl, _, _, _, [], _, [], hW', trodAll_mk1 (shut_bool Tryz.underlying4 _), (trodAll_cons_mk (shut_int Tryz.underlying3 wn0) (trodAll_cons_mk (shut_int Tryz.underlying3 wn1) (trodAll_cons_mk (shut_int Tryz.underlying3 wn2) (trodAll_cons_mk (Below.trod laidOut (by kernel_rfl) (of_decide_eq_true (by kernel_rfl)) h3 hb lt3) trodAll_mk0)))), rfl, hb.frame _, fun h => by cases h⟩

theorem holds : Rows.WalAllSaid :=
  OpenClaim.holds_of_wide 6 Tryz.f6 rfl rfl rfl rfl rfl rfl rfl ⟨rfl, rfl, rfl, rfl, rfl⟩ rfl rfl rfl rfl rfl (by kernel_rfl) Tryz.func6 (by kernel_rfl)
    (of_decide_eq_true (by kernel_rfl)) (by unfold Func.isWrapper; first | (rw [if_pos (by decide +kernel)]; kernel_rfl) | (rw [if_neg (by decide +kernel)]; exact ⟨rfl, rfl⟩))
    (fun os started H enc _ => lifted os started H enc)

end WalAllDoor

theorem walAll_card : Rows.WalAllCardSaid :=
  Claim7.holds_tied_plain_at .later [] [.data, .pinned] true (true, "68159a114eefdcfabe243698b113625a92a2e341de3d00ec8df00b6cda78702e") true WalAllDoor.holds (fun _ h => by cases h) (by kernel_rfl) (fun _ h => by cases h) walAll_row_tie rfl ⟨rfl, rfl⟩ (by kernel_rfl) rfl
    (fun f fn hf hfn => by
      obtain rfl : f = 6 := Option.some.inj ((show Tryz.prog.funcNamed "masonry/masonrylaw9.WalAll" = some 6 by kernel_rfl).symm.trans hf) |>.symm
      obtain rfl : fn = Tryz.f6 := (Option.some.inj (Tryz.func6.symm.trans hfn)).symm
      exact ⟨by kernel_rfl, fun j t ht => by
        rw [Tryz.params6] at ht
        have hm : t ∈ [3, 3, 3, 22] := by simpa using Array.mem_of_getElem? ht
        have hall : ([3, 3, 3, 22].all fun u => !Tryz.prog.wantsStandIn u) = true := by kernel_rfl
        exact (show Tryz.prog.wantsStandIn t = false by simpa using List.all_eq_true.1 hall t hm)⟩)
    (by kernel_rfl)
#print axioms walAll_card
end Go.Proofs.YtepclihkniaieaaGreatDoor
