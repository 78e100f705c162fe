/- 'masonrylaw21.TableSets' returns true whatever the input, and leaves what it was handed as it was; the listed tables of Go's library are tied to the program's text. -/
import Derived.Test.YtepclihkniaieaaDoorTs
import Derived.Test.YtepclihkniaieaaDoorRows
import Derived.Test.YtepclihkniaieaaDoorCards
import Derived.Test.YtepclihkniaieaaDoorTie
import Derived.WalkKit
import Derived.ProofKit
import Derived.OpenShut
import Derived.Lay
import Derived.SevenTiedAt
set_option linter.unusedVariables false
namespace Go.Proofs.YtepclihkniaieaaDoor
namespace TableSetsDoor
open Go.ChangeShapes Go.WideShapes Go.ChangeAt Go.RowKit Go.Vc
open Go.ChangeMaps (open_string shut_string)

theorem own : ownKnob Tryd.prog.godebug = none := by kernel_rfl
def laid : List (String × DataW Unit) := [("unicode/utf8.acceptRanges", Rows.laid_unicode_utf8_acceptRanges), ("unicode/utf8.first", Rows.laid_unicode_utf8_first)]

theorem laidOut : laidOutB Tryd.prog = true := by kernel_rfl
theorem cells28 : Tryd.prog.cellsOf 28 = 2 := by kernel_rfl
theorem cells9 : Tryd.prog.cellsOf 9 = 1 := by kernel_rfl
theorem cells3 : Tryd.prog.cellsOf 3 = 1 := by kernel_rfl

theorem law (sl : Sl) (ns : List Nm) (s : ByteArray) (w : World) (hN : Names w sl ns) :
    Calls Tryd.prog 5 #[.slice sl.a sl.len sl.cap, .string s] w fun e w' => e = .returned (.bool true) ∧ Below w.heap.size w w' := by
  have h := tableSets_spec (w := w) hN (ct := s.data.toList) (R := fun b w' => b = true ∧ Below w.heap.size w w') (fun w' h => ⟨rfl, h⟩)
  rw [tx_self] at h
  refine Calls.mono h fun e w' hx => ?_
  obtain ⟨b, he, rfl, hb⟩ := hx
  exact ⟨he, hb⟩

/-- the names that a reading of the argument meets -/
theorem names_of {H : Type} {enc : TypeId × Value → H} {W : World} {a : Option Addr} {len cap : Nat} {d : DataW H} {p : List MemPlace} (h : DataW.Trod enc Tryd.prog W 0 (fun _ => true) true 31 (.slice a len cap) d p) : ∃ ns, Names W ⟨a, len, cap⟩ ns := by
  obtain ⟨fuel, hf⟩ := h
  rcases DataW.trod_slice Tryd.underlying31 hf with ⟨hcs, _⟩ | ⟨ad, l, c, elems, rest, n, _, hcs, _, _, _, _, hel, hi, _⟩
  · simp [Value.cells] at hcs
    obtain ⟨rfl, rfl, rfl⟩ := hcs
    exact ⟨[], rfl, fun j x hj => by simp at hj⟩
  · simp [Value.cells] at hcs
    obtain ⟨rfl, rfl, rfl⟩ := hcs
    have hx : ∀ i, ∃ x : Nm, i < len → W.cell? (ad.add (i * 2)) = some (.string (tx x.1)) ∧ W.cell? ((ad.add (i * 2)).add 1) = some (.int .i64 x.2) := by
      intro i
      by_cases hil : i < len
      · have h1 := hi i hil
        rw [cells28, List.getElem?_eq_getElem (by omega)] at h1
        obtain ⟨cs', hc, ht⟩ := Option.bind_eq_some_iff.1 h1
        obtain ⟨ys, n', _, _, hlen, hyl, hfld⟩ := DataW.trod_struct Tryd.underlying28 ht
        rw [cells28] at hlen
        obtain ⟨_, hcl, hat⟩ := World.cells?_some hc
        obtain ⟨u, v, rfl⟩ : ∃ u v, cs' = [u, v] := by
          rcases cs' with _ | ⟨u, _ | ⟨v, _ | ⟨x, r⟩⟩⟩
          · simp at hlen
          · simp at hlen
          · exact ⟨u, v, rfl⟩
          · simp at hlen
        · have hyl : ys.length = 2 := hyl
          have f0 : DataW.trod enc Tryd.prog W 0 (fun _ => true) true n' 9 (List.take (Tryd.prog.cellsOf 9) [u, v]) = ys[0]? := hfld 0 _ rfl
          have f1 : DataW.trod enc Tryd.prog W 0 (fun _ => true) true n' 3 (List.take (Tryd.prog.cellsOf 3) [v]) = ys[1]? := hfld 1 _ rfl
          rw [cells9] at f0
          rw [cells3] at f1
          have f0 : DataW.trod enc Tryd.prog W 0 (fun _ => true) true n' 9 [u] = ys[0]? := f0
          have f1 : DataW.trod enc Tryd.prog W 0 (fun _ => true) true n' 3 [v] = ys[1]? := f1
          rw [List.getElem?_eq_getElem (by omega)] at f0 f1
          obtain ⟨t, ht1, _⟩ := DataW.trod_string Tryd.underlying9 f0
          obtain ⟨z, hz1, _⟩ := DataW.trod_int Tryd.underlying3 f1
          refine ⟨(t.data.toList, z), fun _ => ⟨?_, ?_⟩⟩
          · have := hat 0 (by decide)
            simp only [List.cons.injEq, and_true] at ht1
            rw [ht1] at this
            rw [tx_self]
            simpa [Addr.add] using this
          · have := hat 1 (by decide)
            simp only [List.cons.injEq, and_true] at hz1
            rw [hz1] at this
            simpa using this
      · exact ⟨([], 0), fun h => absurd h hil⟩
    obtain ⟨f, hf⟩ := Classical.axiomOfChoice hx
    refine ⟨(List.range len).map f, by simp, fun j x hj => ?_⟩
    have hlt : j < len := by have := (List.getElem?_eq_some_iff.1 hj).1; simpa using this
    simp [hlt] at hj
    subst hj
    exact ⟨ad, rfl, hf j hlt⟩

set_option maxRecDepth 100000 in
theorem lifted (os : Os) (started : os.Started) (H : Type) (enc : TypeId × Value → H) :
    ReturnsInHanded {} Tryd.checked os 5 .any (fun w args => (Rows.tableSetsSpec.pre enc Tryd.prog Tryd.f5 [] false w args ∧ laidMetH Tryd.prog laid w) ∧ sizedMet enc Tryd.prog Tryd.f5 (OpenSpec.ofChange Rows.tableSetsSpec) false w args)
      (Rows.tableSetsSpec.post enc Tryd.prog Tryd.f5 false true false false) := by
  refine returnsInHanded_of_change_and (C := Tryd.checked) (X := fun w _ => laidMetH Tryd.prog laid w) (fun _ _ _ hh h => h.of_heap hh) own started (by kernel_rfl) Tryd.func5
    (ChangeSpec.witness_shaped (enc := enc) (C := Tryd.checked) (os := os) (X := fun w _ => laidMetH Tryd.prog laid w) false (World.laidAll Tryd.prog os laid) #[.slice none 0 0, .string ByteArray.empty] 8 (World.laidAll_os _ _ _)
      (World.shaped_of_ZipB (by kernel_rfl) (by kernel_rfl)) (by kernel_rfl) (by kernel_rfl) (by kernel_rfl)
      (by rw [MakeChecks.laidMetH_plain _ _ _ (by kernel_rfl)]; exact laidMet_laidAll _ (by kernel_rfl) (by kernel_rfl))) ?_
  intro W base args ds gs before hval0 hW _ _ hL _
  have hval : ∀ (j : Nat) t v, Tryd.f5.params[j]? = some t → args[j]? = some v → Value.okWide Tryd.prog W .any base t v := hval0
  have hW' := hW
  obtain ⟨p, q, hA0, hV, rfl, _, _⟩ := hW
  have hA : DataW.TrodAll enc Tryd.prog W 0 (fun _ => true) true Tryd.f5.params.toList args.toList ds p := hA0
  rw [Tryd.params5] at hA hval
  obtain ⟨v0, v1, d0, d1, p0, p1, rfl, rfl, rfl, h0, h1⟩ := trodAll_two hA
  obtain ⟨rfl, rfl⟩ := trodVars_none hV
  obtain ⟨a0, len0, cap0, rfl⟩ := okWide_slice Tryd.underlying31 (hval 0 31 v0 rfl rfl)
  have k0 := h0
  have lt0 : ∀ x ∈ p0, x.block < W.heap.size := by obtain ⟨m, hm⟩ := k0; exact DataW.trod_lt m _ _ _ hm
  obtain ⟨ns, hN⟩ := names_of h0
  obtain ⟨s, rfl, rfl, rfl, ws⟩ := open_string Tryd.underlying9 (hval 1 9 v1 rfl rfl) h1
  refine (law ⟨a0, len0, cap0⟩ ns s W hN).mono fun e W' ⟨he, hb⟩ => ?_
  subst he
  exact ⟨_, rfl, _, _, _, [], _, [], hW', trodAll_mk1 (shut_bool Tryd.underlying4 _), (trodAll_cons_mk (Below.trod laidOut (by kernel_rfl) (of_decide_eq_true (by kernel_rfl)) k0 hb lt0) (trodAll_cons_mk (shut_string Tryd.underlying9 ws) trodAll_mk0)), rfl, hb.frame _, fun h => by cases h⟩

theorem holds : Rows.TableSetsSaid :=
  OpenClaim.holds_of_wide 5 Tryd.f5 rfl rfl rfl rfl rfl rfl rfl ⟨rfl, rfl, rfl, rfl, rfl⟩ rfl rfl rfl rfl rfl (by kernel_rfl) Tryd.func5 (by kernel_rfl)
    (of_decide_eq_true (by kernel_rfl)) (by unfold Func.isWrapper; first | (rw [if_pos (by decide +kernel)]; kernel_rfl) | (rw [if_neg (by decide +kernel)]; exact ⟨rfl, rfl⟩))
    (fun os started H enc _ => lifted os started H enc)

end TableSetsDoor

theorem tableSets_card : Rows.TableSetsCardSaid :=
  Claim7.holds_tied_plain_at .later [] [.data, .pinned] true (true, "23405bb482a9bfb3e5d7ab62a73d00dccce3612179e8e07599c251957c415d66") false TableSetsDoor.holds (fun _ h => by cases h) (by kernel_rfl) (fun _ h => by cases h) tableSets_row_tie rfl ⟨rfl, rfl⟩ (by kernel_rfl) rfl
    (fun f fn hf hfn => by
      obtain rfl : f = 5 := Option.some.inj ((show Tryd.prog.funcNamed "masonry/masonrylaw21.TableSets" = some 5 by kernel_rfl).symm.trans hf) |>.symm
      obtain rfl : fn = Tryd.f5 := (Option.some.inj (Tryd.func5.symm.trans hfn)).symm
      exact ⟨by kernel_rfl, fun j t ht => by
        rw [Tryd.params5] at ht
        have hm : t ∈ [31, 9] := by simpa using Array.mem_of_getElem? ht
        have hall : ([31, 9].all fun u => !Tryd.prog.wantsStandIn u) = true := by kernel_rfl
        exact (show Tryd.prog.wantsStandIn t = false by simpa using List.all_eq_true.1 hall t hm)⟩)
    (by kernel_rfl)
#print axioms tableSets_card
end Go.Proofs.YtepclihkniaieaaDoor
