/- 'masonrylaw21.TableTells' returns true whatever the input, and leaves what it was handed as it was; the listed tables of Go's library are tied to the program's text. -/
import Derived.Test.YtepclihkniaieaaDoorTt
import Derived.Test.YtepclihkniaieaaDoorRows
import Derived.Test.YtepclihkniaieaaDoorCards
import Derived.Test.YtepclihkniaieaaDoorTie
import Derived.WalkKit
import Derived.Carry
import Derived.ProofKit
import Derived.OpenShut
import Derived.Lay
import Derived.SevenTiedAt
set_option linter.unusedVariables false
namespace Go.Proofs.YtepclihkniaieaaDoor
namespace TableTellsDoor
open Go.ChangeShapes Go.WideShapes Go.ChangeAt Go.RowKit Go.Vc
open Go.ChangeMaps (open_string shut_string)

theorem own : ownKnob Tryd.prog.godebug = none := by kernel_rfl
def laid : List (String × DataW Unit) := [("unicode/utf8.acceptRanges", Rows.laid_unicode_utf8_acceptRanges), ("unicode/utf8.first", Rows.laid_unicode_utf8_first)]

theorem laidOut : laidOutB Tryd.prog = true := by kernel_rfl
theorem cells28 : Tryd.prog.cellsOf 28 = 2 := by kernel_rfl
theorem cells9 : Tryd.prog.cellsOf 9 = 1 := by kernel_rfl
theorem cells3 : Tryd.prog.cellsOf 3 = 1 := by kernel_rfl

theorem law (sl cl : Sl) (ns : List Nm) (n : Nm) (cs : List (List UInt8)) (s : ByteArray) (w : World) (hN : Names w sl ns) (hn : NilOk sl) (hc : sl.len ≤ sl.cap) (hC : Texts w cl cs) (hcn : NilOk cl) :
    Calls Tryd.prog 4 #[.slice sl.a sl.len sl.cap, .agg #[.string (tx n.1), .int .i64 n.2], .slice cl.a cl.len cl.cap, .string s] w fun e w' => e = .returned (.bool true) ∧ Below w.heap.size w w' := by
  have h := tableTells_spec (w := w) (n := n) hN hn hc hC hcn (b := s.data.toList) (R := fun b w' => b = true ∧ Below w.heap.size w w') (fun w' h => ⟨rfl, h⟩)
  rw [tx_self] at h
  refine Calls.mono h fun e w' hx => ?_
  obtain ⟨b, he, rfl, hb⟩ := hx
  exact ⟨he, hb⟩

/-- the names that a reading of the argument meets -/
theorem names_of {H : Type} {enc : TypeId × Value → H} {W : World} {a : Option Addr} {len cap : Nat} {d : DataW H} {p : List MemPlace} (h : DataW.Trod enc Tryd.prog W 0 (fun _ => true) true 31 (.slice a len cap) d p) : ∃ ns, Names W ⟨a, len, cap⟩ ns ∧ NilOk ⟨a, len, cap⟩ ∧ len ≤ cap := by
  obtain ⟨fuel, hf⟩ := h
  rcases DataW.trod_slice Tryd.underlying31 hf with ⟨hcs, _⟩ | ⟨ad, l, c, elems, rest, n, _, hcs, _, _, hlc, _, hel, hi, _⟩
  · simp [Value.cells] at hcs
    obtain ⟨rfl, rfl, rfl⟩ := hcs
    exact ⟨[], ⟨rfl, fun j x hj => by simp at hj⟩, fun _ => rfl, Nat.le_refl _⟩
  · simp [Value.cells] at hcs
    obtain ⟨rfl, rfl, rfl⟩ := hcs
    have hx : ∀ i, ∃ x : Nm, i < len → W.cell? (ad.add (i * 2)) = some (.string (tx x.1)) ∧ W.cell? ((ad.add (i * 2)).add 1) = some (.int .i64 x.2) := by
      intro i
      by_cases hil : i < len
      · have h1 := hi i hil
        rw [cells28, List.getElem?_eq_getElem (by omega)] at h1
        obtain ⟨cs', hc, ht⟩ := Option.bind_eq_some_iff.1 h1
        obtain ⟨ys, n', _, _, hlen, hyl, hfld⟩ := DataW.trod_struct Tryd.underlying28 ht
        rw [cells28] at hlen
        obtain ⟨_, hcl, hat⟩ := World.cells?_some hc
        obtain ⟨u, v, rfl⟩ : ∃ u v, cs' = [u, v] := by
          rcases cs' with _ | ⟨u, _ | ⟨v, _ | ⟨x, r⟩⟩⟩
          · simp at hlen
          · simp at hlen
          · exact ⟨u, v, rfl⟩
          · simp at hlen
        · have hyl : ys.length = 2 := hyl
          have f0 : DataW.trod enc Tryd.prog W 0 (fun _ => true) true n' 9 (List.take (Tryd.prog.cellsOf 9) [u, v]) = ys[0]? := hfld 0 _ rfl
          have f1 : DataW.trod enc Tryd.prog W 0 (fun _ => true) true n' 3 (List.take (Tryd.prog.cellsOf 3) [v]) = ys[1]? := hfld 1 _ rfl
          rw [cells9] at f0
          rw [cells3] at f1
          have f0 : DataW.trod enc Tryd.prog W 0 (fun _ => true) true n' 9 [u] = ys[0]? := f0
          have f1 : DataW.trod enc Tryd.prog W 0 (fun _ => true) true n' 3 [v] = ys[1]? := f1
          rw [List.getElem?_eq_getElem (by omega)] at f0 f1
          obtain ⟨t, ht1, _⟩ := DataW.trod_string Tryd.underlying9 f0
          obtain ⟨z, hz1, _⟩ := DataW.trod_int Tryd.underlying3 f1
          refine ⟨(t.data.toList, z), fun _ => ⟨?_, ?_⟩⟩
          · have := hat 0 (by decide)
            simp only [List.cons.injEq, and_true] at ht1
            rw [ht1] at this
            rw [tx_self]
            simpa [Addr.add] using this
          · have := hat 1 (by decide)
            simp only [List.cons.injEq, and_true] at hz1
            rw [hz1] at this
            simpa using this
      · exact ⟨([], 0), fun h => absurd h hil⟩
    obtain ⟨f, hf⟩ := Classical.axiomOfChoice hx
    refine ⟨(List.range len).map f, ⟨by simp, fun j x hj => ?_⟩, fun h => by (cases h), hlc⟩
    have hlt : j < len := by have := (List.getElem?_eq_some_iff.1 hj).1; simpa using this
    simp [hlt] at hj
    subst hj
    exact ⟨ad, rfl, hf j hlt⟩

/-- the texts that a reading of the argument meets -/
theorem texts_of {H : Type} {enc : TypeId × Value → H} {W : World} {a : Option Addr} {len cap : Nat} {d : DataW H} {p : List MemPlace} (h : DataW.Trod enc Tryd.prog W 0 (fun _ => true) true 32 (.slice a len cap) d p) : ∃ ts, Texts W ⟨a, len, cap⟩ ts ∧ NilOk ⟨a, len, cap⟩ := by
  obtain ⟨fuel, hf⟩ := h
  rcases DataW.trod_slice Tryd.underlying32 hf with ⟨hcs, _⟩ | ⟨ad, l, c, elems, rest, n, _, hcs, _, _, hlc, _, hel, hi, _⟩
  · simp [Value.cells] at hcs
    obtain ⟨rfl, rfl, rfl⟩ := hcs
    exact ⟨[], ⟨rfl, fun j x hj => by simp at hj⟩, fun _ => rfl⟩
  · simp [Value.cells] at hcs
    obtain ⟨rfl, rfl, rfl⟩ := hcs
    have hx : ∀ i, ∃ x : List UInt8, i < len → W.cell? (ad.add (i * 1)) = some (.string (tx x)) := by
      intro i
      by_cases hil : i < len
      · have h1 := hi i hil
        rw [cells9, List.getElem?_eq_getElem (by omega)] at h1
        obtain ⟨cs', hc, ht⟩ := Option.bind_eq_some_iff.1 h1
        obtain ⟨t, ht1, _⟩ := DataW.trod_string Tryd.underlying9 ht
        subst ht1
        obtain ⟨_, hcl, hat⟩ := World.cells?_some hc
        have := hat 0 (by decide)
        exact ⟨t.data.toList, fun _ => by rw [tx_self]; simpa [Addr.add] using this⟩
      · exact ⟨[], fun h => absurd h hil⟩
    obtain ⟨f, hf⟩ := Classical.axiomOfChoice hx
    refine ⟨(List.range len).map f, ⟨by simp, fun j x hj => ?_⟩, fun h => by cases h⟩
    have hlt : j < len := by have := (List.getElem?_eq_some_iff.1 hj).1; simpa using this
    simp [hlt] at hj
    subst hj
    exact ⟨ad, rfl, hf j hlt⟩

/-- the name that a reading of the argument meets -/
theorem name_of {H : Type} {enc : TypeId × Value → H} {W : World} {v : Value} {d : DataW H} {p : List MemPlace} (hv : ∃ cs, v = .agg cs ∧ cs.size = Tryd.prog.cellsOf 28) (h : DataW.Trod enc Tryd.prog W 0 (fun _ => true) true 28 v d p) : ∃ n : Nm, v = .agg #[.string (tx n.1), .int .i64 n.2] := by
  obtain ⟨⟨cs⟩, rfl, _⟩ := hv
  obtain ⟨fuel, hf⟩ := h
  obtain ⟨ys, n', _, _, hlen, hyl, hfld⟩ := DataW.trod_struct Tryd.underlying28 hf
  rw [cells28] at hlen
  obtain ⟨u, v, rfl⟩ : ∃ u v, cs = [u, v] := by
    have hlen : cs.length = 2 := hlen
    rcases cs with _ | ⟨u, _ | ⟨v, _ | ⟨x, r⟩⟩⟩
    · simp at hlen
    · simp at hlen
    · exact ⟨u, v, rfl⟩
    · simp at hlen
  have hyl : ys.length = 2 := hyl
  have f0 : DataW.trod enc Tryd.prog W 0 (fun _ => true) true n' 9 (List.take (Tryd.prog.cellsOf 9) [u, v]) = ys[0]? := hfld 0 _ rfl
  have f1 : DataW.trod enc Tryd.prog W 0 (fun _ => true) true n' 3 (List.take (Tryd.prog.cellsOf 3) [v]) = ys[1]? := hfld 1 _ rfl
  rw [cells9] at f0
  rw [cells3] at f1
  have f0 : DataW.trod enc Tryd.prog W 0 (fun _ => true) true n' 9 [u] = ys[0]? := f0
  have f1 : DataW.trod enc Tryd.prog W 0 (fun _ => true) true n' 3 [v] = ys[1]? := f1
  rw [List.getElem?_eq_getElem (by omega)] at f0 f1
  obtain ⟨t, ht1, _⟩ := DataW.trod_string Tryd.underlying9 f0
  obtain ⟨z, hz1, _⟩ := DataW.trod_int Tryd.underlying3 f1
  simp only [List.cons.injEq, and_true] at ht1 hz1
  exact ⟨(t.data.toList, z), by rw [ht1, hz1, tx_self]⟩

set_option maxRecDepth 100000 in
theorem lifted (os : Os) (started : os.Started) (H : Type) (enc : TypeId × Value → H) :
    ReturnsInHanded {} Tryd.checked os 4 .any (fun w args => (Rows.tableTellsSpec.pre enc Tryd.prog Tryd.f4 [] false w args ∧ laidMetH Tryd.prog laid w) ∧ sizedMet enc Tryd.prog Tryd.f4 (OpenSpec.ofChange Rows.tableTellsSpec) false w args)
      (Rows.tableTellsSpec.post enc Tryd.prog Tryd.f4 false true false false) := by
  refine returnsInHanded_of_change_and (C := Tryd.checked) (X := fun w _ => laidMetH Tryd.prog laid w) (fun _ _ _ hh h => h.of_heap hh) own started (by kernel_rfl) Tryd.func4
    (ChangeSpec.witness_shaped (enc := enc) (C := Tryd.checked) (os := os) (X := fun w _ => laidMetH Tryd.prog laid w) false (World.laidAll Tryd.prog os laid) #[.slice none 0 0, .agg #[.string ByteArray.empty, .int .i64 0], .slice none 0 0, .string ByteArray.empty] 8 (World.laidAll_os _ _ _)
      (World.shaped_of_ZipB (by kernel_rfl) (by kernel_rfl)) (by kernel_rfl) (by kernel_rfl) (by kernel_rfl)
      (by rw [MakeChecks.laidMetH_plain _ _ _ (by kernel_rfl)]; exact laidMet_laidAll _ (by kernel_rfl) (by kernel_rfl))) ?_
  intro W base args ds gs before hval0 hW _ _ hL _
  have hval : ∀ (j : Nat) t v, Tryd.f4.params[j]? = some t → args[j]? = some v → Value.okWide Tryd.prog W .any base t v := hval0
  have hW' := hW
  obtain ⟨p, q, hA0, hV, rfl, _, _⟩ := hW
  have hA : DataW.TrodAll enc Tryd.prog W 0 (fun _ => true) true Tryd.f4.params.toList args.toList ds p := hA0
  rw [Tryd.params4] at hA hval
  obtain ⟨v0, v1, v2, v3, d0, d1, d2, d3, p0, p1, p2, p3, rfl, rfl, rfl, h0, h1, h2, h3⟩ := trodAll_four hA
  obtain ⟨rfl, rfl⟩ := trodVars_none hV
  obtain ⟨a0, len0, cap0, rfl⟩ := okWide_slice Tryd.underlying31 (hval 0 31 v0 rfl rfl)
  have lt0 : ∀ x ∈ p0, x.block < W.heap.size := by obtain ⟨m, hm⟩ := h0; exact DataW.trod_lt m _ _ _ hm
  obtain ⟨ns, hN, hn0, hc0⟩ := names_of h0
  have lt1 : ∀ x ∈ p1, x.block < W.heap.size := by obtain ⟨m, hm⟩ := h1; exact DataW.trod_lt m _ _ _ hm
  obtain ⟨n, rfl⟩ := name_of (okWide_struct Tryd.underlying28 (hval 1 28 v1 rfl rfl)) h1
  obtain ⟨a2, len2, cap2, rfl⟩ := okWide_slice Tryd.underlying32 (hval 2 32 v2 rfl rfl)
  have lt2 : ∀ x ∈ p2, x.block < W.heap.size := by obtain ⟨m, hm⟩ := h2; exact DataW.trod_lt m _ _ _ hm
  obtain ⟨cs, hC, hn2⟩ := texts_of h2
  obtain ⟨s, rfl, rfl, rfl, ws⟩ := open_string Tryd.underlying9 (hval 3 9 v3 rfl rfl) h3
  refine (law ⟨a0, len0, cap0⟩ ⟨a2, len2, cap2⟩ ns n cs s W hN hn0 hc0 hC hn2).mono fun e W' ⟨he, hb⟩ => ?_
  subst he
  exact ⟨_, rfl, _, _, _, [], _, [], hW', trodAll_mk1 (shut_bool Tryd.underlying4 _), (trodAll_cons_mk (Below.trod laidOut (by kernel_rfl) (of_decide_eq_true (by kernel_rfl)) h0 hb lt0) (trodAll_cons_mk (Below.trod laidOut (by kernel_rfl) (of_decide_eq_true (by kernel_rfl)) h1 hb lt1) (trodAll_cons_mk (Below.trod laidOut (by kernel_rfl) (of_decide_eq_true (by kernel_rfl)) h2 hb lt2) (trodAll_cons_mk (shut_string Tryd.underlying9 ws) trodAll_mk0)))), rfl, hb.frame _, fun h => by cases h⟩

theorem holds : Rows.TableTellsSaid :=
  OpenClaim.holds_of_wide 4 Tryd.f4 rfl rfl rfl rfl rfl rfl rfl ⟨rfl, rfl, rfl, rfl, rfl⟩ rfl rfl rfl rfl rfl (by kernel_rfl) Tryd.func4 (by kernel_rfl)
    (of_decide_eq_true (by kernel_rfl)) (by unfold Func.isWrapper; first | (rw [if_pos (by decide +kernel)]; kernel_rfl) | (rw [if_neg (by decide +kernel)]; exact ⟨rfl, rfl⟩))
    (fun os started H enc _ => lifted os started H enc)

end TableTellsDoor

theorem tableTells_card : Rows.TableTellsCardSaid :=
  Claim7.holds_tied_plain_at .later [] [.data, .pinned] true (true, "23405bb482a9bfb3e5d7ab62a73d00dccce3612179e8e07599c251957c415d66") false TableTellsDoor.holds (fun _ h => by cases h) (by kernel_rfl) (fun _ h => by cases h) tableTells_row_tie rfl ⟨rfl, rfl⟩ (by kernel_rfl) rfl
    (fun f fn hf hfn => by
      obtain rfl : f = 4 := Option.some.inj ((show Tryd.prog.funcNamed "masonry/masonrylaw21.TableTells" = some 4 by kernel_rfl).symm.trans hf) |>.symm
      obtain rfl : fn = Tryd.f4 := (Option.some.inj (Tryd.func4.symm.trans hfn)).symm
      exact ⟨by kernel_rfl, fun j t ht => by
        rw [Tryd.params4] at ht
        have hm : t ∈ [31, 28, 32, 9] := by simpa using Array.mem_of_getElem? ht
        have hall : ([31, 28, 32, 9].all fun u => !Tryd.prog.wantsStandIn u) = true := by kernel_rfl
        exact (show Tryd.prog.wantsStandIn t = false by simpa using List.all_eq_true.1 hall t hm)⟩)
    (by kernel_rfl)
#print axioms tableTells_card
end Go.Proofs.YtepclihkniaieaaDoor
