/- 'masonrylaw8.HeadTells' returns true whatever the input, and leaves what it was handed as it was; the listed tables of Go's library are tied to the program's text. -/
import Derived.Test.YtepclihkniaieaaGreatDoorBn
import Derived.Test.YtepclihkniaieaaGreatDoorRows
import Derived.Test.YtepclihkniaieaaGreatDoorCards
import Derived.Test.YtepclihkniaieaaGreatDoorTie
import Derived.WalkKit
import Derived.ProofKit
import Derived.OpenShut
import Derived.Lay
import Derived.SevenTiedAt
set_option linter.unusedVariables false
namespace Go.Proofs.YtepclihkniaieaaGreatDoor
namespace HeadTellsDoor
open Go.ChangeShapes Go.WideShapes Go.ChangeAt Go.RowKit Go.Vc
open Go.ChangeMaps (open_string shut_string)

theorem own : ownKnob Tryz.prog.godebug = none := by kernel_rfl
def laid : List (String × DataW Unit) := [("unicode/utf8.acceptRanges", Rows.laid_unicode_utf8_acceptRanges), ("unicode/utf8.first", Rows.laid_unicode_utf8_first)]

theorem laidOut : laidOutB Tryz.prog = true := by kernel_rfl
theorem cells3 : Tryz.prog.cellsOf 3 = 1 := by kernel_rfl

theorem law (seq : Int) (full : Bool) (tl nl : Sl) (ts next : List Int) (s : ByteArray) (own_ : Bool) (w : World) (hT : Ints w tl ts) (hTn : NilOk tl) (hN : Ints w nl next) (hNn : NilOk nl) (h1 : -9223372036854775808 ≤ seq) (h2 : seq < 9223372036854775808) :
    Calls Tryz.prog 3 #[.int .i64 seq, .bool full, .slice tl.a tl.len tl.cap, .slice nl.a nl.len nl.cap, .string s, .bool own_] w fun e w' => e = .returned (.bool true) ∧ Below w.heap.size w w' := by
  have h := headTells_spec (w := w) (own_ := own_) (full := full) hT hTn hN hNn h1 h2 (b := s.data.toList) (R := fun b w' => b = true ∧ Below w.heap.size w w') (fun w' h => ⟨rfl, h⟩)
  rw [tx_self] at h
  refine Calls.mono h fun e w' hx => ?_
  obtain ⟨b, he, rfl, hb⟩ := hx
  exact ⟨he, hb⟩

/-- the numbers that a reading of a slice meets -/
theorem ints_of {H : Type} {enc : TypeId × Value → H} {W : World} {fuel : Nat} {cs : List Value} {x : DataW H × List MemPlace} (hf : DataW.trod enc Tryz.prog W 0 (fun _ => true) true fuel 22 cs = some x) : ∃ (s : Sl) (zs : List Int), cs = [.slice s.a s.len s.cap] ∧ Ints W s zs ∧ NilOk s := by
  rcases DataW.trod_slice Tryz.underlying22 hf with ⟨hcs, _⟩ | ⟨ad, len, c, elems, rest, n, _, hcs, _, _, hlc, _, hel, hi, _⟩
  · exact ⟨⟨none, 0, 0⟩, [], hcs, ⟨rfl, fun j x hj => by simp at hj⟩, fun _ => rfl⟩
  · have hx : ∀ i, ∃ x : Int, i < len → W.cell? (ad.add (i * 1)) = some (.int .i64 x) := by
      intro i
      by_cases hil : i < len
      · have h1 := hi i hil
        rw [cells3, List.getElem?_eq_getElem (by omega)] at h1
        obtain ⟨cs', hc, ht⟩ := Option.bind_eq_some_iff.1 h1
        obtain ⟨t, ht1, _⟩ := DataW.trod_int Tryz.underlying3 ht
        subst ht1
        obtain ⟨_, hcl, hat⟩ := World.cells?_some hc
        have := hat 0 (by decide)
        exact ⟨t, fun _ => by simpa [Addr.add] using this⟩
      · exact ⟨0, fun h => absurd h hil⟩
    obtain ⟨f, hf⟩ := Classical.axiomOfChoice hx
    refine ⟨⟨some ad, len, c⟩, (List.range len).map f, hcs, ⟨by simp, fun j x hj => ?_⟩, fun h => by cases h⟩
    have hlt : j < len := by have := (List.getElem?_eq_some_iff.1 hj).1; simpa using this
    simp [hlt] at hj
    subst hj
    exact ⟨ad, rfl, hf j hlt⟩

/-- a slice of numbers that came in -/
theorem slice_of {H : Type} {enc : TypeId × Value → H} {W : World} {a : Option Addr} {len cap : Nat} {d : DataW H} {p : List MemPlace} (h : DataW.Trod enc Tryz.prog W 0 (fun _ => true) true 22 (.slice a len cap) d p) : ∃ zs, Ints W ⟨a, len, cap⟩ zs ∧ NilOk ⟨a, len, cap⟩ := by
  obtain ⟨fuel, hf⟩ := h
  obtain ⟨s, zs, hcs, h1, h2⟩ := ints_of hf
  have e : (⟨a, len, cap⟩ : Sl) = s := by
    have h3 : [Value.slice a len cap] = [.slice s.a s.len s.cap] := hcs
    simp only [List.cons.injEq, Value.slice.injEq, and_true] at h3
    obtain ⟨rfl, rfl, rfl⟩ := h3
    rfl
  exact ⟨zs, by rw [e]; exact h1, by rw [e]; exact h2⟩

set_option maxRecDepth 100000 in
theorem lifted (os : Os) (started : os.Started) (H : Type) (enc : TypeId × Value → H) :
    ReturnsInHanded {} Tryz.checked os 3 .any (fun w args => (Rows.headTellsSpec.pre enc Tryz.prog Tryz.f3 [] false w args ∧ laidMetH Tryz.prog laid w) ∧ sizedMet enc Tryz.prog Tryz.f3 (OpenSpec.ofChange Rows.headTellsSpec) false w args)
      (Rows.headTellsSpec.post enc Tryz.prog Tryz.f3 false true false false) := by
  refine returnsInHanded_of_change_and (C := Tryz.checked) (X := fun w _ => laidMetH Tryz.prog laid w) (fun _ _ _ hh h => h.of_heap hh) own started (by kernel_rfl) Tryz.func3
    (ChangeSpec.witness_shaped (enc := enc) (C := Tryz.checked) (os := os) (X := fun w _ => laidMetH Tryz.prog laid w) false (World.laidAll Tryz.prog os laid) #[.int .i64 0, .bool false, .slice none 0 0, .slice none 0 0, .string ByteArray.empty, .bool false] 8 (World.laidAll_os _ _ _)
      (World.shaped_of_ZipB (by kernel_rfl) (by kernel_rfl)) (by kernel_rfl) (by kernel_rfl) (by kernel_rfl)
      (by rw [MakeChecks.laidMetH_plain _ _ _ (by kernel_rfl)]; exact laidMet_laidAll _ (by kernel_rfl) (by kernel_rfl))) ?_
  intro W base args ds gs before hval0 hW _ _ hL _
  have hval : ∀ (j : Nat) t v, Tryz.f3.params[j]? = some t → args[j]? = some v → Value.okWide Tryz.prog W .any base t v := hval0
  have hW' := hW
  obtain ⟨p, q, hA0, hV, rfl, _, _⟩ := hW
  have hA : DataW.TrodAll enc Tryz.prog W 0 (fun _ => true) true Tryz.f3.params.toList args.toList ds p := hA0
  rw [Tryz.params3] at hA hval
  have hA : DataW.TrodAll enc Tryz.prog W 0 (fun _ => true) true [3, 4, 22, 22, 9, 4] args.toList ds p := hA
  obtain ⟨v0, vs0, d0, ds0, p0, q0, ha0, rfl, rfl, h0, r0⟩ := trodAll_cons hA
  obtain ⟨v1, vs1, d1, ds1, p1, q1, rfl, rfl, rfl, h1, r1⟩ := trodAll_cons r0
  obtain ⟨v2, vs2, d2, ds2, p2, q2, rfl, rfl, rfl, h2, r2⟩ := trodAll_cons r1
  obtain ⟨v3, vs3, d3, ds3, p3, q3, rfl, rfl, rfl, h3, r3⟩ := trodAll_cons r2
  obtain ⟨v4, vs4, d4, ds4, p4, q4, rfl, rfl, rfl, h4, r4⟩ := trodAll_cons r3
  obtain ⟨v5, vs5, d5, ds5, p5, q5, rfl, rfl, rfl, h5, r5⟩ := trodAll_cons r4
  obtain ⟨rfl, rfl, rfl⟩ := trodAll_nil r5
  obtain rfl : args = #[v0, v1, v2, v3, v4, v5] := Array.ext' (by simpa using ha0)
  obtain ⟨rfl, rfl⟩ := trodVars_none hV
  obtain ⟨n, rfl, rfl, rfl, wn⟩ := open_int Tryz.underlying3 (hval 0 3 v0 rfl rfl) h0
  obtain ⟨full, rfl, rfl, rfl⟩ := open_bool Tryz.underlying4 (hval 1 4 v1 rfl rfl) h1
  obtain ⟨a2, len2, cap2, rfl⟩ := okWide_slice Tryz.underlying22 (hval 2 22 v2 rfl rfl)
  have lt2 : ∀ x ∈ p2, x.block < W.heap.size := by obtain ⟨m, hm⟩ := h2; exact DataW.trod_lt m _ _ _ hm
  obtain ⟨ts, hT, hTn⟩ := slice_of h2
  obtain ⟨a3, len3, cap3, rfl⟩ := okWide_slice Tryz.underlying22 (hval 3 22 v3 rfl rfl)
  have lt3 : ∀ x ∈ p3, x.block < W.heap.size := by obtain ⟨m, hm⟩ := h3; exact DataW.trod_lt m _ _ _ hm
  obtain ⟨next, hN, hNn⟩ := slice_of h3
  obtain ⟨s, rfl, rfl, rfl, ws⟩ := open_string Tryz.underlying9 (hval 4 9 v4 rfl rfl) h4
  obtain ⟨own_, rfl, rfl, rfl⟩ := open_bool Tryz.underlying4 (hval 5 4 v5 rfl rfl) h5
  have hx : -9223372036854775808 ≤ n ∧ n ≤ 9223372036854775807 := by simpa [Lit.wf, IntKind.min, IntKind.max, IntKind.signed, IntKind.bits] using wn
  refine (law n full ⟨a2, len2, cap2⟩ ⟨a3, len3, cap3⟩ ts next s own_ W hT hTn hN hNn hx.1 (by omega)).mono fun e W' ⟨he, hb⟩ => ?_
  subst he
  exact ⟨_, rfl, _, _, _, [], _, [], hW', trodAll_mk1 (shut_bool Tryz.underlying4 _), (trodAll_cons_mk (shut_int Tryz.underlying3 wn) (trodAll_cons_mk (shut_bool Tryz.underlying4 _) (trodAll_cons_mk (Below.trod laidOut (by kernel_rfl) (of_decide_eq_true (by kernel_rfl)) h2 hb lt2) (trodAll_cons_mk (Below.trod laidOut (by kernel_rfl) (of_decide_eq_true (by kernel_rfl)) h3 hb lt3) (trodAll_cons_mk (shut_string Tryz.underlying9 ws) (trodAll_cons_mk (shut_bool Tryz.underlying4 _) trodAll_mk0)))))), rfl, hb.frame _, fun h => by cases h⟩

theorem holds : Rows.HeadTellsSaid :=
  OpenClaim.holds_of_wide 3 Tryz.f3 rfl rfl rfl rfl rfl rfl rfl ⟨rfl, rfl, rfl, rfl, rfl⟩ rfl rfl rfl rfl rfl (by kernel_rfl) Tryz.func3 (by kernel_rfl)
    (of_decide_eq_true (by kernel_rfl)) (by unfold Func.isWrapper; first | (rw [if_pos (by decide +kernel)]; kernel_rfl) | (rw [if_neg (by decide +kernel)]; exact ⟨rfl, rfl⟩))
    (fun os started H enc _ => lifted os started H enc)

end HeadTellsDoor

theorem headTells_card : Rows.HeadTellsCardSaid :=
  Claim7.holds_tied_plain_at .later [] [.data, .pinned] true (true, "68159a114eefdcfabe243698b113625a92a2e341de3d00ec8df00b6cda78702e") true HeadTellsDoor.holds (fun _ h => by cases h) (by kernel_rfl) (fun _ h => by cases h) headTells_row_tie rfl ⟨rfl, rfl⟩ (by kernel_rfl) rfl
    (fun f fn hf hfn => by
      obtain rfl : f = 3 := Option.some.inj ((show Tryz.prog.funcNamed "masonry/masonrylaw8.HeadTells" = some 3 by kernel_rfl).symm.trans hf) |>.symm
      obtain rfl : fn = Tryz.f3 := (Option.some.inj (Tryz.func3.symm.trans hfn)).symm
      exact ⟨by kernel_rfl, fun j t ht => by
        rw [Tryz.params3] at ht
        have hm : t ∈ [3, 4, 22, 22, 9, 4] := by simpa using Array.mem_of_getElem? ht
        have hall : ([3, 4, 22, 22, 9, 4].all fun u => !Tryz.prog.wantsStandIn u) = true := by kernel_rfl
        exact (show Tryz.prog.wantsStandIn t = false by simpa using List.all_eq_true.1 hall t hm)⟩)
    (by kernel_rfl)
#print axioms headTells_card
end Go.Proofs.YtepclihkniaieaaGreatDoor
