/- DeskBacks: the walk. -/
import Derived.Test.YtmokmbhhnbcelaaGreatDoorKf
import Derived.Test.YtmokmbhhnbcelaaGreatDoorSq
import Derived.OpenShut
set_option linter.unusedVariables false
namespace Go.Proofs.YtmokmbhhnbcelaaGreatDoor
open Go Go.Vc Go.RowKit Go.Lib Go.Maps Go.Proofs

section
variable {w : World} {X : List As}
theorem alive11_st (h : St w X) {R : Bool → World → Prop} (hR : ∀ w', St w' X → R true w') : F.masonrylaw11_alive w R := alive11_spec fun w' hB => hR w' (h.below hB)
set_option maxHeartbeats 2000000 in
theorem DeskBacks_st (h : St w X) {f t : Sl} {fs ts : List OpD} {twice : Bool} (hf : ∀ w', St w' X → Ops11 w' f fs) (ht : ∀ w', St w' X → Ops11 w' t ts) {R : Bool → World → Prop} (hR : ∀ w', St w' X → R true w') : F.masonrylaw11_DeskBacks f t twice w R := by
  apply E.masonrylaw11_DeskBacks
  unfold V.masonrylaw11_DeskBacks
  try simp (config := { zeta := false }) only [cnd_all, Nat.reduceAdd]
  refine ⟨fun b w' => St w' X ∧ (b = false → Lt11 fs ∧ Lt11 ts), Light11_st h hf fun b1 w1 h1 hb1 => ⟨fun _ => ⟨h1, fun h => (by cases h)⟩, fun hb => Light11_st h1 ht fun b2 w2 h2 hb2 => ⟨fun _ => ⟨h2, fun h => (by cases h)⟩, fun hb' => alive11_st h2 fun w3 h3 => ⟨h3, fun _ => ⟨hb1 (by simpa using hb), hb2 (by simpa using hb')⟩⟩⟩⟩, ?_⟩
  rintro b w1 ⟨h1, hb⟩
  refine ⟨fun _ => alive11_st h1 hR, fun hbf => ?_⟩
  obtain ⟨hlf, hlt⟩ := hb hbf
  refine newdisk_st h1 (n := 180) (by decide) (by decide) fun g w2 h2 => ⟨fun v w' => w' = w2 ∧ v = false, ⟨fun h => absurd rfl h, fun _ => ⟨rfl, rfl⟩⟩, ?_⟩
  rintro v w3 ⟨rfl, rfl⟩
  refine ⟨fun h => (by cases h), fun _ => ?_⟩
  refine format0_st h2 (by decide) (by decide) fun k w4 h4 => ?_
  obtain ⟨u, hu⟩ := DeskS.wal h4
  refine ⟨fun v w' => w' = w4 ∧ v = false, ⟨fun h => absurd rfl h, fun _ => ⟨fun h => (by cases h), fun _ => ⟨blk k, rfl, some (blk u), hu, rfl, rfl⟩⟩⟩, ?_⟩
  rintro v w5 ⟨rfl, rfl⟩
  refine ⟨fun h => (by cases h), fun _ => ?_⟩
  refine run_st h4 hf hlf (by decide) fun D1 w6 hS1 h6 => ?_
  refine Mark_st h6 fun r1 b1 w7 h7 => ?_
  intro wa1
  replace h7 : St wa1 (Cs _ _ _ :: _) := h7.new _ _
  clear_value wa1
  refine ⟨h7.wr0 (by simp), ?_⟩
  intro wa2
  replace h7 : St wa2 _ := h7.set0 _
  clear_value wa2
  refine ⟨h7.wr (by simp), ?_⟩
  intro wa3
  replace h7 : St wa3 _ := h7.set 1 _
  clear_value wa3
  refine ⟨h7.wr (by simp), ?_⟩
  intro wa4
  replace h7 : St wa4 _ := h7.set 2 _
  clear_value wa4
  refine ⟨h7.wr (by simp), ?_⟩
  intro wa5
  replace h7 : St wa5 _ := h7.set 3 _
  clear_value wa5
  simp only [List.set_cons_zero, List.set_cons_succ] at h7
  generalize w7.heap.size = m1 at *
  -- mark, room, map, desk
  have hk1 := DeskS.ok h7.up3
  refine seen_st h7.up3 (by decide) fun w8 h8 => ?_
  -- desk, mark, room, map
  refine run_st h8 (fun w' hw => ht w' hw.drop.drop.drop) hlt (by decide) fun D2 w9 hS2 h9 => ?_
  refine ⟨fun w' => ∃ c D3, Same D1 D3 ∧ c ≤ 100000 ∧ St w' (DeskS k g c D3 :: Cs m1 [.pointer (some (blk k)), .pointer (some (blk r1)), .map (some b1), .int .i64 D1.syncs] T.y_desk_Mark :: RoomS r1 D1.bs :: MapS b1 D1.ws :: X), ⟨fun _ => ?_, fun _ => ⟨_, D2, hS2, by decide, h9⟩⟩, ?_⟩
  · -- a mark within
    refine Mark_st h9 fun r2 b2 w10 h10 => ?_
    intro wa6
    replace h10 : St wa6 (Cs _ _ _ :: _) := h10.new _ _
    clear_value wa6
    refine ⟨h10.wr0 (by simp), ?_⟩
    intro wa7
    replace h10 : St wa7 _ := h10.set0 _
    clear_value wa7
    refine ⟨h10.wr (by simp), ?_⟩
    intro wa8
    replace h10 : St wa8 _ := h10.set 1 _
    clear_value wa8
    refine ⟨h10.wr (by simp), ?_⟩
    intro wa9
    replace h10 : St wa9 _ := h10.set 2 _
    clear_value wa9
    refine ⟨h10.wr (by simp), ?_⟩
    intro wa10
    replace h10 : St wa10 _ := h10.set 3 _
    clear_value wa10
    simp only [List.set_cons_zero, List.set_cons_succ] at h10
    generalize w10.heap.size = m2 at *
    -- mark2, room2, map2, desk, mark1, room1, map1
    have hk2 := DeskS.ok h10.up3
    refine seen_st h10.up3 (by decide) fun w11 h11 => ?_
    refine run_st h11 (fun w' hw => hf w' hw.drop.drop.drop.drop.drop.drop) hlf (by decide) fun D3 w12 hS3 h12 => ?_
    have q := h12.sw
    refine ⟨_, q.cell0, _, q.cell 1, _, q.cell 2, _, q.cell 3, ?_⟩
    have h13 : St w12 (DeskS k g (1001 + 60 + 60 + 60) D3 :: RoomS r2 D2.bs :: MapS b2 D2.ws :: Cs m2 [.pointer (some (blk k)), .pointer (some (blk r2)), .map (some b2), .int .i64 D2.syncs] T.y_desk_Mark :: Cs m1 [.pointer (some (blk k)), .pointer (some (blk r1)), .map (some b1), .int .i64 D1.syncs] T.y_desk_Mark :: RoomS r1 D1.bs :: MapS b1 D1.ws :: X) := (h12.up3.up3.up2)
    refine Back_st h13 hk2 hS3.len.symm hS3.syn.symm fun w13 h14 => ?_
    rw [hS3.back] at h14
    refine seen_st h14 (by decide) fun w14 h15 => ?_
    rw [tx_eq, decide_eq_true rfl]
    refine ⟨fun h => (by cases h), fun _ => ⟨_, D2, hS2, ?_, h15.d2.d2.d2⟩⟩
    decide
  rintro w10 ⟨c, D3, hS3, hc, h10⟩
  have q := h10.sw
  refine ⟨_, q.cell0, _, q.cell 1, _, q.cell 2, _, q.cell 3, ?_⟩
  have h11 : St w10 (DeskS k g c D3 :: RoomS r1 D1.bs :: MapS b1 D1.ws :: Cs m1 [.pointer (some (blk k)), .pointer (some (blk r1)), .map (some b1), .int .i64 D1.syncs] T.y_desk_Mark :: X) := (h10.up3.up3.up2)
  refine Back_st h11 hk1 hS3.len.symm hS3.syn.symm fun w11 h12 => ?_
  rw [hS3.back] at h12
  refine seen_st h12 (by omega) fun w12 h13 => ?_
  rw [tx_eq, decide_eq_true rfl]
  refine ⟨fun h => (by cases h), fun _ => ?_⟩
  have q2 := h13.up3
  refine ⟨_, q2.cell0, _, q2.cell 1, _, q2.cell 2, _, q2.cell 3, ?_⟩
  refine Back_st h13 hk1 rfl rfl fun w13 h14 => ?_
  rw [(Same.refl D1).back] at h14
  refine seen_st h14 (by omega) fun w14 h15 => ?_
  rw [tx_eq, decide_eq_true rfl]
  refine ⟨fun _ => Bad_st h15 ?_, fun h => (by cases h)⟩
  rw [beq_self_eq_true]
  exact hR _ h15.drop.drop.drop.drop
end
end Go.Proofs.YtmokmbhhnbcelaaGreatDoor

/- What a typed reading of the handed values meets, told by the words of what lies where. -/
set_option linter.unusedVariables false
namespace Go.Proofs.YtmokmbhhnbcelaaGreatDoor
open Go Go.Vc Go.RowKit Go.Lib

/-- whatever is read as of this type is laid as that -/
def Reads (P : Program) (t : TypeId) {α : Type} (En : Enc α) (Q : World → α → Prop) : Prop :=
  ∀ (H : Type) (enc : TypeId × Value → H) (W : World) (fuel : Nat) (cs : List Value) (x : DataW H × List MemPlace), DataW.trod enc P W 0 (fun _ => true) true fuel t cs = some x → ∃ v, cs = En.cells v ∧ Q W v

def ES (α : Type) : Enc (Sl × List α) := ⟨fun v => [slV v.1], 1, fun _ => rfl, fun _ u hu => by simp at hu; subst hu; rfl⟩
def EU : Enc Unit := ⟨fun _ => [], 0, fun _ => rfl, fun _ u hu => by cases hu⟩
def EP {α β : Type} (A : Enc α) (B : Enc β) : Enc (α × β) := ⟨fun v => A.cells v.1 ++ B.cells v.2, A.n + B.n, fun v => by rw [List.length_append, A.len, B.len], fun v u hu => by
  rcases List.mem_append.1 hu with h | h
  · exact A.one _ u h
  · exact B.one _ u h⟩

abbrev QI : World → Int → Prop := fun _ v => -9223372036854775808 ≤ v ∧ v < 9223372036854775808
abbrev QS {α : Type} (En : Enc α) (Q : World → α → Prop) : World → Sl × List α → Prop := fun W v => Has En W v.1 v.2 ∧ NilOk v.1 ∧ v.1.len ≤ v.1.cap ∧ v.1.cap ≤ maxLen ∧ ∀ x ∈ v.2, Q W x
section
variable {P : Program}
theorem reads_int {t : TypeId} (hu : P.underlying t = some (.int .i64)) : Reads P t EI QI := fun H enc W fuel cs x h => by
  obtain ⟨n, rfl, _, hw⟩ := DataW.trod_int hu h
  refine ⟨n, rfl, ?_⟩
  have h1 : IntKind.i64.min ≤ n ∧ n ≤ 9223372036854775807 := by simpa [Lit.wf] using hw
  have h2 : IntKind.i64.min = -9223372036854775808 := by decide
  omega
theorem reads_str {t : TypeId} (hu : P.underlying t = some .string) : Reads P t ET fun _ _ => True := fun H enc W fuel cs x h => by
  obtain ⟨s, rfl, _⟩ := DataW.trod_string hu h
  exact ⟨s.data.toList, by show _ = [Value.string (tx _)]; rw [tx_self], trivial⟩
theorem reads_slice {t e : TypeId} {α : Type} [Nonempty α] {En : Enc α} {Q : World → α → Prop} (hu : P.underlying t = some (.slice e)) (hc : P.cellsOf e = En.n) (he : Reads P e En Q) :
    Reads P t (ES α) (QS En Q) := fun H enc W fuel cs x h => by
  rcases DataW.trod_slice hu h with ⟨hcs, _⟩ | ⟨ad, len, c, elems, rest, n, _, hcs, _, _, hlc, hcm, hel, hi, _⟩
  · subst hcs
    exact ⟨(⟨none, 0, 0⟩, []), rfl, Has.nil, fun _ => rfl, Nat.le_refl _, Nat.zero_le _, fun x hx => by cases hx⟩
  · have hx : ∀ i, ∃ x : α, i < len → (∀ k u, (En.cells x)[k]? = some u → W.cell? (ad.add (i * En.n + k)) = some u) ∧ Q W x := by
      intro i
      by_cases hil : i < len
      · have h1 := hi i hil
        rw [hc, List.getElem?_eq_getElem (by omega)] at h1
        obtain ⟨cs', hcc, ht⟩ := Option.bind_eq_some_iff.1 h1
        obtain ⟨v, rfl, hq⟩ := he _ _ _ _ _ _ ht
        obtain ⟨_, hcl, hat⟩ := World.cells?_some hcc
        refine ⟨v, fun _ => ⟨fun k u hk => ?_, hq⟩⟩
        have hk2 := (List.getElem?_eq_some_iff.1 hk).1
        rw [En.len] at hk2
        have := hat k hk2
        rw [Vc.addr_add] at this
        rw [this]; exact hk
      · obtain ⟨y⟩ := ‹Nonempty α›
        exact ⟨y, fun h => absurd h hil⟩
    obtain ⟨f, hf⟩ := Classical.axiomOfChoice hx
    refine ⟨(⟨some ad, len, c⟩, (List.range len).map f), hcs, ⟨by simp, fun j x hj => ?_⟩, fun h => (by cases h), hlc, hcm, fun x hx => ?_⟩
    · have hlt : j < len := by have := (List.getElem?_eq_some_iff.1 hj).1; simpa using this
      simp [hlt] at hj
      subst hj
      exact ⟨ad, rfl, (hf j hlt).1⟩
    · simp only [List.mem_map, List.mem_range] at hx
      obtain ⟨j, hj, rfl⟩ := hx
      exact (hf j hj).2

/-- fields, from an offset on -/
inductive RdF (P : Program) : Nat → List Field → {α : Type} → Enc α → (World → α → Prop) → Prop where
  | nil {off} : RdF P off [] EU fun _ _ => True
  | cons {off : Nat} {f : Field} {fs : List Field} {α β : Type} {A : Enc α} {B : Enc β} {Q : World → α → Prop} {Q' : World → β → Prop} (ho : f.offset = off) (hc : P.cellsOf f.type = A.n) (h : Reads P f.type A Q) (r : RdF P (off + A.n) fs B Q') :
      RdF P off (f :: fs) (EP A B) fun W v => Q W v.1 ∧ Q' W v.2
theorem RdF.get {off : Nat} {fs : List Field} {α : Type} {En : Enc α} {Q : World → α → Prop} (h : RdF P off fs En Q) : ∀ {H : Type} {enc : TypeId × Value → H} {W : World} {n : Nat} {cs : List Value}, cs.length = off + En.n →
    (∀ (i : Nat) (f : Field), fs[i]? = some f → ∃ y, DataW.trod enc P W 0 (fun _ => true) true n f.type ((cs.drop f.offset).take (P.cellsOf f.type)) = some y) → ∃ v, cs.drop off = En.cells v ∧ Q W v := by
  induction h with
  | nil => intro H enc W n cs hl _; exact ⟨(), List.drop_eq_nil_of_le (by rw [hl]; exact Nat.le_refl _), trivial⟩
  | @cons off f fs α β A B Q Q' ho hc h r ih =>
    intro H enc W n cs hl hy
    obtain ⟨y, h0⟩ := hy 0 f rfl
    rw [ho, hc] at h0
    obtain ⟨v, hv, hq⟩ := h _ _ _ _ _ _ h0
    have hl' : cs.length = off + A.n + B.n := by rw [hl]; show off + (A.n + B.n) = _; omega
    obtain ⟨v', hv', hq'⟩ := ih (H := H) (enc := enc) (W := W) (n := n) (cs := cs) hl' fun i g hg => hy (i + 1) g (by simpa using hg)
    refine ⟨(v, v'), ?_, hq, hq'⟩
    show cs.drop off = A.cells v ++ B.cells v'
    rw [← hv, ← hv']
    have : cs.drop (off + A.n) = (cs.drop off).drop A.n := by rw [List.drop_drop]
    rw [this, List.take_append_drop]
theorem reads_struct {t : TypeId} {fs : Array Field} {α : Type} {En : Enc α} {Q : World → α → Prop} (hu : P.underlying t = some (.struct fs)) (hc : P.cellsOf t = En.n) (h : RdF P 0 fs.toList En Q) : Reads P t En Q := fun H enc W fuel cs x hx => by
  obtain ⟨ys, n, _, _, hlen, hyl, hfld⟩ := DataW.trod_struct hu hx
  have hl : cs.length = 0 + En.n := by rw [hlen, hc]; omega
  obtain ⟨v, hv, hq⟩ := h.get (H := H) (enc := enc) (W := W) (n := n) hl fun i f hf => by
    have hf : fs[i]? = some f := by simpa using hf
    have h1 := hfld i f hf
    have hi : i < fs.size := (Array.getElem?_eq_some_iff.1 hf).1
    rw [List.getElem?_eq_getElem (by omega)] at h1
    exact ⟨_, h1⟩
  exact ⟨v, by simpa using hv, hq⟩
theorem Has.map {α β : Type} {A : Enc α} {B : Enc β} {w : World} {l : Sl} {xs : List α} (h : Has A w l xs) (f : α → β) (hn : A.n = B.n) (hf : ∀ x, A.cells x = B.cells (f x)) : Has B w l (xs.map f) :=
  ⟨by rw [List.length_map]; exact h.1, fun j y hy => by
    rw [List.getElem?_map] at hy
    obtain ⟨x, hx, rfl⟩ := Option.map_eq_some_iff.1 hy
    obtain ⟨a, ha, hc⟩ := h.2 j x hx
    exact ⟨a, ha, fun i u hu => by rw [← hn]; exact hc i u (by rw [hf]; exact hu)⟩⟩
theorem Reads.to {t : TypeId} {α β : Type} {A : Enc α} {B : Enc β} {Q : World → α → Prop} {Q' : World → β → Prop} (h : Reads P t A Q) (f : α → β) (hf : ∀ x, A.cells x = B.cells (f x)) (hq : ∀ W x, Q W x → Q' W (f x)) : Reads P t B Q' := fun H enc W fuel cs x hx => by
  obtain ⟨v, hv, q⟩ := h _ _ _ _ _ _ hx
  exact ⟨f v, by rw [hv, hf], hq _ _ q⟩
/-- a slice that came in -/
theorem Reads.slice {t : TypeId} {α : Type} {Q : World → Sl × List α → Prop} (hr : Reads P t (ES α) Q) {H : Type} {enc : TypeId × Value → H} {W : World} {a : Option Addr} {len cap : Nat} {d : DataW H} {p : List MemPlace} (h : DataW.Trod enc P W 0 (fun _ => true) true t (.slice a len cap) d p) : ∃ xs, Q W (⟨a, len, cap⟩, xs) := by
  obtain ⟨fuel, hf⟩ := h
  obtain ⟨⟨s, xs⟩, hcs, hq⟩ := hr _ _ _ _ _ _ hf
  have e : (⟨a, len, cap⟩ : Sl) = s := by
    have h3 : [Value.slice a len cap] = [.slice s.a s.len s.cap] := hcs
    simp only [List.cons.injEq, Value.slice.injEq, and_true] at h3
    obtain ⟨rfl, rfl, rfl⟩ := h3
    rfl
  exact ⟨xs, by rw [e]; exact hq⟩
end
end Go.Proofs.YtmokmbhhnbcelaaGreatDoor
