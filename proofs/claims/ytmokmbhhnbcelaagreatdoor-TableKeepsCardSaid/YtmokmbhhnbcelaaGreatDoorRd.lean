/- What a typed reading of the handed values meets, told by the words of what lies where. -/
import Derived.Test.YtmokmbhhnbcelaaGreatDoorCl
import Derived.OpenShut
set_option linter.unusedVariables false
namespace Go.Proofs.YtmokmbhhnbcelaaGreatDoor
open Go Go.Vc Go.RowKit Go.Lib

/-- whatever is read as of this type is laid as that -/
def Reads (P : Program) (t : TypeId) {α : Type} (En : Enc α) (Q : World → α → Prop) : Prop :=
  ∀ (H : Type) (enc : TypeId × Value → H) (W : World) (fuel : Nat) (cs : List Value) (x : DataW H × List MemPlace), DataW.trod enc P W 0 (fun _ => true) true fuel t cs = some x → ∃ v, cs = En.cells v ∧ Q W v

def ES (α : Type) : Enc (Sl × List α) := ⟨fun v => [slV v.1], 1, fun _ => rfl, fun _ u hu => by simp at hu; subst hu; rfl⟩
def EU : Enc Unit := ⟨fun _ => [], 0, fun _ => rfl, fun _ u hu => by cases hu⟩
def EP {α β : Type} (A : Enc α) (B : Enc β) : Enc (α × β) := ⟨fun v => A.cells v.1 ++ B.cells v.2, A.n + B.n, fun v => by rw [List.length_append, A.len, B.len], fun v u hu => by
  rcases List.mem_append.1 hu with h | h
  · exact A.one _ u h
  · exact B.one _ u h⟩

abbrev QI : World → Int → Prop := fun _ v => -9223372036854775808 ≤ v ∧ v < 9223372036854775808
abbrev QS {α : Type} (En : Enc α) (Q : World → α → Prop) : World → Sl × List α → Prop := fun W v => Has En W v.1 v.2 ∧ NilOk v.1 ∧ v.1.len ≤ v.1.cap ∧ v.1.cap ≤ maxLen ∧ ∀ x ∈ v.2, Q W x
section
variable {P : Program}
theorem reads_int {t : TypeId} (hu : P.underlying t = some (.int .i64)) : Reads P t EI QI := fun H enc W fuel cs x h => by
  obtain ⟨n, rfl, _, hw⟩ := DataW.trod_int hu h
  refine ⟨n, rfl, ?_⟩
  have h1 : IntKind.i64.min ≤ n ∧ n ≤ 9223372036854775807 := by simpa [Lit.wf] using hw
  have h2 : IntKind.i64.min = -9223372036854775808 := by decide
  omega
theorem reads_str {t : TypeId} (hu : P.underlying t = some .string) : Reads P t ET fun _ _ => True := fun H enc W fuel cs x h => by
  obtain ⟨s, rfl, _⟩ := DataW.trod_string hu h
  exact ⟨s.data.toList, by show _ = [Value.string (tx _)]; rw [tx_self], trivial⟩
theorem reads_slice {t e : TypeId} {α : Type} [Nonempty α] {En : Enc α} {Q : World → α → Prop} (hu : P.underlying t = some (.slice e)) (hc : P.cellsOf e = En.n) (he : Reads P e En Q) :
    Reads P t (ES α) (QS En Q) := fun H enc W fuel cs x h => by
  rcases DataW.trod_slice hu h with ⟨hcs, _⟩ | ⟨ad, len, c, elems, rest, n, _, hcs, _, _, hlc, hcm, hel, hi, _⟩
  · subst hcs
    exact ⟨(⟨none, 0, 0⟩, []), rfl, Has.nil, fun _ => rfl, Nat.le_refl _, Nat.zero_le _, fun x hx => by cases hx⟩
  · have hx : ∀ i, ∃ x : α, i < len → (∀ k u, (En.cells x)[k]? = some u → W.cell? (ad.add (i * En.n + k)) = some u) ∧ Q W x := by
      intro i
      by_cases hil : i < len
      · have h1 := hi i hil
        rw [hc, List.getElem?_eq_getElem (by omega)] at h1
        obtain ⟨cs', hcc, ht⟩ := Option.bind_eq_some_iff.1 h1
        obtain ⟨v, rfl, hq⟩ := he _ _ _ _ _ _ ht
        obtain ⟨_, hcl, hat⟩ := World.cells?_some hcc
        refine ⟨v, fun _ => ⟨fun k u hk => ?_, hq⟩⟩
        have hk2 := (List.getElem?_eq_some_iff.1 hk).1
        rw [En.len] at hk2
        have := hat k hk2
        rw [Vc.addr_add] at this
        rw [this]; exact hk
      · obtain ⟨y⟩ := ‹Nonempty α›
        exact ⟨y, fun h => absurd h hil⟩
    obtain ⟨f, hf⟩ := Classical.axiomOfChoice hx
    refine ⟨(⟨some ad, len, c⟩, (List.range len).map f), hcs, ⟨by simp, fun j x hj => ?_⟩, fun h => (by cases h), hlc, hcm, fun x hx => ?_⟩
    · have hlt : j < len := by have := (List.getElem?_eq_some_iff.1 hj).1; simpa using this
      simp [hlt] at hj
      subst hj
      exact ⟨ad, rfl, (hf j hlt).1⟩
    · simp only [List.mem_map, List.mem_range] at hx
      obtain ⟨j, hj, rfl⟩ := hx
      exact (hf j hj).2

/-- fields, from an offset on -/
inductive RdF (P : Program) : Nat → List Field → {α : Type} → Enc α → (World → α → Prop) → Prop where
  | nil {off} : RdF P off [] EU fun _ _ => True
  | cons {off : Nat} {f : Field} {fs : List Field} {α β : Type} {A : Enc α} {B : Enc β} {Q : World → α → Prop} {Q' : World → β → Prop} (ho : f.offset = off) (hc : P.cellsOf f.type = A.n) (h : Reads P f.type A Q) (r : RdF P (off + A.n) fs B Q') :
      RdF P off (f :: fs) (EP A B) fun W v => Q W v.1 ∧ Q' W v.2
theorem RdF.get {off : Nat} {fs : List Field} {α : Type} {En : Enc α} {Q : World → α → Prop} (h : RdF P off fs En Q) : ∀ {H : Type} {enc : TypeId × Value → H} {W : World} {n : Nat} {cs : List Value}, cs.length = off + En.n →
    (∀ (i : Nat) (f : Field), fs[i]? = some f → ∃ y, DataW.trod enc P W 0 (fun _ => true) true n f.type ((cs.drop f.offset).take (P.cellsOf f.type)) = some y) → ∃ v, cs.drop off = En.cells v ∧ Q W v := by
  induction h with
  | nil => intro H enc W n cs hl _; exact ⟨(), List.drop_eq_nil_of_le (by rw [hl]; exact Nat.le_refl _), trivial⟩
  | @cons off f fs α β A B Q Q' ho hc h r ih =>
    intro H enc W n cs hl hy
    obtain ⟨y, h0⟩ := hy 0 f rfl
    rw [ho, hc] at h0
    obtain ⟨v, hv, hq⟩ := h _ _ _ _ _ _ h0
    have hl' : cs.length = off + A.n + B.n := by rw [hl]; show off + (A.n + B.n) = _; omega
    obtain ⟨v', hv', hq'⟩ := ih (H := H) (enc := enc) (W := W) (n := n) (cs := cs) hl' fun i g hg => hy (i + 1) g (by simpa using hg)
    refine ⟨(v, v'), ?_, hq, hq'⟩
    show cs.drop off = A.cells v ++ B.cells v'
    rw [← hv, ← hv']
    have : cs.drop (off + A.n) = (cs.drop off).drop A.n := by rw [List.drop_drop]
    rw [this, List.take_append_drop]
theorem reads_struct {t : TypeId} {fs : Array Field} {α : Type} {En : Enc α} {Q : World → α → Prop} (hu : P.underlying t = some (.struct fs)) (hc : P.cellsOf t = En.n) (h : RdF P 0 fs.toList En Q) : Reads P t En Q := fun H enc W fuel cs x hx => by
  obtain ⟨ys, n, _, _, hlen, hyl, hfld⟩ := DataW.trod_struct hu hx
  have hl : cs.length = 0 + En.n := by rw [hlen, hc]; omega
  obtain ⟨v, hv, hq⟩ := h.get (H := H) (enc := enc) (W := W) (n := n) hl fun i f hf => by
    have hf : fs[i]? = some f := by simpa using hf
    have h1 := hfld i f hf
    have hi : i < fs.size := (Array.getElem?_eq_some_iff.1 hf).1
    rw [List.getElem?_eq_getElem (by omega)] at h1
    exact ⟨_, h1⟩
  exact ⟨v, by simpa using hv, hq⟩
theorem Has.map {α β : Type} {A : Enc α} {B : Enc β} {w : World} {l : Sl} {xs : List α} (h : Has A w l xs) (f : α → β) (hn : A.n = B.n) (hf : ∀ x, A.cells x = B.cells (f x)) : Has B w l (xs.map f) :=
  ⟨by rw [List.length_map]; exact h.1, fun j y hy => by
    rw [List.getElem?_map] at hy
    obtain ⟨x, hx, rfl⟩ := Option.map_eq_some_iff.1 hy
    obtain ⟨a, ha, hc⟩ := h.2 j x hx
    exact ⟨a, ha, fun i u hu => by rw [← hn]; exact hc i u (by rw [hf]; exact hu)⟩⟩
theorem Reads.to {t : TypeId} {α β : Type} {A : Enc α} {B : Enc β} {Q : World → α → Prop} {Q' : World → β → Prop} (h : Reads P t A Q) (f : α → β) (hf : ∀ x, A.cells x = B.cells (f x)) (hq : ∀ W x, Q W x → Q' W (f x)) : Reads P t B Q' := fun H enc W fuel cs x hx => by
  obtain ⟨v, hv, q⟩ := h _ _ _ _ _ _ hx
  exact ⟨f v, by rw [hv, hf], hq _ _ q⟩
/-- a slice that came in -/
theorem Reads.slice {t : TypeId} {α : Type} {Q : World → Sl × List α → Prop} (hr : Reads P t (ES α) Q) {H : Type} {enc : TypeId × Value → H} {W : World} {a : Option Addr} {len cap : Nat} {d : DataW H} {p : List MemPlace} (h : DataW.Trod enc P W 0 (fun _ => true) true t (.slice a len cap) d p) : ∃ xs, Q W (⟨a, len, cap⟩, xs) := by
  obtain ⟨fuel, hf⟩ := h
  obtain ⟨⟨s, xs⟩, hcs, hq⟩ := hr _ _ _ _ _ _ hf
  have e : (⟨a, len, cap⟩ : Sl) = s := by
    have h3 : [Value.slice a len cap] = [.slice s.a s.len s.cap] := hcs
    simp only [List.cons.injEq, Value.slice.injEq, and_true] at h3
    obtain ⟨rfl, rfl, rfl⟩ := h3
    rfl
  exact ⟨xs, by rw [e]; exact hq⟩
end
end Go.Proofs.YtmokmbhhnbcelaaGreatDoor
