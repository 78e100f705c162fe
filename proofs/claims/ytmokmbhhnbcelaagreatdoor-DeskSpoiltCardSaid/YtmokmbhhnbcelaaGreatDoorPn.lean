/- chain: its calls, of chains that are there apart from each other. -/
import Derived.Test.YtmokmbhhnbcelaaGreatDoorPl
set_option linter.unusedVariables false
namespace Go.Proofs.YtmokmbhhnbcelaaGreatDoor
open Go Go.Vc Go.RowKit Go.Lib

section
variable {w : World} {X : List As} {k g c : Nat} {D : DkV} {e : Ent} {es : List Ent}
theorem EntOk.cons (h : EntOk D e) : ∃ xs, (List.range e.n).map e.L = e.L 0 :: xs := by
  have hp := h.chn.pos
  obtain ⟨m, hm⟩ : ∃ m, e.n = m + 1 := ⟨e.n - 1, by omega⟩
  rw [hm, List.range_succ_eq_map]
  exact ⟨_, rfl⟩
theorem Have.at_ (h : Have D es) (he : e ∈ es) : 2 ≤ e.x.at_ ∧ e.x.at_ < (D.bs.length : Int) ∧ e.x.at_ < 2000 := by
  have h1 := h.ok e he
  have hp := h1.chn.pos
  have := h1.rng 0 (by omega)
  have hl := h.len
  rw [h1.at_] at this
  omega
end
end Go.Proofs.YtmokmbhhnbcelaaGreatDoor

/- masonrybook: SameInts, Room; masonrylaw12: need, Light; chain.Need of all numbers. -/
set_option linter.unusedVariables false
namespace Go.Proofs.YtmokmbhhnbcelaaGreatDoor
open Go Go.Vc Go.RowKit Go.Lib

theorem Has.int {w : World} {l : Sl} {xs : List Int} (h : Has EI w l xs) {m : Nat} (hm : m < xs.length) : ∃ ad, l.a = some ad ∧ m < l.len ∧ w.cell? (ad.add (m * 1)) = some (.int .i64 xs[m]) := by
  obtain ⟨ad, ha, hl, hc⟩ := h.at hm
  have h0 := hc 0 _ rfl
  rw [Vc.addr_add0] at h0
  exact ⟨ad, ha, hl, h0⟩
section
variable {w : World} {X : List As}
theorem SameI_st (h : St w X) {al bl : Sl} {xs ys : List Int} (ha : ∀ w', St w' X → Has EI w' al xs) (hb : ∀ w', St w' X → Has EI w' bl ys) (hl : xs.length ≤ 1000000000000000) {R : Bool → World → Prop} (hR : ∀ w', St w' X → R (decide (xs = ys)) w') : F.masonrybook_SameInts al bl w R := by
  apply E.masonrybook_SameInts
  unfold V.masonrybook_SameInts
  try simp (config := { zeta := false }) only [cnd_all, Nat.reduceAdd]
  have h1 := (ha w h).1
  have h2 := (hb w h).1
  refine ⟨fun hne => ?_, fun heq => ?_⟩
  · have := hR w h
    rw [decide_eq_false (fun e => hne (by rw [h1, h2, e]))] at this
    exact this
  have hlen : xs.length = ys.length := by omega
  refine ⟨Cnt xs.length fun m w' => xs.take m = ys.take m ∧ St w' X, cntM xs.length, Cnt.zero ⟨rfl, h⟩, ?_⟩
  rintro _ w1 ⟨m, rfl, hm, htk, h3⟩
  refine ⟨fun hlt => ?_, fun hge => ?_⟩
  · have hlt : m < xs.length := by omega
    intro wa1
    replace h3 : St wa1 _ := h3.drew
    clear_value wa1
    obtain ⟨a, ha1, hal, c0⟩ := Has.int (ha _ h3) hlt
    obtain ⟨b, hb1, hbl, e0⟩ := Has.int (hb _ h3) (m := m) (by omega)
    refine ⟨a, ha1, by omega, by omega, _, c0, b, hb1, by omega, by omega, _, e0, fun hf => ?_, fun ht => Cnt.next hlt (by omega) ⟨?_, h3⟩⟩
    · have := hR _ h3
      rw [decide_eq_false (fun e => by subst e; simp at hf)] at this
      exact this
    · rw [List.take_succ_eq_append_getElem hlt, List.take_succ_eq_append_getElem (by omega), htk]
      rw [ht]
  · have hmm : m = xs.length := by omega
    subst hmm
    rw [List.take_length] at htk
    have e : xs = ys := by rw [htk, hlen, List.take_length]
    have := hR _ h3
    rw [decide_eq_true e] at this; exact this
end

/-! ### What is done -/
structure OpC where
  kind : Int
  k : Int
  gen : Int
  tag : Int
  by_ : Int
  s : Bs
  more : Int
def EOC : Enc OpC := ⟨fun o => [.int .i64 o.kind, .int .i64 o.k, .int .i64 o.gen, .int .i64 o.tag, .int .i64 o.by_, .string (tx o.s), .int .i64 o.more], 7, fun _ => rfl, fun _ u hu => by simp only [List.mem_cons, List.not_mem_nil, or_false] at hu; rcases hu with rfl | rfl | rfl | rfl | rfl | rfl | rfl <;> rfl⟩
theorem Has.op {w : World} {l : Sl} {xs : List OpC} (h : Has EOC w l xs) {m : Nat} (hm : m < xs.length) : ∃ ad, l.a = some ad ∧ m < l.len ∧ w.cell? (ad.add (m * 7)) = some (.int .i64 xs[m].kind) ∧ w.cell? ((ad.add (m * 7)).add 1) = some (.int .i64 xs[m].k) ∧ w.cell? ((ad.add (m * 7)).add 2) = some (.int .i64 xs[m].gen) ∧ w.cell? ((ad.add (m * 7)).add 3) = some (.int .i64 xs[m].tag) ∧ w.cell? ((ad.add (m * 7)).add 4) = some (.int .i64 xs[m].by_) ∧ w.cell? ((ad.add (m * 7)).add 5) = some (.string (tx xs[m].s)) ∧ w.cell? ((ad.add (m * 7)).add 6) = some (.int .i64 xs[m].more) := by
  obtain ⟨ad, ha, hl, hc⟩ := h.at hm
  have h0 := hc 0 _ rfl
  rw [Vc.addr_add0] at h0
  exact ⟨ad, ha, hl, h0, hc 1 _ rfl, hc 2 _ rfl, hc 3 _ rfl, hc 4 _ rfl, hc 5 _ rfl, hc 6 _ rfl⟩
section
variable {w : World} {X : List As}
end
end Go.Proofs.YtmokmbhhnbcelaaGreatDoor
