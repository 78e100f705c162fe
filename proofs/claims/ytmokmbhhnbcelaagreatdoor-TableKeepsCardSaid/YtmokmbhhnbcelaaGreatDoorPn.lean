/- masonrybook: SameInts, Room; masonrylaw12: need, Light; chain.Need of all numbers. -/
import Derived.Test.YtmokmbhhnbcelaaGreatDoorPm
set_option linter.unusedVariables false
namespace Go.Proofs.YtmokmbhhnbcelaaGreatDoor
open Go Go.Vc Go.RowKit Go.Lib

theorem Has.int {w : World} {l : Sl} {xs : List Int} (h : Has EI w l xs) {m : Nat} (hm : m < xs.length) : ∃ ad, l.a = some ad ∧ m < l.len ∧ w.cell? (ad.add (m * 1)) = some (.int .i64 xs[m]) := by
  obtain ⟨ad, ha, hl, hc⟩ := h.at hm
  have h0 := hc 0 _ rfl
  rw [Vc.addr_add0] at h0
  exact ⟨ad, ha, hl, h0⟩
section
variable {w : World} {X : List As}
theorem Room_any {sl : Sl} {ns : List Int} (hx : Has EI w sl ns) {left : Int} (hl : -1 ≤ left ∧ left < 4611686018427387904) (hn : ∀ n ∈ ns, 0 ≤ n) (hlen : ns.length ≤ 1000) {R : Int → World → Prop} (hR : ∀ x, -1 ≤ x → x ≤ left → (0 ≤ x → ∀ n ∈ ns, n ≤ left) → R x w) : F.masonrybook_Room left sl w R := by
  apply E.masonrybook_Room
  unfold V.masonrybook_Room
  try simp (config := { zeta := false }) only [cnd_all, Nat.reduceAdd]
  have hs := hx.1
  refine ⟨fun x i w' => w' = w ∧ ∃ m : Nat, i = m ∧ m ≤ ns.length ∧ -1 ≤ x ∧ x ≤ left ∧ ∀ n ∈ ns.take m, n ≤ left, fun _ i _ => ((ns.length : Int) - i).toNat, ⟨rfl, 0, rfl, Nat.zero_le _, hl.1, Int.le_refl _, by simp⟩, ?_⟩
  rintro x i w1 ⟨rfl, m, rfl, hm, hx1, hx2, hall⟩
  refine ⟨fun hlt => ?_, fun hge => ?_⟩
  · have hlt : m < ns.length := by omega
    obtain ⟨a, ha, hal, hc0⟩ := Has.int hx hlt
    have h0 := hn ns[m] (List.getElem_mem hlt)
    refine ⟨fun hneg => hR _ (by omega) (by omega) (fun h => by omega), fun hpos => ⟨a, ha, by omega, by omega, ns[m], hc0, fun hbig => hR _ (by omega) (by omega) (fun h => by omega), fun hsm => ⟨a, ha, by omega, by omega, ns[m], hc0, ?_⟩⟩⟩
    rw [w64_succ (by omega), show w64 (x - ns[m]) = x - ns[m] from w64_id (by omega) (by omega)]
    refine ⟨⟨rfl, m + 1, rfl, hlt, by omega, by omega, fun n hn => ?_⟩, by show ((ns.length : Int) - ((m + 1 : Nat) : Int)).toNat < ((ns.length : Int) - (m : Int)).toNat; omega⟩
    rw [List.take_succ_eq_append_getElem hlt] at hn
    rcases List.mem_append.1 hn with hn | hn
    · exact hall n hn
    · simp only [List.mem_cons, List.not_mem_nil, or_false] at hn
      subst hn; omega
  · have hmm : m = ns.length := by omega
    subst hmm
    rw [List.take_length] at hall
    exact hR x hx1 hx2 fun _ => hall
end

/-! ### What is done -/
structure OpC where
  kind : Int
  k : Int
  gen : Int
  tag : Int
  by_ : Int
  s : Bs
  more : Int
def EOC : Enc OpC := ⟨fun o => [.int .i64 o.kind, .int .i64 o.k, .int .i64 o.gen, .int .i64 o.tag, .int .i64 o.by_, .string (tx o.s), .int .i64 o.more], 7, fun _ => rfl, fun _ u hu => by simp only [List.mem_cons, List.not_mem_nil, or_false] at hu; rcases hu with rfl | rfl | rfl | rfl | rfl | rfl | rfl <;> rfl⟩
theorem Has.op {w : World} {l : Sl} {xs : List OpC} (h : Has EOC w l xs) {m : Nat} (hm : m < xs.length) : ∃ ad, l.a = some ad ∧ m < l.len ∧ w.cell? (ad.add (m * 7)) = some (.int .i64 xs[m].kind) ∧ w.cell? ((ad.add (m * 7)).add 1) = some (.int .i64 xs[m].k) ∧ w.cell? ((ad.add (m * 7)).add 2) = some (.int .i64 xs[m].gen) ∧ w.cell? ((ad.add (m * 7)).add 3) = some (.int .i64 xs[m].tag) ∧ w.cell? ((ad.add (m * 7)).add 4) = some (.int .i64 xs[m].by_) ∧ w.cell? ((ad.add (m * 7)).add 5) = some (.string (tx xs[m].s)) ∧ w.cell? ((ad.add (m * 7)).add 6) = some (.int .i64 xs[m].more) := by
  obtain ⟨ad, ha, hl, hc⟩ := h.at hm
  have h0 := hc 0 _ rfl
  rw [Vc.addr_add0] at h0
  exact ⟨ad, ha, hl, h0, hc 1 _ rfl, hc 2 _ rfl, hc 3 _ rfl, hc 4 _ rfl, hc 5 _ rfl, hc 6 _ rfl⟩
section
variable {w : World} {X : List As}
end
end Go.Proofs.YtmokmbhhnbcelaaGreatDoor
