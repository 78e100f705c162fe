/- desk: written, Dirty, Sync, Get. -/
import Derived.Test.YtmokmbhhnbcelaaGreatDoorDd
set_option linter.unusedVariables false
namespace Go.Proofs.YtmokmbhhnbcelaaGreatDoor
open Go Go.Vc Go.RowKit Go.Lib Go.Maps Go.Proofs

theorem MapOf.lookok {w : World} {b : Nat} {ws : List Wr1} (h : MapOf w b ws) {x : Int} (hx : -9223372036854775808 ≤ x ∧ x < 9223372036854775808) {R : ByteArray → Bool → World → Prop} (hR : R (tx (lastW ws x)) (decide (x ∈ keysW ws)) w) :
    RunT Pg (Instr.lookup T.y_map_int_string (.map (some b)) (.int .i64 x) true) [.one .str, .one .bool] w R := by
  obtain ⟨D, n, ho, hn, hh, hat⟩ := h
  have hz : (zeroValue T.y_string).run Pg w = .ok (.string sNil) w := run_zeroT (by kernel_rfl) w
  have hzd : plainElem (H := Unit) Pg T.y_string (.string sNil) = some (.lit (.string []), []) := plainElem_string und_str' (s := sNil) (by decide)
  obtain ⟨v, ps, hrun, hv⟩ := ho.look_ok Kint und_mis hz hzd (keyOf_int_mk und_int' (intWf hx))
  rw [hat x] at hv
  obtain ⟨s, rfl, hs, _⟩ := plainElem_string_inv und_str' hv
  simp only [Prod.mk.injEq, DataW.lit.injEq, Lit.string.injEq] at hs
  have e : s = tx (lastW ws x) := by
    rw [hs.1]
    rfl
  subst e
  have e2 : Maps.has D (.int .i64 x) = decide (x ∈ keysW ws) := by
    rw [Bool.eq_iff_iff, hh x]; simp
  rw [e2] at hrun
  exact ⟨_, _, w, hrun, hR⟩

section
variable {w : World} {k u g r b : Nat} {fpd fpr : Nat → Prop} {D : DkV} {c : Nat}

theorem DOk.bsl (h : DOk c D) : 29 ≤ D.bs.length ∧ D.bs.length ≤ 1889 := by
  have := h.len; have := h.q.lo; have := h.q.hi
  omega
theorem DOk.ts (h : DOk c D) : ∀ x ∈ nextT (keysW D.ws), 0 ≤ x ∧ x < (D.bs.length : Int) := fun x hx => by
  rw [(nextT_up _).2] at hx
  obtain ⟨y, hy, rfl⟩ := List.mem_map.1 hx
  have := h.ws y hy
  exact ⟨this.1, this.2.1⟩

theorem Get_desk (h : DeskA w k u g r b fpd fpr D) (hk : DOk c D) {at_ : Int} (hx : -9223372036854775808 ≤ at_ ∧ at_ < 9223372036854775808) {R : ByteArray → Int → World → Prop}
    (hR : R (tx (if at_ ∈ keysW D.ws then lastW D.ws at_ else if 0 ≤ at_ ∧ at_ < (D.bs.length : Int) then homeAt D.d at_.toNat else [])) (if at_ ∈ keysW D.ws then 0 else if 0 ≤ at_ ∧ at_ < (D.bs.length : Int) then 0 else 15) w) : F.desk_Desk_Get (some (blk k)) at_ w R := by
  apply E.desk_Desk_Get
  unfold V.desk_Desk_Get
  have hhi := hk.q.hi
  have hlen := hk.len
  refine Bad_desk h ⟨fun h => by simp at h, fun _ => ⟨blk k, rfl, some b, h.c2, h.mp.lookok hx ⟨fun hb => ?_, fun hb => ⟨blk k, rfl, some (blk u), h.c0, Read_wal h.wl h.dk (by omega) ?_⟩⟩⟩⟩
  · have hb := of_decide_eq_true hb
    rw [if_pos hb, if_pos hb] at hR; exact hR
  · have hb := of_decide_eq_false hb
    rw [if_neg hb, if_neg hb] at hR
    have hs : sizeD D.d = (D.d.l.length : Int) - 111 := rfl
    by_cases hr : 0 ≤ at_ ∧ at_ < (D.bs.length : Int)
    · rw [if_pos hr, if_pos hr] at hR
      have e : readE D.d false at_ = 0 := by unfold readE; rw [if_neg (by decide), if_neg (by omega), if_neg (by simp [hk.q.off])]
      simp only [e, if_true]
      exact hR
    · rw [if_neg hr, if_neg hr] at hR
      have e : readE D.d false at_ = 15 := by unfold readE; rw [if_neg (by decide), if_pos (by omega)]
      simp only [e]
      exact hR
end

end Go.Proofs.YtmokmbhhnbcelaaGreatDoor

/- desk: Sync. -/
set_option linter.unusedVariables false
namespace Go.Proofs.YtmokmbhhnbcelaaGreatDoor
open Go Go.Vc Go.RowKit Go.Lib Go.Maps Go.Proofs

section
variable {w : World} {k u g r b : Nat} {fpd fpr : Nat → Prop} {D : DkV} {c : Nat}

end

end Go.Proofs.YtmokmbhhnbcelaaGreatDoor
