/- masonrylaw9.alive, WalNone: the walk. -/
import Derived.Test.YtmokmbhhnbcelaaGreatDoorWc
set_option linter.unusedVariables false
namespace Go.Proofs.YtmokmbhhnbcelaaGreatDoor
open Go Go.Vc Go.RowKit Go.Lib

theorem lastE_ok {n : Int} {ws : List Wr1} (h : ∀ x ∈ ws, 0 ≤ x.1 ∧ x.1 < n ∧ x.2.length = 256) (hl : (nextT (keysW ws)).length ≤ 110) : lastE n ws = 0 := by
  have e : ws.find? (fun x => decide (badW n x ≠ 0)) = none := by
    rw [List.find?_eq_none]
    intro x hx
    have := h x hx
    have : badW n x = 0 := by unfold badW; rw [if_neg (by omega), if_neg (by omega)]
    simp [this]
  unfold lastE
  rw [e]
  simp only
  rw [if_neg (by omega)]

theorem Open_quiet {w : World} {g : Nat} {fp : Nat → Prop} {d : Ds} {seq : Int} (hd : Dsk w g fp d) (hq : Quiet d seq)
    {R : Option Addr → Int → World → Prop} (hR : ∀ u w', Wl w' u g ⟨seq, false, 0⟩ → w.heap.size ≤ u → Below w.heap.size w w' → R (some (blk u)) 0 w') : F.wal_Open (some (blk g)) w R :=
  Open_ok hd hq.off (by have := hq.lo; omega) hq.head (by rw [hq.hlen]; decide) hR

section
variable {w : World}
end

end Go.Proofs.YtmokmbhhnbcelaaGreatDoor

/- WalCosts: the walk. -/
set_option linter.unusedVariables false
namespace Go.Proofs.YtmokmbhhnbcelaaGreatDoor
open Go Go.Vc Go.RowKit Go.Lib Go.Maps Go.Proofs

theorem und_bool' : Pg.underlying T.y_bool = some .bool := by kernel_rfl
theorem und_mib : Pg.underlying T.y_map_int_bool = some (.map T.y_int T.y_bool) := by kernel_rfl

/-- block b is a map that has these numbers -/
def SetOf (w : World) (b : Nat) (ks : List Int) : Prop :=
  ∃ (D : DataW Unit) (n : Nat), w.ownsMap Pg T.y_int (plainElem (H := Unit) Pg T.y_bool) b n D ∧ n ≤ ks.length ∧ ∀ x : Int, Maps.has D (.int .i64 x) = true ↔ x ∈ ks

theorem SetOf.made (w : World) : SetOf (w.alloc (.map #[] 0)) w.heap.size [] :=
  ⟨.map [], 0, World.ownsMap_made w Pg T.y_int _, Nat.le_refl _, fun x => by simp [Maps.has_eq]⟩
theorem SetOf.lt {w : World} {b : Nat} {ks : List Int} (h : SetOf w b ks) : b < w.heap.size := by obtain ⟨D, n, ho, _⟩ := h; exact ho.lt
theorem SetOf.keep {w w' : World} {b : Nat} {ks : List Int} (h : SetOf w b ks) {Z : Nat → Prop} (hf : Fr Z w w') (hz : ¬ Z b) : SetOf w' b ks := by
  obtain ⟨D, n, ⟨es, clock, hb, r⟩, h2⟩ := h
  exact ⟨D, n, ⟨es, clock, hf.heap hb hz, r⟩, h2⟩
theorem SetOf.put {w : World} {b : Nat} {ks : List Int} (h : SetOf w b ks) (hl : ks.length ≤ 1000000) {x : Int} (hx : -9223372036854775808 ≤ x ∧ x < 9223372036854775808) {R : World → Prop}
    (hR : ∀ w', SetOf w' b (ks ++ [x]) → Fr (· = b) w w' → R w') : RunU Pg (Instr.mapUpdate T.y_map_int_bool (.map (some b)) (.int .i64 x) (.bool true)) w R := by
  obtain ⟨D, n, ho, hn, hh⟩ := h
  obtain ⟨w', hrun, ho', hg⟩ := ho.update Kint und_mib (by simp only [maxLen]; omega) (keyOf_int_mk und_int' (intWf hx)) (plainElem_bool und_bool' true)
  have hm := ho.isMap
  refine ⟨w', hrun, hR w' ⟨_, n + 1, ho', by simp only [List.length_append, List.length_cons, List.length_nil]; omega, fun y => ?_⟩ (Fr.grown (S := (· = b)) hg fun k hk => (Option.some.inj hk).symm)⟩
  by_cases hy : y = x
  · subst hy
    rw [has_put_same hm (show WideAt.IsKeyLit (.int .i64 y) from trivial)]
    simp
  · rw [has_put_other (by simpa using hy), hh y]
    simp [hy]
theorem SetOf.len {w : World} {b : Nat} {ks : List Int} (h : SetOf w b ks) {R : Int → World → Prop} (hR : R ((nextT ks).length : Int) w) :
    RunT Pg (Builtin.len_ #[T.y_map_int_bool] T.y_int #[.map (some b)]) [.one (.int .i64)] w R := by
  obtain ⟨D, n, ho, hn, hh⟩ := h
  have h2 := ho.len und_mib T.y_int
  have e : Maps.size D = (nextT ks).length := by
    obtain ⟨es, hD, hpw, _⟩ := ho.entries Kint
    obtain ⟨es', hD', hko⟩ := ho.keysOf
    obtain rfl : es = es' := by rw [hD] at hD'; simpa using hD'
    subst hD
    have hp := (perm_intKeys hpw (fun p hp => by obtain ⟨v, hv⟩ := hko p hp; obtain ⟨x, _, hx, _⟩ := Maps.keyOf_i64 und_int' hv; exact ⟨x, hx⟩) (nodup_nextT ks) (fun x => by rw [(nextT_up _).2 x, hh x])).length_eq
    rw [hp]
    simp [intKeys, Maps.size]
  rw [e] at h2
  exact ⟨_, w, h2, hR⟩

section
variable {w : World} {u g : Nat} {s : WlS} {fp : Nat → Prop} {d : Ds}
end

end Go.Proofs.YtmokmbhhnbcelaaGreatDoor
