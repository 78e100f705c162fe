/- append of zero bytes: as append of a text of zero bytes. -/
import Derived.Test.YtggachhkcmfijaaGreatDoorHp
set_option linter.unusedVariables false
namespace Go.Proofs.YtggachhkcmfijaaGreatDoor
open Go Go.Vc Go.RowKit Go.Lib
theorem zeroCells_tx (m : Nat) : Builtin.zeroCells #[.int .u8 0] m = (strCells (tx (List.replicate m 0))).toArray := by
 rw [strCells_tx]
 apply Array.ext'
 apply List.ext_getElem
 · simp [Builtin.zeroCells]
 · intro j h1 h2
   simp [Builtin.zeroCells, Nat.mod_one]
theorem append_zeros_eq {P : Program} {t ti u ty e : TypeId} {i : TypeInfo} (ht : P.underlying t = some (.slice e)) (hti : P.underlying ti = some (.int .i64)) (hu : P.underlying u = some .string) (hi : P.info? e = some i)
   (hz : i.zero = some (.int .u8 0)) (hs1 : i.size = 1) (hb1 : i.bytes = 1) (w : World) (base : Option Addr) (len cap m : Nat) (hc : len ≤ cap) (hm : len + m ≤ 140737488355328) :
   (Builtin.append_ #[t, ti] ty #[.slice base len cap, .int .i64 (m : Int)]).run P w = (Builtin.append_ #[t, u] ty #[.slice base len cap, .string (tx (List.replicate m 0))]).run P w := by
 have hw : IntKind.i64.wrap (m : Int) = m := by rw [IntKind.wrap_i64]; omega
 have hneg : ¬ ((m : Int) < 0) := by omega
 have hbig : ¬ (281474976710656 < (m : Int)) := by omega
 have hsz : (tx (List.replicate m 0)).size = m := by rw [tx_size, List.length_replicate]
 have hc0 : (Value.int .u8 0).cells = #[Value.int .u8 0] := rfl
 have hf : ∀ w, (Builtin.firstCells 1 m (.string (tx (List.replicate m 0)))).run P w = .ok (strCells (tx (List.replicate m 0))).toArray w := fun w => by
   have hf := run_firstCells_string (P := P) w 1 (tx (List.replicate m 0))
   rwa [hsz] at hf
 by_cases hroom : len + m ≤ cap
 · simp [Builtin.append_, run_underlying ht, run_underlying hti, run_underlying hu, sizeOf, typeInfo, zeroValue, hi, hz, hs1, hb1, asInt, asIntOf, hw, hneg, hbig, Builtin.lenOf, hsz, hroom, hf, hc0, zeroCells_tx]
   intro hm0
   subst hm0
   rfl
 · have h63' : ¬ (9223372036854775807 < ((len : Int) + (m : Int))) := by omega
   have hfit := growslice_fits (need := len + m) (old := cap) (bytes := 1) (by omega) (by omega)
   have h48' : ¬ (281474976710656 < Builtin.nextslicecap (len + m) cap) := by omega
   have hm0 : ¬ m = 0 := by omega
   simp [Builtin.append_, run_underlying ht, run_underlying hti, run_underlying hu, sizeOf, typeInfo, zeroValue, hi, hz, hs1, hb1, asInt, asIntOf, hw, hneg, hbig, Builtin.lenOf, hsz, hroom, hf, hc0, zeroCells_tx, h63', h48', hm0, Question.forced]
/-- append of zero bytes -/
theorem runT_append_zeros8 {P : Program} {w : World} {t ti u ty e : TypeId} {i : TypeInfo} (ht : P.underlying t = some (.slice e)) (hti : P.underlying ti = some (.int .i64)) (hu : P.underlying u = some .string) (hi : P.info? e = some i)
   (hz : i.zero = some (.int .u8 0)) (hs1 : i.size = 1) (hb1 : i.bytes = 1) {l : Sl} {xs : List Value} (hown : Own w e 1 l xs) {m : Nat} (hm : l.len + m ≤ 140737488355328) {R : Sl → World → Prop}
   (hR : ∀ l' w', Own w' e 1 l' (xs ++ strCells (tx (List.replicate m 0))) → l'.len = l.len + m → Fr l.bk w w' → Moved w l l' → R l' w') :
   RunT P (Builtin.append_ #[t, ti] ty #[.slice l.a l.len l.cap, .int .i64 (m : Int)]) [.one .slice] w R := by
 have hc : l.len ≤ l.cap := by
   rcases hown.2 with ⟨h2, h0⟩ | ⟨g, cap, cur, h2, hbg, hgg, hnc, hcm, hcs, htake⟩
   · simp only [Value.slice.injEq] at h2; omega
   · simp only [Value.slice.injEq] at h2; omega
 have hsz : (tx (List.replicate m 0)).size = m := by rw [tx_size, List.length_replicate]
 obtain ⟨l', w', hr, hq⟩ := runT_append_str (ty := ty) ht hu hi hz hs1 hb1 hown (s := tx (List.replicate m 0)) (by rw [hsz]; simp only [maxLen]; omega) (by rw [hsz]; exact hm) (R := R) (fun l' w' a b c d => hR l' w' a (by rw [hsz] at b; exact b) c d)
 exact ⟨l', w', by rw [append_zeros_eq ht hti hu hi hz hs1 hb1 w l.a l.len l.cap m hc hm]; exact hr, hq⟩
end Go.Proofs.YtggachhkcmfijaaGreatDoor
