/- maps from numbers to texts; their keys, sorted. -/
import Derived.Test.YtmokmbhhnbcelaaGreatDoorDb
import Derived.Maps.OwnSet
import Derived.Maps.Range
import Derived.Maps.StringElems
import Derived.Lib.SlKeysI
import Derived.Shelf.SlIterI.Nil
set_option linter.unusedVariables false
namespace Go.Proofs.YtmokmbhhnbcelaaGreatDoor
open Go Go.Vc Go.RowKit Go.Lib Go.Maps Go.Proofs
theorem und_int' : Pg.underlying T.y_int = some (.int .i64) := by kernel_rfl
theorem und_str' : Pg.underlying T.y_string = some .string := by kernel_rfl
theorem und_mis : Pg.underlying T.y_map_int_string = some (.map T.y_int T.y_string) := by kernel_rfl
theorem Kint : Keyed Pg T.y_int := int_keyed und_int'
def lastW (ws : List Wr1) (x : Int) : Bs := ws.foldl (fun acc p => if p.1 = x then p.2 else acc) []
theorem lastW_app (ws : List Wr1) (p : Wr1) (x : Int) : lastW (ws ++ [p]) x = if p.1 = x then p.2 else lastW ws x := by simp [lastW, List.foldl_append]
def keysW (ws : List Wr1) : List Int := ws.map (·.1)
/-- block b is a map that holds the last write of each number -/
def MapOf (w : World) (b : Nat) (ws : List Wr1) : Prop :=
 ∃ (D : DataW Unit) (n : Nat), w.ownsMap Pg T.y_int (plainElem (H := Unit) Pg T.y_string) b n D ∧ n ≤ ws.length ∧ (∀ x : Int, Maps.has D (.int .i64 x) = true ↔ x ∈ keysW ws) ∧ ∀ x : Int, D.atKey (.int .i64 x) (.lit (.string [])) = .lit (.string (lastW ws x))
theorem MapOf.made (w : World) : MapOf (w.alloc (.map #[] 0)) w.heap.size [] :=
 ⟨.map [], 0, World.ownsMap_made w Pg T.y_int _, Nat.le_refl _, fun x => by simp [keysW, Maps.has_eq], fun x => rfl⟩
theorem MapOf.lt {w : World} {b : Nat} {ws : List Wr1} (h : MapOf w b ws) : b < w.heap.size := by obtain ⟨D, n, ho, _⟩ := h; exact ho.lt
theorem MapOf.keep {w w' : World} {b : Nat} {ws : List Wr1} (h : MapOf w b ws) {Z : Nat → Prop} (hf : Fr Z w w') (hz : ¬ Z b) : MapOf w' b ws := by
 obtain ⟨D, n, ⟨es, clock, hb, r⟩, h2⟩ := h
 exact ⟨D, n, ⟨es, clock, hf.heap hb hz, r⟩, h2⟩
theorem intWf {x : Int} (h : -9223372036854775808 ≤ x ∧ x < 9223372036854775808) : (Lit.int .i64 x).wf = true := by
 have e1 : IntKind.min .i64 = -9223372036854775808 := by decide
 simp only [Lit.wf, Bool.and_eq_true, decide_eq_true_eq]
 rw [e1]
 have e2 : IntKind.max .i64 = 9223372036854775807 := by decide
 rw [e2]
 omega
theorem MapOf.put {w : World} {b : Nat} {ws : List Wr1} (h : MapOf w b ws) (hl : ws.length ≤ 1000000) {x : Int} {s : Bs} (hx : -9223372036854775808 ≤ x ∧ x < 9223372036854775808) (hs : s.length ≤ 1000000) {R : World → Prop}
   (hR : ∀ w', MapOf w' b (ws ++ [(x, s)]) → Fr (· = b) w w' → R w') : RunU Pg (Instr.mapUpdate T.y_map_int_string (.map (some b)) (.int .i64 x) (.string (tx s))) w R := by
 obtain ⟨D, n, ho, hn, hh, hat⟩ := h
 have hsz : (tx s).size ≤ maxLen := by rw [tx_size]; simp only [maxLen]; omega
 obtain ⟨w', hrun, ho', hg⟩ := ho.update Kint und_mis (by simp only [maxLen]; omega) (keyOf_int_mk und_int' (intWf hx)) (plainElem_string und_str' hsz)
 have hm := ho.isMap
 refine ⟨w', hrun, hR w' ⟨_, n + 1, ho', by simp only [List.length_append, List.length_cons, List.length_nil]; omega, fun y => ?_, fun y => ?_⟩ (Fr.grown (S := (· = b)) hg fun k hk => (Option.some.inj hk).symm)⟩
 · by_cases hy : y = x
   · subst hy
     rw [has_put_same hm (show WideAt.IsKeyLit (.int .i64 y) from trivial)]
     simp [keysW]
   · rw [has_put_other (by simpa using hy), hh y]
     simp [keysW, hy]
 · by_cases hy : y = x
   · subst hy
     rw [atKey_put_same hm (show WideAt.IsKeyLit (.int .i64 y) from trivial), lastW_app, tx_data]
     simp
   · rw [atKey_put_other (by simpa using hy), hat y, lastW_app]
     rw [if_neg (fun h => hy h.symm)]
theorem MapOf.look {w : World} {b : Nat} {ws : List Wr1} (h : MapOf w b ws) {x : Int} (hx : -9223372036854775808 ≤ x ∧ x < 9223372036854775808) {R : ByteArray → World → Prop} (hR : R (tx (lastW ws x)) w) :
   RunT Pg (Instr.lookup T.y_map_int_string (.map (some b)) (.int .i64 x) false) [.one .str] w R := by
 obtain ⟨D, n, ho, hn, hh, hat⟩ := h
 have hz : (zeroValue T.y_string).run Pg w = .ok (.string sNil) w := run_zeroT (by kernel_rfl) w
 have hzd : plainElem (H := Unit) Pg T.y_string (.string sNil) = some (.lit (.string []), []) := plainElem_string und_str' (s := sNil) (by decide)
 obtain ⟨v, ps, hrun, hv⟩ := ho.lookup Kint und_mis hz hzd (keyOf_int_mk und_int' (intWf hx))
 rw [hat x] at hv
 obtain ⟨s, rfl, hs, _⟩ := plainElem_string_inv und_str' hv
 simp only [Prod.mk.injEq, DataW.lit.injEq, Lit.string.injEq] at hs
 have e : s = tx (lastW ws x) := by
   rw [hs.1]
   rfl
 subst e
 exact ⟨_, w, hrun, hR⟩
theorem nodup_nextT (zs : List Int) : (nextT zs).Nodup := by
 have h : ∀ l : List Int, Up l → l.Nodup := by
   intro l
   induction l with
   | nil => intro _; exact List.nodup_nil
   | cons a r ih =>
     intro h
     have h' : List.Pairwise (· < ·) (a :: r) := by first | exact h | simpa [Up] using h
     exact h'.imp (fun h => by intro e; subst e; exact Int.lt_irrefl _ h)
 exact h _ (nextT_up zs).1
theorem MapOf.perm {D : DataW Unit} {w : World} {b n : Nat} {ws : List Wr1} (ho : w.ownsMap Pg T.y_int (plainElem (H := Unit) Pg T.y_string) b n D) (hh : ∀ x : Int, Maps.has D (.int .i64 x) = true ↔ x ∈ keysW ws) : (nextT (keysW ws)).Perm (intKeys D) := by
 obtain ⟨es, hD, hpw, _⟩ := ho.entries Kint
 obtain ⟨es', hD', hko⟩ := ho.keysOf
 obtain rfl : es = es' := by rw [hD] at hD'; simpa using hD'
 subst hD
 exact perm_intKeys hpw (fun p hp => by obtain ⟨v, hv⟩ := hko p hp; obtain ⟨x, _, hx, _⟩ := Maps.keyOf_i64 und_int' hv; exact ⟨x, hx⟩) (nodup_nextT _) (fun x => by rw [(nextT_up _).2 x, hh x])
theorem MapOf.size {D : DataW Unit} {w : World} {b n : Nat} {ws : List Wr1} (ho : w.ownsMap Pg T.y_int (plainElem (H := Unit) Pg T.y_string) b n D) (hh : ∀ x : Int, Maps.has D (.int .i64 x) = true ↔ x ∈ keysW ws) : Maps.size D = (nextT (keysW ws)).length := by
 have hp := (MapOf.perm ho hh).length_eq
 obtain ⟨es, hD, _⟩ := ho.entries Kint
 subst hD
 rw [hp]
 simp [intKeys, Maps.size]
theorem MapOf.len {w : World} {b : Nat} {ws : List Wr1} (h : MapOf w b ws) {R : Int → World → Prop} (hR : R ((nextT (keysW ws)).length : Int) w) :
   RunT Pg (Builtin.len_ #[T.y_map_int_string] T.y_int #[.map (some b)]) [.one (.int .i64)] w R := by
 obtain ⟨D, n, ho, hn, hh, hat⟩ := h
 have h2 := ho.len und_mis T.y_int
 rw [MapOf.size ho hh] at h2
 exact ⟨_, w, h2, hR⟩
theorem mergeSort_up (l : List Int) (h : Up l) : l.mergeSort (fun x y => decide (x ≤ y)) = l := by
 refine List.mergeSort_of_pairwise ?_
 have h' : List.Pairwise (· < ·) l := by first | exact h | simpa [Up] using h
 exact h'.imp (fun h => by simp only [decide_eq_true_eq]; omega)
theorem Tryz.sortsA (m : Nat) : AnyZI.SortsIn Tryz.prog Tryz.sortedA_ren Fence.wide m :=
 ⟨fun blk off cap ss W hH hblk hsz => callsIn_wide.2 (Any.slices_Sort_int Tryz.lays189 blk off cap ss W hH hblk hsz),
  fun p cap W => callsIn_wide.2 (Any.slices_Sort_int_none Tryz.lays189 p cap W)⟩
set_option maxHeartbeats 1000000 in
theorem KeysSorted_spec {w : World} {b : Nat} {ws : List Wr1} (h : MapOf w b ws) (hlen : ws.length ≤ 1000000) {R : Sl → World → Prop}
   (hR : ∀ l w', Own w' T.y_int 1 l (intCells (nextT (keysW ws))) → (∀ k, l.bk k → w.heap.size ≤ k) → Below w.heap.size w w' → R l w') :
   F.maps_Keys_map_int_string_int_string (some b) w fun v w1 => F.slices_Sorted_int v w1 R := by
 obtain ⟨D, n, ho, hn, hh, hat⟩ := h
 have hbl := ho.lt
 have hsz : Maps.size D ≤ 1000000 := Nat.le_trans ho.size_le (Nat.le_trans hn hlen)
 have hseq : SeqGives Fence.wide 2 Tryz.prog 256 #[.pointer (some ⟨w.heap.size, 0, none⟩)] encZ (fun ss => ss.Perm (intKeys D)) (Maps.size D) (w.alloc (.cells #[.map (some b)] 68)) :=
   AnyZI.keys_gives (ρ := Tryz.keysA_ren) { Tryz.keysA with } Fence.wide _ trivial rfl (by omega) w.heap.size b n D (R := plainElem (H := Unit) Pg T.y_string) _ (by simp) (by simp) (by
     obtain ⟨es, clock, hb, Ft, hs, hD⟩ := ho
     exact ⟨es, clock, (Below.heap_alloc _ _ b hbl).trans hb, Ft, hs, hD⟩)
 have cK : CallsIn Fence.wide 5 Tryz.prog 198 #[.map (some b)] w fun e w' => e = .returned (.func (.func 256) #[] #[.pointer (some ⟨w.heap.size, 0, none⟩)]) ∧ w' = w.alloc (.cells #[.map (some b)] 68) := AnyZI.keys_in Tryz.keysA Fence.wide 5 trivial rfl (some b) w
 have cS := AnyZI.sorted_in Tryz.sortedA Fence.wide 5 trivial trivial trivial trivial rfl (by omega) (Tryz.sortsA _) (enters_of Tryz.func255 (by kernel_rfl) rfl) 256 #[.pointer (some ⟨w.heap.size, 0, none⟩)] trivial (enters_of Tryz.func256 (by kernel_rfl) rfl) _ _ (by simp only [maxLen]; omega) (by omega) _ hseq
 change CallsIn _ _ Tryz.prog 197 _ _ _ at cS
 have cK' := callsIn_wide.1 cK
 have cS' := callsIn_wide.1 cS
 refine Calls.mono cK' fun e w' hk => ?_
 obtain ⟨rfl, rfl⟩ := hk
 refine ⟨_, rfl, Calls.mono cS' fun e w2 hs => ?_⟩
 obtain ⟨v, ss, rfl, hS, hrow, hnil, hB⟩ := hs
 have e1 : ss.mergeSort (fun x y => decide (x ≤ y)) = nextT (keysW ws) := by
   rw [mergeSort_of_perm_i (hS.trans (MapOf.perm ho hh).symm)]
   exact mergeSort_up _ (nextT_up _).1
 rw [e1] at hrow
 have hl : ss.length = (nextT (keysW ws)).length := (hS.trans (MapOf.perm ho hh).symm).length_eq
 rw [hl] at hrow
 have hB2 : Below w.heap.size w w2 := ((Below.refl _ w).alloc (Nat.le_refl _) _).trans (hB.mono (by simp))
 have e3 : (nextT (keysW ws)).map encZ = intCells (nextT (keysW ws)) := rfl
 rw [e3] at hrow
 obtain ⟨r1, r2⟩ := hrow
 rcases r2 with ⟨rfl, hz⟩ | ⟨g, cap, cur, rfl, hbase, hg, q1, q2, q3, q4⟩
 · have hz' : nextT (keysW ws) = [] := List.eq_nil_of_length_eq_zero hz
   refine ⟨⟨none, 0, 0⟩, rfl, hR _ w2 ?_ (fun k hk => bk_nil hk) hB2⟩
   rw [hz']; exact Own.nil _ _ _
 · refine ⟨⟨some ⟨g, 0, none⟩, (nextT (keysW ws)).length, cap⟩, rfl, hR _ w2 ⟨r1, .inr ⟨g, cap, cur, rfl, Nat.zero_le _, hg, q1, q2, q3, q4⟩⟩ (fun k hk => ?_) hB2⟩
   obtain ⟨x, hx, rfl⟩ := hk
   injection hx with hx
   subst hx
   simp only [World.alloc, Array.size_push] at hbase
   show w.heap.size ≤ g
   omega
end Go.Proofs.YtmokmbhhnbcelaaGreatDoor
