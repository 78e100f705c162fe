/- rows of texts and of writes; library calls on them. -/
import Derived.Test.YtggachhkcmfijaaGreatDoorOw
import Derived.Maps.OwnSet
import Derived.Maps.Range
import Derived.Maps.StringElems
import Derived.Lib.SlKeysI
import Derived.Shelf.SlIterI.Nil
set_option linter.unusedVariables false
namespace Go.Proofs.YtggachhkcmfijaaGreatDoor
open Go Go.Vc Go.RowKit Go.Lib
abbrev Bs := List UInt8
abbrev Wr1 := Int × Bs
theorem und_wr : Pg.underlying T.y_sl_api_Write = some (.slice T.y_api_Write) := by kernel_rfl
theorem info_wr : ∃ i, Pg.info? T.y_api_Write = some i ∧ i.zero = some (.agg #[.int .i64 0, .string sNil]) ∧ i.size = 2 ∧ i.bytes = 24 := by
 have h : (Pg.info? T.y_api_Write).map (fun i => (i.zero, i.size, i.bytes)) = some (some (.agg #[.int .i64 0, .string sNil]), 2, 24) := by kernel_rfl
 obtain ⟨i, hi, h2⟩ := Option.map_eq_some_iff.1 h
 simp only [Prod.mk.injEq] at h2
 exact ⟨i, hi, h2.1, h2.2.1, h2.2.2⟩
theorem CloneS_spec {w : World} {sl : Sl} {ts : List Bs} (hT : Texts w sl ts) (hb : ts.length ≤ 1000000000) {R : Sl → World → Prop}
   (hR : ∀ l w', Own w' T.y_string 1 l (textCells ts) → (∀ k, l.bk k → w.heap.size ≤ k) → Below w.heap.size w w' → R l w') : F.slices_Clone_sl_string_string sl w R := by
 obtain ⟨i, hi, hz, hs1, hby⟩ := info_str
 apply E.slices_Clone_sl_string_string
 unfold V.slices_Clone_sl_string_string
 try simp -zeta only [ldC, soC, brC, bkA, slC, stC, alC, drC]
 have hlen := hT.1
 refine ⟨fun h => ?_, fun h => ?_⟩
 · have hnil : ts = [] := by
     cases ts with
     | nil => rfl
     | cons z r => obtain ⟨a, ha, _⟩ := hT.2 0 z rfl
                   rw [ha] at h; cases h
   subst hnil
   exact hR _ w (Own.nil _ _ _) (fun k hk => bk_nil hk) (Below.refl _ _)
 · obtain ⟨a, ha⟩ : ∃ a, sl.a = some a := by
     cases ha : sl.a with
     | none => rw [ha] at h; cases h
     | some a => exact ⟨a, rfl⟩
   intro w1
   have hO1 : Own w1 T.y_string 1 ⟨some (blk w.heap.size), 0, 0⟩ [] := World.ownsRow_made (base := 0) (size := 1) (e := T.y_string) w #[] 0 (Nat.zero_le _) (Nat.zero_le _) rfl
   have hB1 : Below w.heap.size w w1 := below_fr (Fr.alloc no w _)
   have hz1 : w1.heap.size = w.heap.size + 1 := by simp [w1]
   clear_value w1
   have hT1 := hT.below hB1
   rw [ha]
   refine runT_append (l := ⟨some (blk w.heap.size), 0, 0⟩) und_strs hi hz hs1 hby rfl (by decide) hO1 (m := sl.len) (news := textCells ts) (by simp [textCells, hlen]) (hT1.cell ha) (textCells_one ts) (by simp only [maxLen]; omega) (by simp only; omega) fun l2 w2 ho hl hf hm => ?_
   have hlo : ∀ k, (⟨some (blk w.heap.size), 0, 0⟩ : Sl).bk k → w.heap.size ≤ k := fun k hk => by
     obtain ⟨x, hx, rfl⟩ := hk
     injection hx with hx
     subst hx
     exact Nat.le_refl _
   refine hR l2 w2 (by simpa using ho) (fun k hk => ?_) (hB1.trans (hf.toBelow hlo (by omega)))
   rcases moved_bk hm hk with h | h
   · exact hlo k h
   · omega
theorem wr64c (x : Nat) (h : x < 18446744073709551616) : wr .u64 (x : Int) = (x : Int) := wr64_id (by omega) (by omega)
theorem shr64z (x : Nat) (h : x < 4294967296) : shr .u64 (x : Int) 32 = 0 := by
 unfold shr
 have e : (min (32 : Int).toNat (IntKind.bits .u64)) = 32 := by decide
 rw [e, Int.fdiv_eq_ediv_of_nonneg _ (by decide)]
 have : (2 : Int) ^ 32 = 4294967296 := by decide
 rw [this]; omega
theorem and64m (x : Nat) (h : x < 4294967296) : bits .and .u64 (x : Int) 4294967295 = (x : Int) := by
 have e := u64_and_nat x 4294967295 (by omega) (by decide)
 have e1 : ((4294967295 : Nat) : Int) = 4294967295 := rfl
 rw [e1] at e
 rw [e]
 have : x &&& 4294967295 = x % 2 ^ 32 := Nat.and_two_pow_sub_one_eq_mod x 32
 rw [this, Nat.mod_eq_of_lt (by omega)]
theorem Mul_one {n : Nat} (hn : n ≤ 1000000) {w : World} {R : Int → Int → World → Prop} (hR : R 0 n w) : F.bits_Mul 1 (n : Int) w R := by
 apply E.bits_Mul
 unfold V.bits_Mul
 try simp -zeta only [ldC, soC, brC, bkA, slC, stC, alC, drC]
 apply E.bits_Mul64
 unfold V.bits_Mul64
 try simp -zeta only [ldC, soC, brC, bkA, slC, stC, alC, drC]
 refine ⟨by decide, by decide, by decide, by decide, by decide, ?_⟩
 have h1 : shr .u64 (1 : Int) 32 = 0 := shr64z 1 (by decide)
 have h2 : shr .u64 (n : Int) 32 = 0 := shr64z n (by omega)
 have h3 : bits .and .u64 (1 : Int) 4294967295 = 1 := and64m 1 (by decide)
 have h4 : bits .and .u64 (n : Int) 4294967295 = (n : Int) := and64m n (by omega)
 have h5 : wr .u64 (n : Int) = (n : Int) := wr64c n (by omega)
 have h0 : wr .u64 (0 : Int) = 0 := wr64c 0 (by decide)
 have h6 : shr .u64 (0 : Int) 32 = 0 := shr64z 0 (by decide)
 have h7 : bits .and .u64 (0 : Int) 4294967295 = 0 := and64m 0 (by decide)
 simp only [h1, h2, h3, h4, Int.zero_mul, Int.one_mul, Int.mul_zero, h0, h5, h6, h7, Int.add_zero]
 exact hR
theorem RepeatS_spec {w : World} {h : Nat} {s : Bs} (hh : w.heap[h]? = some (.cells ⟨[.string (tx s)]⟩ T.y_string (0, 0))) {n : Nat} (h1 : 1 ≤ n) (hn : n ≤ 1000000) {R : Sl → World → Prop}
   (hR : ∀ l w', Own w' T.y_string 1 l (textCells (List.replicate n s)) → (∀ k, l.bk k → w.heap.size ≤ k) → Below w.heap.size w w' → R l w') : F.slices_Repeat_sl_string_string ⟨some (blk h), 1, 1⟩ (n : Int) w R := by
 obtain ⟨i, hi, hz, hs1, hby⟩ := info_str
 apply E.slices_Repeat_sl_string_string
 unfold V.slices_Repeat_sl_string_string
 try simp -zeta only [ldC, soC, brC, bkA, slC, stC, alC, drC]
 refine ⟨fun h => by have := of_decide_eq_true h; omega, fun _ => ?_⟩
 have e1 : wr .u64 (((1 : Nat) : Int)) = 1 := wr64c 1 (by decide)
 have e2 : wr .u64 ((n : Nat) : Int) = (n : Int) := wr64c n (by omega)
 rw [e1, e2]
 refine Mul_one hn ⟨fun h => by simp at h, fun _ => ⟨fun h => by have := of_decide_eq_true h; omega, fun _ => ?_⟩⟩
 have e3 : w64 (n : Int) = (n : Int) := w64_id (by omega) (by omega)
 rw [e3]
 refine runT_make und_strs hi hz hs1 (by rw [hby]; omega) (by simp only [maxLen]; omega) fun w2 hO2 hF2 hs2 => ?_
 dsimp -zeta only
 have hmk : (madeCells (Value.string sNil).cells (n * 1)).toList = List.replicate n (.string sNil) := by
   have h := toList_madeCells_one (Value.string sNil) (n * 1)
   rw [show (Value.string sNil).cells = #[Value.string sNil] from rfl, h]
   simp
 rw [hmk] at hO2
 obtain ⟨g, cur, ha, hg, hc, htk, hlc, hm⟩ := Own.row hO2 (show n ≠ 0 by omega)
 have hgw : g = w.heap.size := by
   have h2 : (blk w.heap.size) = blk g := by simpa using ha
   have h3 := congrArg Addr.block h2
   exact h3.symm
 subst hgw
 have hcur : cur = List.replicate n (.string sNil) := by
   rw [← htk]
   simp only
   rw [List.take_of_length_le (by rw [hc]; simp)]
 rw [hcur] at hg
 have hh2 := hF2.heap hh id
 refine runT_copy und_strs hi hs1 (o := 0) (dLen := n) (sLen := 1) (cs := [.string (tx s)]) hg (by rw [Nat.mul_one]; simp [Nat.min_eq_left h1]) (fun j v hj => by rw [blk_cell hh2 j]; exact hj) (by simp; omega) (fun v hv => by
   simp only [List.mem_cons, List.not_mem_nil, or_false] at hv
   subst hv; rfl) fun w3 hg3 hF3 hs3 => ?_
 have hmn : (Nat.min 1 n) = 1 := Nat.min_eq_left h1
 rw [hmn]
 have hg3' : w3.heap[w.heap.size]? = some (.cells ⟨List.replicate 1 (.string (tx s)) ++ List.replicate (n - 1) (.string sNil)⟩ T.y_string (0, 0)) := by
   rw [hg3]; simp
 have hB3 : Below w.heap.size w w3 := (below_fr hF2).trans (hF3.toBelow (fun k hk => by have : k = w.heap.size := hk; omega) hF2.size)
 refine ⟨fun m w' => ∃ c : Nat, m = c ∧ 1 ≤ c ∧ c ≤ n ∧ w'.heap[w.heap.size]? = some (.cells ⟨List.replicate c (.string (tx s)) ++ List.replicate (n - c) (.string sNil)⟩ T.y_string (0, 0)) ∧ Below w.heap.size w w', fun m _ => (n - m).toNat, ⟨1, rfl, Nat.le_refl _, h1, hg3', hB3⟩, ?_⟩
 rintro m w4 ⟨c, rfl, hc1, hcn, hg4, hB4⟩
 refine ⟨fun hlt => ?_, fun hge => ?_⟩
 · have hlt : c < n := by have := of_decide_eq_true hlt; omega
   intro w5
   have hg5 : w5.heap[w.heap.size]? = some (.cells ⟨List.replicate c (.string (tx s)) ++ List.replicate (n - c) (.string sNil)⟩ T.y_string (0, 0)) := hg4
   have hB5 : Below w.heap.size w w5 := hB4.drew
   clear_value w5
   rw [Int.toNat_natCast]
   refine ⟨by omega, by omega, by omega, by omega, ?_⟩
   rw [slA0, slA_ne (show n ≠ c by omega)]
   have hk : (Nat.min c (n - c)) ≤ c := Nat.min_le_left _ _
   have hk2 : (Nat.min c (n - c)) ≤ n - c := Nat.min_le_right _ _
   have hk3 : 0 < Nat.min c (n - c) := by rw [Nat.lt_min]; omega
   refine runT_copy und_strs hi hs1 (o := c * 1) (dLen := n - c) (sLen := c) (cs := List.replicate (Nat.min c (n - c)) (.string (tx s))) hg5 (by rw [List.length_replicate, Nat.mul_one]) (fun j v hj => by
     rw [blk_cell hg5 j]
     have hjl : j < Nat.min c (n - c) := by have := (List.getElem?_eq_some_iff.1 hj).1; simpa using this
     rw [List.getElem?_append_left (by rw [List.length_replicate]; omega), List.getElem?_replicate, if_pos (by omega)]
     rw [List.getElem?_replicate, if_pos hjl] at hj
     exact hj) (by simp only [List.length_append, List.length_replicate]; omega) (fun v hv => by
     rw [List.eq_of_mem_replicate hv]; rfl) fun w6 hg6 hF6 hs6 => ?_
   generalize Nat.min c (n - c) = K at hk hk2 hk3 hg6
   have e4 : w64 ((c : Int) + (K : Int)) = ((c + K : Nat) : Int) := by rw [w64_id (by omega) (by omega)]; omega
   rw [e4]
   refine ⟨⟨c + K, rfl, by omega, by omega, ?_, hB5.trans (hF6.toBelow (fun k hk => by have : k = w.heap.size := hk; omega) hB5.size)⟩, ?_⟩
   · rw [hg6]
     have a1 : (List.replicate c (Value.string (tx s)) ++ List.replicate (n - c) (Value.string sNil)).take (c * 1) = List.replicate c (.string (tx s)) := by
       rw [Nat.mul_one, List.take_append_of_le_length (by simp), List.take_of_length_le (by simp)]
     have a2 : (List.replicate c (Value.string (tx s)) ++ List.replicate (n - c) (Value.string sNil)).drop (c * 1 + (List.replicate K (Value.string (tx s))).length) = List.replicate (n - (c + K)) (.string sNil) := by
       rw [List.length_replicate, Nat.mul_one, List.drop_append, List.drop_of_length_le (by simp), List.length_replicate, List.drop_replicate, List.nil_append]
       have e7 : n - c - (c + K - c) = n - (c + K) := by omega
       rw [e7]
     rw [a1, a2, List.replicate_append_replicate]
   · show ((n : Int) - ((c + K : Nat) : Int)).toNat < ((n : Int) - (c : Int)).toNat
     omega
 · have hcn' : c = n := by have := of_decide_eq_false hge; omega
   subst hcn'
   rw [Nat.sub_self] at hg4
   simp only [List.replicate_zero, List.append_nil] at hg4
   refine hR _ w4 ?_ (fun k hk => ?_) hB4
   · have h3 := Own.of (size := 1) (n := c) (cap := c) hg4 (by simp) (Nat.le_refl _) (by simp only [maxLen]; omega)
     have e5 : (List.replicate c (Value.string (tx s))).take (c * 1) = textCells (List.replicate c s) := by
       rw [List.take_of_length_le (by simp)]; unfold textCells; rw [List.map_replicate]
     rw [e5] at h3
     exact h3
   · obtain ⟨x, hx, rfl⟩ := hk
     injection hx with hx
     subst hx
     exact Nat.le_refl _
theorem repeatL_one1 (b : UInt8) : ∀ n, Lib.repeatL [b] n = List.replicate n b
 | 0 => rfl
 | n + 1 => by rw [Lib.repeatL, repeatL_one1 b n]; rfl
theorem strings_Repeat_spec {w : World} {n : Nat} (hn : n ≤ 1000000) {R : ByteArray → World → Prop} (hR : ∀ w', Below w.heap.size w w' → R (tx (List.replicate n 0)) w') : F.strings_Repeat str_x (n : Int) w R := by
 have c : Calls Tryz.prog 116 #[.string str_x, .int .i64 (n : Int)] w fun e w' => e = .returned (.string ⟨(Lib.repeatL str_x.data.toList n).toArray⟩) ∧ Below w.heap.size w w' :=
   Proofs.Any.strings_Repeat Tryz.lays105 Tryz.Builder_Extra_105 str_x n w (by omega) (by have h1 : str_x.size = 1 := rfl; rw [h1]; omega)
 refine Calls.mono c fun e w' h => ⟨tx (List.replicate n 0), ?_, hR w' h.2⟩
 rw [h.1]
 have : str_x.data.toList = [0] := rfl
 rw [this, repeatL_one1]
 rfl
def zeroS : Bs := List.replicate 256 0
theorem Own.set1 {w : World} {t : TypeId} {l : Sl} {xs : List Value} (h : Own w t 1 l xs) {k : Nat} (hk : k < xs.length) (x : Value) {a : Addr} (ha : l.a = some a) :
   Wr w (a.add k) ∧ Own (w.setCell (a.add k) x) t 1 l (xs.set k x) ∧ Fr l.bk w (w.setCell (a.add k) x) := by
 have hlen := h.len
 obtain ⟨g, cur, ha', hg, hc, ht, hlc, hm⟩ := Own.row h (by omega)
 rw [ha] at ha'
 injection ha' with ha'
 subst ha'
 have h2 := blk_set hg k x
 refine ⟨blk_wr hg (by omega), ?_, (fr_set w g k _).mono (fun i _ hi => ⟨blk g, ha, Eq.symm hi⟩)⟩
 have h3 := Own.of (n := l.len) (cap := l.cap) h2 (by rw [List.length_set, hc]) hlc hm
 have e : (cur.set k x).take (l.len * 1) = xs.set k x := by
   rw [List.take_set, ht]
 rw [e] at h3
 have : l = ⟨some (blk g), l.len, l.cap⟩ := by cases l; simp only at ha; subst ha; rfl
 rw [this]; exact h3
end Go.Proofs.YtggachhkcmfijaaGreatDoor

/- maps from numbers to texts; their keys, sorted. -/
set_option linter.unusedVariables false
namespace Go.Proofs.YtggachhkcmfijaaGreatDoor
open Go Go.Vc Go.RowKit Go.Lib Go.Maps Go.Proofs
theorem und_int' : Pg.underlying T.y_int = some (.int .i64) := by kernel_rfl
theorem und_str' : Pg.underlying T.y_string = some .string := by kernel_rfl
theorem und_mis : Pg.underlying T.y_map_int_string = some (.map T.y_int T.y_string) := by kernel_rfl
theorem Kint : Keyed Pg T.y_int := int_keyed und_int'
def lastW (ws : List Wr1) (x : Int) : Bs := ws.foldl (fun acc p => if p.1 = x then p.2 else acc) []
theorem lastW_app (ws : List Wr1) (p : Wr1) (x : Int) : lastW (ws ++ [p]) x = if p.1 = x then p.2 else lastW ws x := by simp [lastW, List.foldl_append]
def keysW (ws : List Wr1) : List Int := ws.map (·.1)
/-- block b is a map that holds the last write of each number -/
def MapOf (w : World) (b : Nat) (ws : List Wr1) : Prop :=
 ∃ (D : DataW Unit) (n : Nat), w.ownsMap Pg T.y_int (plainElem (H := Unit) Pg T.y_string) b n D ∧ n ≤ ws.length ∧ (∀ x : Int, Maps.has D (.int .i64 x) = true ↔ x ∈ keysW ws) ∧ ∀ x : Int, D.atKey (.int .i64 x) (.lit (.string [])) = .lit (.string (lastW ws x))
theorem MapOf.made (w : World) : MapOf (w.alloc (.map #[] 0)) w.heap.size [] :=
 ⟨.map [], 0, World.ownsMap_made w Pg T.y_int _, Nat.le_refl _, fun x => by simp [keysW, Maps.has_eq], fun x => rfl⟩
theorem MapOf.lt {w : World} {b : Nat} {ws : List Wr1} (h : MapOf w b ws) : b < w.heap.size := by obtain ⟨D, n, ho, _⟩ := h; exact ho.lt
theorem MapOf.keep {w w' : World} {b : Nat} {ws : List Wr1} (h : MapOf w b ws) {Z : Nat → Prop} (hf : Fr Z w w') (hz : ¬ Z b) : MapOf w' b ws := by
 obtain ⟨D, n, ⟨es, clock, hb, r⟩, h2⟩ := h
 exact ⟨D, n, ⟨es, clock, hf.heap hb hz, r⟩, h2⟩
theorem intWf {x : Int} (h : -9223372036854775808 ≤ x ∧ x < 9223372036854775808) : (Lit.int .i64 x).wf = true := by
 have e1 : IntKind.min .i64 = -9223372036854775808 := by decide
 simp only [Lit.wf, Bool.and_eq_true, decide_eq_true_eq]
 rw [e1]
 have e2 : IntKind.max .i64 = 9223372036854775807 := by decide
 rw [e2]
 omega
theorem MapOf.put {w : World} {b : Nat} {ws : List Wr1} (h : MapOf w b ws) (hl : ws.length ≤ 1000000) {x : Int} {s : Bs} (hx : -9223372036854775808 ≤ x ∧ x < 9223372036854775808) (hs : s.length ≤ 1000000) {R : World → Prop}
   (hR : ∀ w', MapOf w' b (ws ++ [(x, s)]) → Fr (· = b) w w' → R w') : RunU Pg (Instr.mapUpdate T.y_map_int_string (.map (some b)) (.int .i64 x) (.string (tx s))) w R := by
 obtain ⟨D, n, ho, hn, hh, hat⟩ := h
 have hsz : (tx s).size ≤ maxLen := by rw [tx_size]; simp only [maxLen]; omega
 obtain ⟨w', hrun, ho', hg⟩ := ho.update Kint und_mis (by simp only [maxLen]; omega) (keyOf_int_mk und_int' (intWf hx)) (plainElem_string und_str' hsz)
 have hm := ho.isMap
 refine ⟨w', hrun, hR w' ⟨_, n + 1, ho', by simp only [List.length_append, List.length_cons, List.length_nil]; omega, fun y => ?_, fun y => ?_⟩ (Fr.grown (S := (· = b)) hg fun k hk => (Option.some.inj hk).symm)⟩
 · by_cases hy : y = x
   · subst hy
     rw [has_put_same hm (show WideAt.IsKeyLit (.int .i64 y) from trivial)]
     simp [keysW]
   · rw [has_put_other (by simpa using hy), hh y]
     simp [keysW, hy]
 · by_cases hy : y = x
   · subst hy
     rw [atKey_put_same hm (show WideAt.IsKeyLit (.int .i64 y) from trivial), lastW_app, tx_data]
     simp
   · rw [atKey_put_other (by simpa using hy), hat y, lastW_app]
     rw [if_neg (fun h => hy h.symm)]
theorem MapOf.look {w : World} {b : Nat} {ws : List Wr1} (h : MapOf w b ws) {x : Int} (hx : -9223372036854775808 ≤ x ∧ x < 9223372036854775808) {R : ByteArray → World → Prop} (hR : R (tx (lastW ws x)) w) :
   RunT Pg (Instr.lookup T.y_map_int_string (.map (some b)) (.int .i64 x) false) [.one .str] w R := by
 obtain ⟨D, n, ho, hn, hh, hat⟩ := h
 have hz : (zeroValue T.y_string).run Pg w = .ok (.string sNil) w := run_zeroT (by kernel_rfl) w
 have hzd : plainElem (H := Unit) Pg T.y_string (.string sNil) = some (.lit (.string []), []) := plainElem_string und_str' (s := sNil) (by decide)
 obtain ⟨v, ps, hrun, hv⟩ := ho.lookup Kint und_mis hz hzd (keyOf_int_mk und_int' (intWf hx))
 rw [hat x] at hv
 obtain ⟨s, rfl, hs, _⟩ := plainElem_string_inv und_str' hv
 simp only [Prod.mk.injEq, DataW.lit.injEq, Lit.string.injEq] at hs
 have e : s = tx (lastW ws x) := by
   rw [hs.1]
   rfl
 subst e
 exact ⟨_, w, hrun, hR⟩
theorem nodup_nextT (zs : List Int) : (nextT zs).Nodup := by
 have h : ∀ l : List Int, Up l → l.Nodup := by
   intro l
   induction l with
   | nil => intro _; exact List.nodup_nil
   | cons a r ih =>
     intro h
     have h' : List.Pairwise (· < ·) (a :: r) := by first | exact h | simpa [Up] using h
     exact h'.imp (fun h => by intro e; subst e; exact Int.lt_irrefl _ h)
 exact h _ (nextT_up zs).1
theorem MapOf.perm {D : DataW Unit} {w : World} {b n : Nat} {ws : List Wr1} (ho : w.ownsMap Pg T.y_int (plainElem (H := Unit) Pg T.y_string) b n D) (hh : ∀ x : Int, Maps.has D (.int .i64 x) = true ↔ x ∈ keysW ws) : (nextT (keysW ws)).Perm (intKeys D) := by
 obtain ⟨es, hD, hpw, _⟩ := ho.entries Kint
 obtain ⟨es', hD', hko⟩ := ho.keysOf
 obtain rfl : es = es' := by rw [hD] at hD'; simpa using hD'
 subst hD
 exact perm_intKeys hpw (fun p hp => by obtain ⟨v, hv⟩ := hko p hp; obtain ⟨x, _, hx, _⟩ := Maps.keyOf_i64 und_int' hv; exact ⟨x, hx⟩) (nodup_nextT _) (fun x => by rw [(nextT_up _).2 x, hh x])
theorem MapOf.size {D : DataW Unit} {w : World} {b n : Nat} {ws : List Wr1} (ho : w.ownsMap Pg T.y_int (plainElem (H := Unit) Pg T.y_string) b n D) (hh : ∀ x : Int, Maps.has D (.int .i64 x) = true ↔ x ∈ keysW ws) : Maps.size D = (nextT (keysW ws)).length := by
 have hp := (MapOf.perm ho hh).length_eq
 obtain ⟨es, hD, _⟩ := ho.entries Kint
 subst hD
 rw [hp]
 simp [intKeys, Maps.size]
theorem MapOf.len {w : World} {b : Nat} {ws : List Wr1} (h : MapOf w b ws) {R : Int → World → Prop} (hR : R ((nextT (keysW ws)).length : Int) w) :
   RunT Pg (Builtin.len_ #[T.y_map_int_string] T.y_int #[.map (some b)]) [.one (.int .i64)] w R := by
 obtain ⟨D, n, ho, hn, hh, hat⟩ := h
 have h2 := ho.len und_mis T.y_int
 rw [MapOf.size ho hh] at h2
 exact ⟨_, w, h2, hR⟩
theorem mergeSort_up (l : List Int) (h : Up l) : l.mergeSort (fun x y => decide (x ≤ y)) = l := by
 refine List.mergeSort_of_pairwise ?_
 have h' : List.Pairwise (· < ·) l := by first | exact h | simpa [Up] using h
 exact h'.imp (fun h => by simp only [decide_eq_true_eq]; omega)
theorem Tryz.sortsA (m : Nat) : AnyZI.SortsIn Tryz.prog Tryz.sortedA_ren Fence.wide m :=
 ⟨fun blk off cap ss W hH hblk hsz => callsIn_wide.2 (Any.slices_Sort_int Tryz.lays189 blk off cap ss W hH hblk hsz),
  fun p cap W => callsIn_wide.2 (Any.slices_Sort_int_none Tryz.lays189 p cap W)⟩
set_option maxHeartbeats 1000000 in
theorem KeysSorted_spec {w : World} {b : Nat} {ws : List Wr1} (h : MapOf w b ws) (hlen : ws.length ≤ 1000000) {R : Sl → World → Prop}
   (hR : ∀ l w', Own w' T.y_int 1 l (intCells (nextT (keysW ws))) → (∀ k, l.bk k → w.heap.size ≤ k) → Below w.heap.size w w' → R l w') :
   F.maps_Keys_map_int_string_int_string (some b) w fun v w1 => F.slices_Sorted_int v w1 R := by
 obtain ⟨D, n, ho, hn, hh, hat⟩ := h
 have hbl := ho.lt
 have hsz : Maps.size D ≤ 1000000 := Nat.le_trans ho.size_le (Nat.le_trans hn hlen)
 have hseq : SeqGives Fence.wide 2 Tryz.prog 224 #[.pointer (some ⟨w.heap.size, 0, none⟩)] encZ (fun ss => ss.Perm (intKeys D)) (Maps.size D) (w.alloc (.cells #[.map (some b)] 90)) :=
   AnyZI.keys_gives (ρ := Tryz.keysA_ren) { Tryz.keysA with } Fence.wide _ trivial rfl (by omega) w.heap.size b n D (R := plainElem (H := Unit) Pg T.y_string) _ (by simp) (by simp) (by
     obtain ⟨es, clock, hb, Ft, hs, hD⟩ := ho
     exact ⟨es, clock, (Below.heap_alloc _ _ b hbl).trans hb, Ft, hs, hD⟩)
 have cK : CallsIn Fence.wide 5 Tryz.prog 160 #[.map (some b)] w fun e w' => e = .returned (.func (.func 224) #[] #[.pointer (some ⟨w.heap.size, 0, none⟩)]) ∧ w' = w.alloc (.cells #[.map (some b)] 90) := AnyZI.keys_in Tryz.keysA Fence.wide 5 trivial rfl (some b) w
 have cS := AnyZI.sorted_in Tryz.sortedA Fence.wide 5 trivial trivial trivial trivial rfl (by omega) (Tryz.sortsA _) (enters_of Tryz.func50 (by kernel_rfl) rfl) 224 #[.pointer (some ⟨w.heap.size, 0, none⟩)] trivial (enters_of Tryz.func224 (by kernel_rfl) rfl) _ _ (by simp only [maxLen]; omega) (by omega) _ hseq
 change CallsIn _ _ Tryz.prog 159 _ _ _ at cS
 have cK' := callsIn_wide.1 cK
 have cS' := callsIn_wide.1 cS
 refine Calls.mono cK' fun e w' hk => ?_
 obtain ⟨rfl, rfl⟩ := hk
 refine ⟨_, rfl, Calls.mono cS' fun e w2 hs => ?_⟩
 obtain ⟨v, ss, rfl, hS, hrow, hnil, hB⟩ := hs
 have e1 : ss.mergeSort (fun x y => decide (x ≤ y)) = nextT (keysW ws) := by
   rw [mergeSort_of_perm_i (hS.trans (MapOf.perm ho hh).symm)]
   exact mergeSort_up _ (nextT_up _).1
 rw [e1] at hrow
 have hl : ss.length = (nextT (keysW ws)).length := (hS.trans (MapOf.perm ho hh).symm).length_eq
 rw [hl] at hrow
 have hB2 : Below w.heap.size w w2 := ((Below.refl _ w).alloc (Nat.le_refl _) _).trans (hB.mono (by simp))
 have e3 : (nextT (keysW ws)).map encZ = intCells (nextT (keysW ws)) := rfl
 rw [e3] at hrow
 obtain ⟨r1, r2⟩ := hrow
 rcases r2 with ⟨rfl, hz⟩ | ⟨g, cap, cur, rfl, hbase, hg, q1, q2, q3, q4⟩
 · have hz' : nextT (keysW ws) = [] := List.eq_nil_of_length_eq_zero hz
   refine ⟨⟨none, 0, 0⟩, rfl, hR _ w2 ?_ (fun k hk => bk_nil hk) hB2⟩
   rw [hz']; exact Own.nil _ _ _
 · refine ⟨⟨some ⟨g, 0, none⟩, (nextT (keysW ws)).length, cap⟩, rfl, hR _ w2 ⟨r1, .inr ⟨g, cap, cur, rfl, Nat.zero_le _, hg, q1, q2, q3, q4⟩⟩ (fun k hk => ?_) hB2⟩
   obtain ⟨x, hx, rfl⟩ := hk
   injection hx with hx
   subst hx
   simp only [World.alloc, Array.size_push] at hbase
   show w.heap.size ≤ g
   omega
end Go.Proofs.YtggachhkcmfijaaGreatDoor

/- maps that are sets of numbers. -/
set_option linter.unusedVariables false
namespace Go.Proofs.YtggachhkcmfijaaGreatDoor
open Go Go.Vc Go.RowKit Go.Lib Go.Maps Go.Proofs
theorem und_bool' : Pg.underlying T.y_bool = some .bool := by kernel_rfl
theorem und_mib : Pg.underlying T.y_map_int_bool = some (.map T.y_int T.y_bool) := by kernel_rfl
end Go.Proofs.YtggachhkcmfijaaGreatDoor
