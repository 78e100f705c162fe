/- disk: New, write, Write, Flush, Crash of a disk of which nothing is armed. -/
import Derived.Test.YtmokmbhhnbcelaaGreatDoorDa
set_option linter.unusedVariables false
namespace Go.Proofs.YtmokmbhhnbcelaaGreatDoor
open Go Go.Vc Go.RowKit Go.Lib
theorem wr64c (x : Nat) (h : x < 18446744073709551616) : wr .u64 (x : Int) = (x : Int) := wr64_id (by omega) (by omega)
theorem shr64z (x : Nat) (h : x < 4294967296) : shr .u64 (x : Int) 32 = 0 := by
 unfold shr
 have e : (min (32 : Int).toNat (IntKind.bits .u64)) = 32 := by decide
 rw [e, Int.fdiv_eq_ediv_of_nonneg _ (by decide)]
 have : (2 : Int) ^ 32 = 4294967296 := by decide
 rw [this]; omega
theorem and64m (x : Nat) (h : x < 4294967296) : bits .and .u64 (x : Int) 4294967295 = (x : Int) := by
 have e := u64_and_nat x 4294967295 (by omega) (by decide)
 have e1 : ((4294967295 : Nat) : Int) = 4294967295 := rfl
 rw [e1] at e
 rw [e]
 have : x &&& 4294967295 = x % 2 ^ 32 := Nat.and_two_pow_sub_one_eq_mod x 32
 rw [this, Nat.mod_eq_of_lt (by omega)]
theorem Mul_one {n : Nat} (hn : n ≤ 1000000) {w : World} {R : Int → Int → World → Prop} (hR : R 0 n w) : F.bits_Mul 1 (n : Int) w R := by
 apply E.bits_Mul
 unfold V.bits_Mul
 apply E.bits_Mul64
 unfold V.bits_Mul64
 refine ⟨by decide, by decide, by decide, by decide, by decide, ?_⟩
 have h1 : shr .u64 (1 : Int) 32 = 0 := shr64z 1 (by decide)
 have h2 : shr .u64 (n : Int) 32 = 0 := shr64z n (by omega)
 have h3 : bits .and .u64 (1 : Int) 4294967295 = 1 := and64m 1 (by decide)
 have h4 : bits .and .u64 (n : Int) 4294967295 = (n : Int) := and64m n (by omega)
 have h5 : wr .u64 (n : Int) = (n : Int) := wr64c n (by omega)
 have h0 : wr .u64 (0 : Int) = 0 := wr64c 0 (by decide)
 have h6 : shr .u64 (0 : Int) 32 = 0 := shr64z 0 (by decide)
 have h7 : bits .and .u64 (0 : Int) 4294967295 = 0 := and64m 0 (by decide)
 simp only [h1, h2, h3, h4, Int.zero_mul, Int.one_mul, Int.mul_zero, h0, h5, h6, h7, Int.add_zero]
 exact hR
theorem RepeatS_spec {w : World} {h : Nat} {s : Bs} (hh : w.heap[h]? = some (.cells ⟨[.string (tx s)]⟩ T.y_string (0, 0))) {n : Nat} (h1 : 1 ≤ n) (hn : n ≤ 1000000) {R : Sl → World → Prop}
   (hR : ∀ l w', Own w' T.y_string 1 l (textCells (List.replicate n s)) → (∀ k, l.bk k → w.heap.size ≤ k) → Below w.heap.size w w' → R l w') : F.slices_Repeat_sl_string_string ⟨some (blk h), 1, 1⟩ (n : Int) w R := by
 obtain ⟨i, hi, hz, hs1, hby⟩ := info_str
 apply E.slices_Repeat_sl_string_string
 unfold V.slices_Repeat_sl_string_string
 refine ⟨fun h => by have := of_decide_eq_true h; omega, fun _ => ?_⟩
 have e1 : wr .u64 (((1 : Nat) : Int)) = 1 := wr64c 1 (by decide)
 have e2 : wr .u64 ((n : Nat) : Int) = (n : Int) := wr64c n (by omega)
 rw [e1, e2]
 refine Mul_one hn ⟨fun h => by simp at h, fun _ => ⟨fun h => by have := of_decide_eq_true h; omega, fun _ => ?_⟩⟩
 have e3 : w64 (n : Int) = (n : Int) := w64_id (by omega) (by omega)
 rw [e3]
 refine runT_make und_strs hi hz hs1 (by rw [hby]; omega) (by simp only [maxLen]; omega) fun w2 hO2 hF2 hs2 => ?_
 dsimp -zeta only
 have hmk : (madeCells (Value.string sNil).cells (n * 1)).toList = List.replicate n (.string sNil) := by
   have h := toList_madeCells_one (Value.string sNil) (n * 1)
   rw [show (Value.string sNil).cells = #[Value.string sNil] from rfl, h]
   simp
 rw [hmk] at hO2
 obtain ⟨g, cur, ha, hg, hc, htk, hlc, hm⟩ := Own.row hO2 (show n ≠ 0 by omega)
 have hgw : g = w.heap.size := by
   have h2 : (blk w.heap.size) = blk g := by simpa using ha
   have h3 := congrArg Addr.block h2
   exact h3.symm
 subst hgw
 have hcur : cur = List.replicate n (.string sNil) := by
   rw [← htk]
   simp only
   rw [List.take_of_length_le (by rw [hc]; simp)]
 rw [hcur] at hg
 have hh2 := hF2.heap hh id
 refine runT_copy und_strs hi hs1 (o := 0) (dLen := n) (sLen := 1) (cs := [.string (tx s)]) hg (by rw [Nat.mul_one]; simp [Nat.min_eq_left h1]) (fun j v hj => by rw [blk_cell hh2 j]; exact hj) (by simp; omega) (fun v hv => by
   simp only [List.mem_cons, List.not_mem_nil, or_false] at hv
   subst hv; rfl) fun w3 hg3 hF3 hs3 => ?_
 have hmn : (Nat.min 1 n) = 1 := Nat.min_eq_left h1
 rw [hmn]
 have hg3' : w3.heap[w.heap.size]? = some (.cells ⟨List.replicate 1 (.string (tx s)) ++ List.replicate (n - 1) (.string sNil)⟩ T.y_string (0, 0)) := by
   rw [hg3]; simp
 have hB3 : Below w.heap.size w w3 := (below_fr hF2).trans (hF3.toBelow (fun k hk => by have : k = w.heap.size := hk; omega) hF2.size)
 refine ⟨fun m w' => ∃ c : Nat, m = c ∧ 1 ≤ c ∧ c ≤ n ∧ w'.heap[w.heap.size]? = some (.cells ⟨List.replicate c (.string (tx s)) ++ List.replicate (n - c) (.string sNil)⟩ T.y_string (0, 0)) ∧ Below w.heap.size w w', fun m _ => (n - m).toNat, ⟨1, rfl, Nat.le_refl _, h1, hg3', hB3⟩, ?_⟩
 rintro m w4 ⟨c, rfl, hc1, hcn, hg4, hB4⟩
 refine ⟨fun hlt => ?_, fun hge => ?_⟩
 · have hlt : c < n := by have := of_decide_eq_true hlt; omega
   intro w5
   have hg5 : w5.heap[w.heap.size]? = some (.cells ⟨List.replicate c (.string (tx s)) ++ List.replicate (n - c) (.string sNil)⟩ T.y_string (0, 0)) := hg4
   have hB5 : Below w.heap.size w w5 := hB4.drew
   clear_value w5
   rw [Int.toNat_natCast]
   refine ⟨by omega, by omega, by omega, by omega, ?_⟩
   rw [slA0, slA_ne (show n ≠ c by omega)]
   have hk : (Nat.min c (n - c)) ≤ c := Nat.min_le_left _ _
   have hk2 : (Nat.min c (n - c)) ≤ n - c := Nat.min_le_right _ _
   have hk3 : 0 < Nat.min c (n - c) := by rw [Nat.lt_min]; omega
   refine runT_copy und_strs hi hs1 (o := c * 1) (dLen := n - c) (sLen := c) (cs := List.replicate (Nat.min c (n - c)) (.string (tx s))) hg5 (by rw [List.length_replicate, Nat.mul_one]) (fun j v hj => by
     rw [blk_cell hg5 j]
     have hjl : j < Nat.min c (n - c) := by have := (List.getElem?_eq_some_iff.1 hj).1; simpa using this
     rw [List.getElem?_append_left (by rw [List.length_replicate]; omega), List.getElem?_replicate, if_pos (by omega)]
     rw [List.getElem?_replicate, if_pos hjl] at hj
     exact hj) (by simp only [List.length_append, List.length_replicate]; omega) (fun v hv => by
     rw [List.eq_of_mem_replicate hv]; rfl) fun w6 hg6 hF6 hs6 => ?_
   generalize Nat.min c (n - c) = K at hk hk2 hk3 hg6
   have e4 : w64 ((c : Int) + (K : Int)) = ((c + K : Nat) : Int) := by rw [w64_id (by omega) (by omega)]; omega
   rw [e4]
   refine ⟨⟨c + K, rfl, by omega, by omega, ?_, hB5.trans (hF6.toBelow (fun k hk => by have : k = w.heap.size := hk; omega) hB5.size)⟩, ?_⟩
   · rw [hg6]
     have a1 : (List.replicate c (Value.string (tx s)) ++ List.replicate (n - c) (Value.string sNil)).take (c * 1) = List.replicate c (.string (tx s)) := by
       rw [Nat.mul_one, List.take_append_of_le_length (by simp), List.take_of_length_le (by simp)]
     have a2 : (List.replicate c (Value.string (tx s)) ++ List.replicate (n - c) (Value.string sNil)).drop (c * 1 + (List.replicate K (Value.string (tx s))).length) = List.replicate (n - (c + K)) (.string sNil) := by
       rw [List.length_replicate, Nat.mul_one, List.drop_append, List.drop_of_length_le (by simp), List.length_replicate, List.drop_replicate, List.nil_append]
       have e7 : n - c - (c + K - c) = n - (c + K) := by omega
       rw [e7]
     rw [a1, a2, List.replicate_append_replicate]
   · show ((n : Int) - ((c + K : Nat) : Int)).toNat < ((n : Int) - (c : Int)).toNat
     omega
 · have hcn' : c = n := by have := of_decide_eq_false hge; omega
   subst hcn'
   rw [Nat.sub_self] at hg4
   simp only [List.replicate_zero, List.append_nil] at hg4
   refine hR _ w4 ?_ (fun k hk => ?_) hB4
   · have h3 := Own.of (size := 1) (n := c) (cap := c) hg4 (by simp) (Nat.le_refl _) (by simp only [maxLen]; omega)
     have e5 : (List.replicate c (Value.string (tx s))).take (c * 1) = textCells (List.replicate c s) := by
       rw [List.take_of_length_le (by simp)]; unfold textCells; rw [List.map_replicate]
     rw [e5] at h3
     exact h3
   · obtain ⟨x, hx, rfl⟩ := hk
     injection hx with hx
     subst hx
     exact Nat.le_refl _
theorem repeatL_one1 (b : UInt8) : ∀ n, Lib.repeatL [b] n = List.replicate n b
 | 0 => rfl
 | n + 1 => by rw [Lib.repeatL, repeatL_one1 b n]; rfl
theorem strings_Repeat_spec {w : World} {n : Nat} (hn : n ≤ 1000000) {R : ByteArray → World → Prop} (hR : ∀ w', Below w.heap.size w w' → R (tx (List.replicate n 0)) w') : F.strings_Repeat str_x_ (n : Int) w R := by
 have c : Calls Tryz.prog 107 #[.string str_x_, .int .i64 (n : Int)] w fun e w' => e = .returned (.string ⟨(Lib.repeatL str_x_.data.toList n).toArray⟩) ∧ Below w.heap.size w w' :=
   Proofs.Any.strings_Repeat Tryz.lays105 Tryz.Builder_Extra_105 str_x_ n w (by omega) (by have h1 : str_x_.size = 1 := rfl; rw [h1]; omega)
 refine Calls.mono c fun e w' h => ⟨tx (List.replicate n 0), ?_, hR w' h.2⟩
 rw [h.1]
 have : str_x_.data.toList = [0] := rfl
 rw [this, repeatL_one1]
 rfl
def zeroS : Bs := List.replicate 256 0
def newD (n : Nat) : Ds := ⟨List.replicate n zeroS, List.replicate n zeroS, [], 0, false⟩
theorem New_disk {w : World} {n : Nat} (h1 : 140 ≤ n) (h2 : n ≤ 2000) {R : Option Addr → Int → World → Prop}
   (hR : ∀ g L S w', Dk w' g L S ⟨none, 0, 0⟩ (newD n) → (∀ k, fpD g L S ⟨none, 0, 0⟩ k → w.heap.size ≤ k) → Below w.heap.size w w' → R (some (blk g)) 0 w') : F.disk_New (n : Int) w R := by
 apply E.disk_New
 unfold V.disk_New
 refine ⟨fun h => by have := of_decide_eq_true h; omega, fun _ => ⟨fun h => by have := of_decide_eq_true h; omega, fun _ => ?_⟩⟩
 refine strings_Repeat_spec (n := 256) (by decide) fun w1 hB1 => ?_
 intro w2
 have h2' : w2.heap[w1.heap.size]? = some (.cells ⟨[.string (tx zeroS)]⟩ T.y_string (0, 0)) := heap_new w1 _
 have hB2 : Below w.heap.size w w2 := hB1.trans ((below_fr (Fr.alloc no w1 _)).mono hB1.size)
 clear_value w2
 refine RepeatS_spec h2' (by omega) (by omega) fun L w3 hO3 hbk3 hB3 => ?_
 refine CloneS_spec (Own.texts hO3) (by rw [List.length_replicate]; omega) fun S w4 hO4 hbk4 hB4 => ?_
 have hO34 := hO3.keep (fr_below hB4) (fun _ _ => id)
 have s2 := hB2.size
 have s3 := hB3.size
 have s4 := hB4.size
 intro w5
 have h5 : w5.heap[w4.heap.size]? = some (.cells ⟨dkCells L S ⟨none, 0, 0⟩ (newD n)⟩ T.y_disk_Disk (0, 0)) := heap_new w4 _
 have hF5 : Fr no w4 w5 := Fr.alloc no w4 _
 clear_value w5
 refine hR w4.heap.size L S w5 ⟨h5, hO34.keep hF5 (fun _ _ => id), hO4.keep hF5 (fun _ _ => id), Own.nil _ _ _, fun k hk hk' => by have := hO3.lt hk; have := hbk4 k hk'; omega⟩ (fun k hk => ?_) ?_
 · rcases hk with rfl | hk | hk | hk
   · omega
   · have := hbk3 k hk; omega
   · have := hbk4 k hk; omega
   · exact bk_nil hk
 · exact ((hB2.trans (hB3.mono s2)).trans (hB4.mono (by omega))).trans ((below_fr hF5).mono (by omega))
/-- one write more -/
def wr1 (d : Ds) (x : Wr1) : Ds := { d with l := d.l.set x.1.toNat x.2, ws := d.ws ++ [x], many := d.many + 1 }
set_option maxHeartbeats 1000000 in
theorem write_disk {w : World} {g : Nat} {L S Wn : Sl} {d : Ds} (h : Dk w g L S Wn d) (hoff : d.off = false) {at_ : Int} {data : Bs} (h0 : 0 ≤ at_) (hl : at_ < (d.l.length : Int)) (hd : data.length = 256) (hm0 : 0 ≤ d.many) (hm : d.many < 1000000000000) (hws : d.ws.length ≤ 1000000000)
   {R : Int → World → Prop} (hR : ∀ Wn' w', Dk w' g L S Wn' (wr1 d (at_, data)) → (∀ k, Wn'.bk k → Wn.bk k ∨ w.heap.size ≤ k) → Fr (fpD g L S Wn) w w' → R 0 w') : F.disk_Disk_write (some (blk g)) at_ (tx data) w R := by
 obtain ⟨inf, hi, hz, hs1, hby⟩ := info_wr
 apply E.disk_Disk_write
 unfold V.disk_Disk_write
 intro w1
 have h1 : w1.heap[w.heap.size]? = some (.cells ⟨[.int .i64 at_, .string (tx data)]⟩ T.y_api_Write (0, 0)) := heap_new w _
 have hF1 : Fr no w w1 := Fr.alloc no w _
 have hz1 : w1.heap.size = w.heap.size + 1 := by simp [w1]
 clear_value w1
 have d1 := h.keep hF1 (fun _ _ => id)
 have hlt : ∀ k, fpD g L S Wn k → k < w.heap.size := fun k hk => h.lt hk
 obtain ⟨sLg, sSg, sWg, sLW, sSW⟩ := h.sep
 have hlen := h.len
 refine ⟨at_, by rw [blk_cell0 h1]; rfl, may_disk d1 ⟨fun hne => ?_, fun _ => ⟨tx data, by rw [blk_cell h1]; rfl, fun hne => ?_, fun _ => ⟨tx data, by rw [blk_cell h1]; rfl, ?_⟩⟩⟩⟩
 · have : mayD d at_ = 0 := by unfold mayD; rw [if_neg (by simp [hoff]), if_neg (by omega)]
   rw [this] at hne; simp at hne
 · rw [tx_size, hd] at hne; simp at hne
 apply E.strings_Clone
 unfold V.strings_Clone
 refine Clone_spec (by omega) fun w2 hB2 => ?_
 have h2 := (fr_below hB2).heap h1 id
 have d2 := d1.below hB2
 refine ⟨blk_wr h2 (by simp), ?_⟩
 intro w3
 have h3 : w3.heap[w.heap.size]? = some (.cells ⟨[.int .i64 at_, .string (tx data)]⟩ T.y_api_Write (0, 0)) := by
   have := blk_set h2 1 (.string (tx data)); simpa using this
 have hF3 : Fr (· = w.heap.size) w2 w3 := fr_set w2 _ 1 _
 clear_value w3
 intro w4
 have h4 : w4.heap[w.heap.size]? = some (.cells ⟨[.int .i64 at_, .string (tx data)]⟩ T.y_api_Write (0, 0)) := h3
 have hF4 : Fr (· = w.heap.size) w2 w4 := hF3.trans (Fr.drew (· = w.heap.size) w3) (fun _ _ h => h)
 clear_value w4
 have nw : ∀ k, fpD g L S Wn k → ¬ k = w.heap.size := fun k hk he => by have := hlt k hk; omega
 have d4 := d2.keep hF4 nw
 have hat : at_.toNat < d.l.length := by omega
 obtain ⟨a, ha, _⟩ := (Own.texts d4.ol).2 at_.toNat d.l[at_.toNat] (by simp [hat])
 obtain ⟨wr_, hO5, hF5⟩ := Own.setStr d4.ol hat data ha
 refine ⟨blk g, rfl, L, d4.c0, at_, by rw [blk_cell0 h4]; rfl, tx data, by rw [blk_cell h4]; rfl, a, ha, h0, by omega, by rw [Nat.mul_one]; exact wr_, ?_⟩
 rw [Nat.mul_one]
 intro w5
 have hO5 : Own w5 T.y_string 1 L (textCells (d.l.set at_.toNat data)) := hO5
 have hF5 : Fr L.bk w4 w5 := hF5
 clear_value w5
 intro w6
 have hO6 : Own w6 T.y_string 1 L (textCells (d.l.set at_.toNat data)) := hO5
 have hF6 : Fr L.bk w4 w6 := hF5.trans (Fr.drew L.bk w5) (fun _ _ h => h)
 clear_value w6
 have s2 := hB2.size
 have s4 := hF4.size
 have s6 := hF6.size
 have obj6 := hF6.heap d4.obj (fun hk => sLg g hk rfl)
 have S6 := d4.os.keep hF6 (fun k hk hk' => h.ls k hk' hk)
 have W6 := d4.ow.keep hF6 (fun k hk hk' => sLW k hk' hk)
 have h6 := hF6.heap h4 (fun hk => by have := hlt _ (.inr (.inl hk)); omega)
 have cW : w6.cell? ((blk g).add 2) = some (.slice Wn.a Wn.len Wn.cap) := by rw [blk_cell obj6]; rfl
 refine ⟨blk g, rfl, Wn, cW, at_, by rw [blk_cell0 h6]; rfl, tx data, by rw [blk_cell h6]; rfl, ?_⟩
 intro w7
 have h7 : w7.heap[w6.heap.size]? = some (.cells ⟨wrCells [(at_, data)]⟩ T.y_api_Write (0, 0)) := heap_new w6 _
 have hF7 : Fr no w6 w7 := Fr.alloc no w6 _
 clear_value w7
 have s7 := hF7.size
 have obj7 := hF7.heap obj6 id
 refine ⟨by rw [blk_cell obj7]; rfl, ?_⟩
 have W7 := W6.keep hF7 (fun _ _ => id)
 have hwl := (Own.wrs W7).1
 refine runT_append und_wr hi hz hs1 hby rfl (by decide) W7 (m := 1) (news := wrCells [(at_, data)]) rfl (fun j u hu => by rw [blk_cell h7 j]; exact hu) (wrCells_one _) (by simp only [maxLen]; omega) (by omega) fun Wn' w8 hO8 hl8 hF8 hM8 => ?_
 rw [← wrCells_app] at hO8
 have s8 := hF8.size
 have obj8 := hF8.heap obj7 (fun hk => sWg g hk rfl)
 refine ⟨blk g, rfl, blk_wr obj8 (by simp [dkCells]), ?_⟩
 intro w9
 have obj9 : w9.heap[g]? = some (.cells ⟨dkCells L S Wn' d⟩ T.y_disk_Disk (0, 0)) := by
   have := blk_set obj8 2 (.slice Wn'.a Wn'.len Wn'.cap); exact this
 have hF9 : Fr (· = g) w8 w9 := fr_set w8 g 2 _
 clear_value w9
 have em : w64 (d.many + 1) = d.many + 1 := w64_id (by omega) (by omega)
 refine ⟨blk g, rfl, d.many, by rw [blk_cell obj9]; rfl, blk g, rfl, blk_wr obj9 (by simp [dkCells]), ?_⟩
 rw [em]
 intro w10
 have obj10 : w10.heap[g]? = some (.cells ⟨dkCells L S Wn' (wr1 d (at_, data))⟩ T.y_disk_Disk (0, 0)) := by
   have := blk_set obj9 3 (.int .i64 (d.many + 1)); exact this
 have hF10 : Fr (· = g) w9 w10 := fr_set w9 g 3 _
 clear_value w10
 have wbk : ∀ k, Wn'.bk k → Wn.bk k ∨ w.heap.size ≤ k := fun k hk => by
   rcases moved_bk hM8 hk with h' | h'
   · exact .inl h'
   · exact .inr (by omega)
 have wg : ∀ k, Wn'.bk k → ¬ k = g := fun k hk he => by
   subst he
   rcases wbk _ hk with h' | h'
   · exact sWg _ h' rfl
   · have := hlt _ (.inl rfl : fpD _ L S Wn _); omega
 have kk : ∀ {x y : Value}, True := fun {_ _} => trivial
 have hD10 : Dk w10 g L S Wn' (wr1 d (at_, data)) := by
   refine ⟨obj10, ?_, ?_, ?_, h.ls⟩
   · exact (((hO6.keep hF7 (fun _ _ => id)).keep hF8 (fun k hk => sLW k hk)).keep hF9 (fun k hk => sLg k hk)).keep hF10 (fun k hk => sLg k hk)
   · exact (((S6.keep hF7 (fun _ _ => id)).keep hF8 (fun k hk => sSW k hk)).keep hF9 (fun k hk => sSg k hk)).keep hF10 (fun k hk => sSg k hk)
   · exact (hO8.keep hF9 (fun k hk => wg k hk)).keep hF10 (fun k hk => wg k hk)
 refine goes_disk hD10 ⟨fun h => Bool.noConfusion h, fun _ => hR Wn' w10 hD10 wbk ?_⟩
 have a1 := hF1.mono (S' := fpD g L S Wn) (fun k _ hk => hk.elim)
 have a2 := a1.trans (S' := no) (fr_below hB2) (fun k _ hk => hk.elim)
 have a4 := a2.trans (S' := (· = w.heap.size)) hF4 (fun k hk hk' => by have : k = w.heap.size := hk'; omega)
 have a6 := a4.trans (S' := L.bk) hF6 (fun k _ hk => .inr (.inl hk))
 have a7 := a6.trans (S' := no) hF7 (fun k _ hk => hk.elim)
 have a8 := a7.trans (S' := Wn.bk) hF8 (fun k _ hk => .inr (.inr (.inr hk)))
 have a9 := a8.trans (S' := (· = g)) hF9 (fun k _ hk => .inl hk)
 exact a9.trans (S' := (· = g)) hF10 (fun k _ hk => .inl hk)
def wrN (d : Ds) (xs : List Wr1) : Ds := xs.foldl wr1 d
theorem wrN_facts (d : Ds) : ∀ xs : List Wr1, (wrN d xs).l.length = d.l.length ∧ (wrN d xs).off = d.off ∧ (wrN d xs).many = d.many + xs.length ∧ (wrN d xs).ws = d.ws ++ xs ∧ (wrN d xs).safe = d.safe := by
 intro xs
 induction xs generalizing d with
 | nil => simp [wrN]
 | cons x r ih =>
   have := ih (wr1 d x)
   simp only [wrN, List.foldl_cons] at this ⊢
   obtain ⟨a, b, c, e, f⟩ := this
   refine ⟨by rw [a]; simp [wr1], by rw [b]; rfl, by rw [c]; simp only [wr1, List.length_cons]; omega, by rw [e]; simp [wr1], by rw [f]; rfl⟩
theorem wrN_app (d : Ds) (xs ys : List Wr1) : wrN d (xs ++ ys) = wrN (wrN d xs) ys := by simp [wrN, List.foldl_append]
def OkW (n : Nat) (xs : List Wr1) : Prop := ∀ x ∈ xs, 0 ≤ x.1 ∧ x.1 < (n : Int) ∧ x.2.length = 256
theorem fp_mono {g : Nat} {L S Wn Wn' : Sl} {B : Nat} (h : ∀ k, Wn'.bk k → Wn.bk k ∨ B ≤ k) {k : Nat} (hk : fpD g L S Wn' k) : fpD g L S Wn k ∨ B ≤ k := by
 rcases hk with h1 | h1 | h1 | h1
 · exact .inl (.inl h1)
 · exact .inl (.inr (.inl h1))
 · exact .inl (.inr (.inr (.inl h1)))
 · rcases h k h1 with h2 | h2
   · exact .inl (.inr (.inr (.inr h2)))
   · exact .inr h2
set_option maxHeartbeats 1000000 in
theorem Write_disk {w : World} {g : Nat} {L S Wn sl : Sl} {d : Ds} {xs : List Wr1} (h : Dk w g L S Wn d) (hoff : d.off = false) (hx : Wrs w sl xs) (hsl : ∀ k, sl.bk k → k < w.heap.size ∧ ¬ fpD g L S Wn k) (hok : OkW d.l.length xs) (hm0 : 0 ≤ d.many) (hm : d.many + xs.length < 1000000000000) (hws : d.ws.length + xs.length ≤ 1000000000)
   {R : Int → World → Prop} (hR : ∀ Wn' w', Dk w' g L S Wn' (wrN d xs) → (∀ k, Wn'.bk k → Wn.bk k ∨ w.heap.size ≤ k) → Fr (fpD g L S Wn) w w' → R 0 w') : F.disk_Disk_Write (some (blk g)) sl w R := by
 apply E.disk_Disk_Write
 unfold V.disk_Disk_Write
 have hxl := hx.1
 refine On_disk h ⟨fun ho => by rw [hoff] at ho; simp at ho, fun _ => ?_⟩
 refine ⟨fun n w' => ∃ (m : Nat) (Wn' : Sl), n = m ∧ m ≤ xs.length ∧ Dk w' g L S Wn' (wrN d (xs.take m)) ∧ (∀ k, Wn'.bk k → Wn.bk k ∨ w.heap.size ≤ k) ∧ Fr (fpD g L S Wn) w w', fun n _ => (xs.length - n).toNat,
   ⟨0, Wn, rfl, Nat.zero_le _, h, fun k hk => .inl hk, Fr.refl _ _⟩, ?_⟩
 rintro n w1 ⟨m, Wn1, rfl, hm1, h1, hbk1, hF1⟩
 refine ⟨fun hlt => ?_, fun hge => ?_⟩
 · have hlt : m < xs.length := by have := of_decide_eq_true hlt; omega
   have e1 : w64 ((m : Int) + 1) = ((m + 1 : Nat) : Int) := by rw [w64_id (by omega) (by omega)]; omega
   obtain ⟨a, ha, hc, hd⟩ := (hx.keep hF1 (fun k hk => (hsl k hk).2)).2 m xs[m] (by simp [hlt])
   obtain ⟨q1, q2, q3⟩ := hok xs[m] (List.getElem_mem _)
   obtain ⟨f1, f2, f3, f4, f5⟩ := wrN_facts d (xs.take m)
   have htl : (xs.take m).length = m := by rw [List.length_take]; omega
   refine ⟨a, ha, by omega, by omega, xs[m].1, by simpa using hc, tx xs[m].2, by simpa using hd, ?_⟩
   intro w2
   have h2 : w2.heap[w1.heap.size]? = some (.cells ⟨[.int .i64 0, .string sNil]⟩ T.y_api_Write (0, 0)) := heap_new w1 _
   have hF2 : Fr no w1 w2 := Fr.alloc no w1 _
   clear_value w2
   refine ⟨blk_wr0 h2 (by simp), ?_⟩
   intro w3
   have h3 : w3.heap[w1.heap.size]? = some (.cells ⟨[.int .i64 xs[m].1, .string sNil]⟩ T.y_api_Write (0, 0)) := by have := blk_set0 h2 (.int .i64 xs[m].1); simpa using this
   have hF3 : Fr (· = w1.heap.size) w2 w3 := fr_set0 w2 _ _
   clear_value w3
   refine ⟨blk_wr h3 (by simp), ?_⟩
   intro w4
   have h4 : w4.heap[w1.heap.size]? = some (.cells ⟨[.int .i64 xs[m].1, .string (tx xs[m].2)]⟩ T.y_api_Write (0, 0)) := by have := blk_set h3 1 (.string (tx xs[m].2)); simpa using this
   have hF4 : Fr (· = w1.heap.size) w3 w4 := fr_set w3 _ 1 _
   clear_value w4
   have hB14 : Below w1.heap.size w1 w4 := ((below_fr hF2).trans (hF3.toBelow (fun k hk => by have : k = w1.heap.size := hk; omega) hF2.size)).trans (hF4.toBelow (fun k hk => by have : k = w1.heap.size := hk; omega) (by have := hF2.size; have := hF3.size; omega))
   have d4 := h1.below hB14
   have s1 := hF1.size
   have s4 := hB14.size
   refine ⟨xs[m].1, by rw [blk_cell0 h4]; rfl, tx xs[m].2, by rw [blk_cell h4]; rfl, write_disk d4 (by rw [f2]; exact hoff) q1 (by rw [f1]; exact q2) q3 (by rw [f3]; omega) (by rw [f3, htl]; omega) (by rw [f4, List.length_append, htl]; omega) fun Wn5 w5 h5 hbk5 hF5 => ⟨fun h => by simp at h, fun _ => ⟨⟨m + 1, Wn5, e1, hlt, ?_, fun k hk => ?_, ?_⟩, ?_⟩⟩⟩
   · rw [List.take_succ_eq_append_getElem hlt, wrN_app]
     exact h5
   · rcases hbk5 k hk with h' | h'
     · exact hbk1 k h'
     · exact .inr (by omega)
   · have a1 := hF1.trans (S' := no) (fr_below hB14) (fun k _ hk => hk.elim)
     exact a1.trans hF5 (fun k hk hk' => by
       rcases fp_mono hbk1 hk' with h' | h'
       · exact h'
       · omega)
   · show ((xs.length : Int) - w64 ((m : Int) + 1)).toNat < ((xs.length : Int) - (m : Int)).toNat
     rw [e1]; omega
 · have hmm : m = xs.length := by have := of_decide_eq_false hge; omega
   subst hmm
   rw [List.take_length] at h1
   exact hR Wn1 w1 h1 hbk1 hF1
theorem Flush_disk {w : World} {g : Nat} {L S Wn : Sl} {d : Ds} (h : Dk w g L S Wn d) (hoff : d.off = false) (hl : d.l.length ≤ 1000000) {R : Int → World → Prop}
   (hR : ∀ S' w', Dk w' g L S' ⟨none, 0, 0⟩ { d with safe := d.l, ws := [] } → (∀ k, S'.bk k → w.heap.size ≤ k) → Fr (· = g) w w' → R 0 w') : F.disk_Disk_Flush (some (blk g)) w R := by
 apply E.disk_Disk_Flush
 unfold V.disk_Disk_Flush
 obtain ⟨sLg, sSg, sWg, sLW, sSW⟩ := h.sep
 refine On_disk h ⟨fun ho => by rw [hoff] at ho; simp at ho, fun _ => goes_disk h ⟨fun hh => Bool.noConfusion hh, fun _ => ⟨blk g, rfl, L, h.c0, CloneS_spec (Own.texts h.ol) (by omega) fun S' w1 hO1 hbk1 hB1 => ?_⟩⟩⟩
 have h1 := h.below hB1
 refine ⟨blk g, rfl, blk_wr h1.obj (by simp [dkCells]), ?_⟩
 intro w2
 have obj2 : w2.heap[g]? = some (.cells ⟨dkCells L S' Wn d⟩ T.y_disk_Disk (0, 0)) := by have := blk_set h1.obj 1 (.slice S'.a S'.len S'.cap); exact this
 have hF2 : Fr (· = g) w1 w2 := fr_set w1 g 1 _
 clear_value w2
 refine ⟨blk g, rfl, blk_wr obj2 (by simp [dkCells]), ?_⟩
 intro w3
 have obj3 : w3.heap[g]? = some (.cells ⟨dkCells L S' ⟨none, 0, 0⟩ { d with safe := d.l, ws := [] }⟩ T.y_disk_Disk (0, 0)) := by have := blk_set obj2 2 (.slice none 0 0); exact this
 have hF3 : Fr (· = g) w2 w3 := fr_set w2 g 2 _
 clear_value w3
 have hgw : g < w.heap.size := heap_lt h.obj
 have sg : ∀ k, S'.bk k → ¬ k = g := fun k hk he => by have := hbk1 k hk; omega
 refine hR S' w3 ⟨obj3, (h1.ol.keep hF2 (fun k hk => sLg k hk)).keep hF3 (fun k hk => sLg k hk), (hO1.keep hF2 (fun k hk => sg k hk)).keep hF3 (fun k hk => sg k hk), Own.nil _ _ _, fun k hk hk' => by have := h.ol.lt hk; have := hbk1 k hk'; omega⟩ hbk1 ?_
 have a1 := (fr_below hB1).mono (S' := (· = g)) (fun k _ hk => hk.elim)
 exact (a1.trans (S' := (· = g)) hF2 (fun k _ hk => hk)).trans (S' := (· = g)) hF3 (fun k _ hk => hk)
end Go.Proofs.YtmokmbhhnbcelaaGreatDoor
