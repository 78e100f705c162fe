/- masonrylaw21.TableTells: what it computes. -/
import Derived.Test.YtepclihkniaieaaDoorTu
import Derived.Test.YtepclihkniaieaaDoorRf
import Derived.Test.YtepclihkniaieaaDoorTs
import Derived.Test.YtepclihkniaieaaDoorBt
set_option linter.unusedVariables false
namespace Go.Proofs.YtepclihkniaieaaDoor
open Go Go.Vc Go.RowKit Go.Lib

theorem Keep.of {ivs : List (Nat × Nat)} {us : List Nat} {S : Nat → Prop} {w w' : World} (h : Fr S w w') (hk : ∀ g, inIv ivs g → g ∉ us → ¬ S g ∧ g < w.heap.size) : Keep ivs us w w' :=
  ⟨h.size, fun g hg hu => h.block g (hk g hg hu).2 (hk g hg hu).1⟩

abbrev markN : Nm := (str_mark.data.toList, 0)

theorem Names.pre {w : World} {sl : Sl} {ns : List Nm} (h : Names w sl ns) {k : Nat} (hk : k ≤ ns.length) (cap : Nat) : Names w ⟨sl.a, k, cap⟩ (ns.take k) := by
  refine ⟨by simp only [List.length_take]; omega, fun j n hj => ?_⟩
  have hlt : j < k := by have := (List.getElem?_eq_some_iff.1 hj).1; simp only [List.length_take] at this; omega
  rw [List.getElem?_take_of_lt hlt] at hj
  exact h.2 j n hj

theorem Names.post {w : World} {sl : Sl} {ns : List Nm} (h : Names w sl ns) {k : Nat} (hcap : sl.len ≤ sl.cap) : Names w ⟨slA sl.a sl.cap k 2, sl.len - k, sl.cap - k⟩ (ns.drop k) := by
  have hlen := h.1
  refine ⟨by simp only [List.length_drop]; omega, fun j n hj => ?_⟩
  have hlt : k + j < ns.length := by have := (List.getElem?_eq_some_iff.1 hj).1; simp only [List.length_drop] at this; omega
  rw [List.getElem?_drop] at hj
  obtain ⟨a, ha, h1, h2⟩ := h.2 (k + j) n hj
  have e : slA sl.a sl.cap k 2 = Option.some (a.add (k * 2)) := by
    unfold slA
    rw [if_neg (by omega), ha]; rfl
  have e2 : k * 2 + j * 2 = (k + j) * 2 := by omega
  exact ⟨_, e, by rw [add_add, e2]; exact h1, by rw [add_add, add_add, ← Nat.add_assoc, e2, ← add_add]; exact h2⟩

theorem NilOk.post {sl : Sl} (h : NilOk sl) (k : Nat) : NilOk ⟨slA sl.a sl.cap k 2, sl.len - k, sl.cap - k⟩ := by
  intro ha
  have hn : sl.a = none := by
    unfold slA at ha
    simp only at ha
    split at ha
    · exact ha
    · cases hs : sl.a with
      | none => rfl
      | some x => rw [hs] at ha; cases ha
  have := h hn
  subst this
  simp [slA]

theorem readNames_len (b : List UInt8) : (readNames b).1.length ≤ 256 := by
  have h := lowIn_bound 1 b 0 (by decide)
  have h2 := namesIn_len (lowIn 1 b 0).1.toNat ((lowIn 1 b 0).2.1, (lowIn 1 b 0).2.2)
  unfold readNames
  simp only
  split
  · simp
  · split
    · simp
    · split
      · simp
      · simp only
        omega

/-- what holds behind the first copy, to the end: w0 the start, B beyond all that counts -/
structure TT (w0 : World) (B : Nat) (l2 : Sl) (ns : List Nm) (n : Nm) (w : World) : Prop where
  below : Below w0.heap.size w0 w
  base : w0.heap.size < B
  up : B ≤ w.heap.size
  var : w.heap[w0.heap.size]? = some (.cells ⟨[.string (tx n.1), .int .i64 n.2]⟩ T.y_table_Name (0, 0))
  own : Own w T.y_table_Name 2 ⟨l2.a, ns.length + 1, l2.cap⟩ (nameCells (ns ++ [markN]))
  lo : ∀ k, l2.bk k → k < B

theorem TT.keep {w0 : World} {B : Nat} {l2 : Sl} {ns : List Nm} {n : Nm} {w w' : World} (h : TT w0 B l2 ns n w) {S : Nat → Prop} (hf : Fr S w w') (hS : ∀ k, S k → B ≤ k) : TT w0 B l2 ns n w' where
  below := h.below.trans (hf.toBelow (fun k hk => by have := hS k hk; have := h.base; omega) h.below.size)
  base := h.base
  up := Nat.le_trans h.up hf.size
  var := hf.heap h.var (fun hs => by have := hS _ hs; have := h.base; omega)
  own := h.own.keep hf (fun k hk hs => by have := hS k hs; have := h.lo k hk; omega)
  lo := h.lo

theorem TT.no {w0 : World} {B : Nat} {l2 : Sl} {ns : List Nm} {n : Nm} {w w' : World} (h : TT w0 B l2 ns n w) (hf : Fr no w w') : TT w0 B l2 ns n w' := h.keep hf (fun _ hk => hk.elim)
theorem TT.bel {w0 : World} {B : Nat} {l2 : Sl} {ns : List Nm} {n : Nm} {w w' : World} (h : TT w0 B l2 ns n w) (hb : Below w.heap.size w w') : TT w0 B l2 ns n w' := h.no (fr_below hb)

theorem TT.names {w0 : World} {B : Nat} {l2 : Sl} {ns : List Nm} {n : Nm} {w : World} (h : TT w0 B l2 ns n w) : Names w ⟨l2.a, ns.length, l2.cap⟩ ns := by
  refine ⟨rfl, fun j m hj => ?_⟩
  have hlt : j < ns.length := (List.getElem?_eq_some_iff.1 hj).1
  exact (Own.names h.own).2 j m (by rw [List.getElem?_append_left hlt]; exact hj)

theorem TT.v1 {w0 : World} {B : Nat} {l2 : Sl} {ns : List Nm} {n : Nm} {w : World} (h : TT w0 B l2 ns n w) : w.cell? (blk w0.heap.size) = some (.string (tx n.1)) := by rw [blk_cell0 h.var]; rfl
theorem TT.v2 {w0 : World} {B : Nat} {l2 : Sl} {ns : List Nm} {n : Nm} {w : World} (h : TT w0 B l2 ns n w) : w.cell? ((blk w0.heap.size).add 1) = some (.int .i64 n.2) := by rw [blk_cell h.var]; rfl

theorem TT.tail {w0 : World} {B : Nat} {l2 : Sl} {ns : List Nm} {n : Nm} {w : World} (h : TT w0 B l2 ns n w) (hb : ns.length ≤ 1000000) {R : Bool → World → Prop} (hR : R true w) :
    (0 : Int) ≤ w64 (((ns.length : Nat) : Int) + 1) ∧ w64 (((ns.length : Nat) : Int) + 1) ≤ ((l2.cap : Nat) : Int) ∧ ∃ ad, l2.a = some ad ∧ (0 : Int) ≤ ((ns.length : Nat) : Int) ∧ ((ns.length : Nat) : Int) < (((w64 (((ns.length : Nat) : Int) + 1)).toNat : Nat) : Int) ∧
      ∃ s, w.cell? (ad.add (((ns.length : Nat) : Int).toNat * 2)) = some (.string s) ∧ R (sEq s str_mark) w := by
  have e1 : w64 (((ns.length : Nat) : Int) + 1) = ((ns.length + 1 : Nat) : Int) := by rw [w64_id (by omega) (by omega)]; omega
  have hcap : ns.length + 1 ≤ l2.cap := by
    obtain ⟨_, _, _, _, _, _, h, _⟩ := Own.row h.own (by simp)
    exact h
  obtain ⟨a, ha, hc, _⟩ := (Own.names h.own).2 ns.length markN (by simp)
  rw [e1]
  refine ⟨by omega, by omega, a, ha, by omega, by omega, str_mark, ?_, ?_⟩
  · rw [Int.toNat_natCast, hc, tx_self]
  · have : sEq str_mark str_mark = true := by simp [sEq]
    rw [this]; exact hR

theorem tableTells_spec {w : World} {l cut : Sl} {ns : List Nm} {cs : List (List UInt8)} {n : Nm} {b : List UInt8} (hN : Names w l ns) (hnl : NilOk l) (hcap : l.len ≤ l.cap) (hC : Texts w cut cs) (hcn : NilOk cut)
    {R : Bool → World → Prop} (hR : ∀ w', Below w.heap.size w w' → R true w') : F.masonrylaw21_TableTells l (tx n.1) n.2 cut (tx b) w R := by
  obtain ⟨i, hi, hz, hs1, hby⟩ := info_name
  apply E.masonrylaw21_TableTells
  unfold V.masonrylaw21_TableTells
  have al : ∀ {w'}, Below w.heap.size w w' → F.masonrylaw21_alive w' (fun b w'' => R b w'') := fun hB => alive_spec fun w'' h => hR w'' (hB.trans (h.mono hB.size))
  have hlen := hN.1
  have hclen := hC.1
  intro w1
  have h1 : w1.heap[w.heap.size]? = some (.cells ⟨[.string (tx n.1), .int .i64 n.2]⟩ T.y_table_Name (0, 0)) := heap_new w _
  have hB1 : Below w.heap.size w w1 := below_fr (Fr.alloc no w _)
  have hz1 : w1.heap.size = w.heap.size + 1 := by simp [w1]
  clear_value w1
  refine Light_spec (hN.below hB1) fun b1 w2 hlt hB2 => ?_
  have hB02 := hB1.trans (hB2.mono hB1.size)
  refine ⟨fun _ => al hB02, fun hb1 => ?_⟩
  obtain ⟨h60, h2000⟩ := hlt (by simpa using hb1)
  have h2 := (fr_below hB2).heap h1 id
  refine ⟨tx n.1, by rw [blk_cell0 h2]; rfl, fun _ => al hB02, fun hn60 => ?_⟩
  have hn60 : n.1.length ≤ 60 := by have := of_decide_eq_false hn60; rw [tx_size] at this; omega
  refine Short_spec (hC.below hB02) (by decide) (by decide) (by decide) fun b4 w3 hsh hB3 => ?_
  have hB03 := hB02.trans (hB3.mono hB02.size)
  have h3 := (fr_below hB3).heap h2 id
  refine ⟨fun _ => al hB03, fun hb4 => ?_⟩
  have hc12 : cs.length ≤ 12 := by have := hsh (by simpa using hb4); omega
  refine ⟨fun _ => al hB03, fun hb600 => ?_⟩
  have hb600 : b.length ≤ 600 := by have := of_decide_eq_false hb600; rw [tx_size] at this; omega
  refine alive_spec fun w4 hB4 => ⟨fun h => by simp at h, fun _ => ?_⟩
  have hB04 := hB03.trans (hB4.mono hB03.size)
  have h4 := (fr_below hB4).heap h3 id
  have hz4 : w.heap.size < w4.heap.size := heap_lt h4
  refine app_any (l := ⟨none, 0, 0⟩) und_names hi hz hs1 hby rfl (by decide) (Own.nil _ _ _) hnl (news := nameCells ns) (by rw [nameCells_len, hlen]) (fun a ha => (hN.below hB04).cell ha) (nameCells_one ns) (by simp only [maxLen]; omega) (by simp only; omega) fun l1 w5 hO1 hl1 hF5 hM5 => ?_
  have hF5 : Fr no w4 w5 := hF5.mono (fun k _ hk => bk_nil hk)
  have hO1 : Own w5 T.y_table_Name 2 l1 (nameCells ns) := by simpa using hO1
  have hbk1 : ∀ k, l1.bk k → w4.heap.size ≤ k := fun k hk => by
    rcases moved_bk hM5 hk with h | h
    · exact bk_nil h
    · exact h
  have hl1' : l1.len = ns.length := (Own.names hO1).1
  intro w6
  have h6 : w6.heap[w5.heap.size]? = some (.cells ⟨[.string str_mark, .int .i64 0]⟩ T.y_table_Name (0, 0)) := heap_new w5 _
  have hF6 : Fr no w5 w6 := Fr.alloc no w5 _
  clear_value w6
  have hO16 := hO1.keep hF6 (fun _ _ => id)
  refine runT_append und_names hi hz hs1 hby rfl (by decide) hO16 (m := 1) (news := nameCells [markN]) (by rw [nameCells_len]; rfl) (fun j u hu => by rw [blk_cell h6 j]; simpa [nameCells, tx_self] using hu) (nameCells_one _) (by simp only [maxLen]; omega) (by omega) fun l2 w7 hO2 hl2 hF7 hM7 => ?_
  rw [← nameCells_app] at hO2
  have s5 := hF5.size
  have s6 := hF6.size
  have s7 := hF7.size
  have hT7 : TT w w7.heap.size l2 ns n w7 := by
    refine ⟨?_, by omega, Nat.le_refl _, ?_, ?_, fun k hk => ?_⟩
    · exact ((hB04.trans ((below_fr hF5).mono hB04.size)).trans ((below_fr hF6).mono (by omega))).trans (hF7.toBelow (fun k hk => by have := hbk1 k hk; omega) (by omega))
    · exact hF7.heap (hF6.heap (hF5.heap h4 id) id) (fun hk => by have := hbk1 _ hk; omega)
    · have : (⟨l2.a, ns.length + 1, l2.cap⟩ : Sl) = l2 := by rw [← hl1', ← hl2]
      rw [this]; exact hO2
    · exact hO2.lt hk
  have hl2c : ns.length + 1 ≤ l2.cap := by
    obtain ⟨_, _, _, _, _, _, h, _⟩ := Own.row hT7.own (by simp)
    exact h
  generalize hBz : w7.heap.size = B at hT7
  rw [slA0 l2.a l2.cap 2, slA0 l2.a l2.cap 2, Int.toNat_natCast, Int.toNat_natCast, hlen]
  refine ⟨by omega, by omega, ?_⟩
  have hlb : ∀ x ∈ ns, x.1.length ≤ 1099511627776 := fun x hx => by have := h2000 x hx; omega
  refine Lay_spec hT7.names (by omega) hlb fun w8 hB8 => ?_
  have hT8 := hT7.bel hB8
  refine plain_spec (hN.below hT8.below) (by omega) fun l3 w9 hO3 _ hB9 => ?_
  have hT9 := hT8.bel hB9
  refine RefLay_spec (Own.names' hO3) (by omega) hlb fun w10 hB10 => ?_
  have hT10 := hT9.bel hB10
  refine Read_spec (by omega) fun l4 w11 hO4 _ hB11 => ?_
  have hT11 := hT10.bel hB11
  refine RefRead_spec (by omega) fun l5 w12 hO5 _ hB12 => ?_
  have hT12 := hT11.bel hB12
  have hO4 := hO4.keep (fr_below hB12) (fun _ _ => id)
  intro w13
  have hT13 : TT w B l2 ns n w13 := hT12.no (Fr.drew no w12)
  have hO4 : Own w13 T.y_table_Name 2 l4 (nameCells (readNames b).1) := hO4.keep (Fr.drew no w12) (fun _ _ => id)
  have hO5 : Own w13 T.y_masonryref1_Name 2 l5 (nameCells (readNames b).1) := hO5.keep (Fr.drew no w12) (fun _ _ => id)
  clear_value w13
  refine ⟨fun h => by rw [tx_eq] at h; simp at h, fun _ => ⟨fun h => by simp at h, fun _ => ?_⟩⟩
  refine same_spec (Own.names hO4) (Own.names' hO5) (by have := readNames_len b; omega) fun w14 hB14 => ⟨fun h => by simp at h, fun _ => ⟨fun h => by simp at h, fun _ => ?_⟩⟩
  have hT14 := hT13.bel hB14
  refine ⟨tx n.1, hT14.v1, tx n.1, hT14.v1, ?_⟩
  refine Valid_spec (by omega) fun w15 hB15 => ?_
  have hT15 := hT14.bel hB15
  refine ⟨hT15.v1, ValidName_spec (by omega) ⟨fun h => by simp at h, fun _ => ⟨fun hbad => ?_, fun hok => ?_⟩⟩⟩
  · refine plain_spec (hN.below hT15.below) (by omega) fun l6 w16 hO6 _ hB16 => ?_
    have hT16 := hT15.bel hB16
    refine same_spec hT16.names (Own.names' hO6) (by omega) fun w17 hB17 => ⟨fun _ => ?_, fun h => by simp at h⟩
    have hT17 := hT16.bel hB17
    exact hT17.tail (by omega) (hR _ hT17.below)
  have hok : (layNames ns).2 = 0 := by simpa using hok
  have hs := sorted_lay hok
  refine ⟨fun k w' => ∃ m : Nat, k = m ∧ m ≤ ns.length ∧ (∀ i, (hi : i < ns.length) → i < m → ns[i].1 < n.1) ∧ (∀ h : m < ns.length, ¬ ns[m].1 < n.1) ∧ TT w B l2 ns n w',
    ⟨fun k w' => ∃ m : Nat, k = m ∧ m ≤ ns.length ∧ (∀ i, (hi : i < ns.length) → i < m → ns[i].1 < n.1) ∧ TT w B l2 ns n w', fun k _ => (ns.length - k).toNat, ⟨0, rfl, Nat.zero_le _, fun _ _ h => absurd h (Nat.not_lt_zero _), hT15⟩, ?_⟩, ?_⟩
  · rintro k w16 ⟨m, rfl, hm, hlo, hT⟩
    intro w17
    have hT17 : TT w B l2 ns n w17 := hT.no (Fr.drew no w16)
    clear_value w17
    refine ⟨fun hlt => ?_, fun hge => ⟨m, rfl, hm, hlo, fun h => by have := of_decide_eq_false hge; omega, hT17⟩⟩
    have hlt : m < ns.length := by have := of_decide_eq_true hlt; omega
    have e1 : w64 ((m : Int) + 1) = ((m + 1 : Nat) : Int) := by rw [w64_id (by omega) (by omega)]; omega
    obtain ⟨a, ha, hc1, _⟩ := (hN.below hT17.below).2 m ns[m] (by simp [hlt])
    refine ⟨a, ha, by omega, by omega, tx ns[m].1, by simpa using hc1, tx n.1, hT17.v1, ?_⟩
    rw [tx_lt, less_lt]
    refine ⟨fun h => ⟨⟨m + 1, e1, hlt, fun i hi hi2 => ?_, hT17⟩, ?_⟩, fun h => ⟨m, rfl, hm, hlo, fun _ => of_decide_eq_false h, hT17⟩⟩
    · rcases Nat.lt_succ_iff_lt_or_eq.1 hi2 with h' | h'
      · exact hlo i hi h'
      · subst h'; exact of_decide_eq_true h
    · show ((ns.length : Int) - w64 ((m : Int) + 1)).toNat < ((ns.length : Int) - (m : Int)).toNat
      rw [e1]; omega
  rintro k1 w16 ⟨k, rfl, hk, hlo, hhi, hT16⟩
  have hfl : ∀ {k'}, Found (nameP ns n.1) ns.length k' → k' = k := fun hf => found_loop hs hk hlo hhi hf
  refine ⟨fun is w' => is = decide (k < ns.length ∧ (ns.getD k ([], 0)).1 = n.1) ∧ TT w B l2 ns n w', ?_, ?_⟩
  · intro w17
    have hT17 : TT w B l2 ns n w17 := hT16.no (Fr.drew no w16)
    clear_value w17
    refine ⟨fun hlt => ?_, fun hge => ⟨(decide_eq_false fun h => by have := of_decide_eq_false hge; omega).symm, hT17⟩⟩
    have hlt : k < ns.length := by have := of_decide_eq_true hlt; omega
    obtain ⟨a, ha, hc1, _⟩ := (hN.below hT17.below).2 k ns[k] (by simp [hlt])
    refine ⟨a, ha, by omega, by omega, tx ns[k].1, by simpa using hc1, tx n.1, hT17.v1, ?_, hT17⟩
    rw [tx_eq]
    simp [hlt]
  rintro is w18 ⟨rfl, hT18⟩
  have e1 : k < ns.length → w64 ((k : Int) + 1) = ((k + 1 : Nat) : Int) := fun h => by rw [w64_id (by omega) (by omega)]; omega
  refine ⟨by omega, by omega, fun rest w' => ∃ rs, setAt ns n k = ns.take k ++ [n] ++ rs ∧ rs.length ≤ ns.length ∧ Names w' rest rs ∧ NilOk rest ∧ TT w B l2 ns n w', ⟨fun his => ?_, fun hnot => ?_⟩, ?_⟩
  · have his := of_decide_eq_true his
    have e := e1 his.1
    rw [e, Int.toNat_natCast]
    rw [← hlen]
    refine ⟨by omega, by omega, ns.drop (k + 1), setAt_is his.1 (by simpa [his.1] using his.2), by rw [List.length_drop]; omega, (hN.below hT18.below).post hcap, hnl.post _, hT18⟩
  · have hnot := of_decide_eq_false hnot
    rw [Int.toNat_natCast, ← hlen]
    exact ⟨ns.drop k, setAt_not (fun hk' he => hnot ⟨hk', by simpa [hk'] using he⟩), by rw [List.length_drop]; omega, (hN.below hT18.below).post hcap, hnl.post _, hT18⟩
  rintro rest w19 ⟨rs, hset, hrsl, hRest, hRn, hT19⟩
  intro w20
  have hT20 : TT w B l2 ns n w20 := hT19.no (Fr.drew no w19)
  have hRest : Names w20 rest rs := Names.below hRest (below_fr (Fr.drew no w19))
  clear_value w20
  refine ⟨by omega, by omega, tx n.1, hT20.v1, n.2, hT20.v2, fun w21 hB21 => ?_⟩
  have hT21 := hT20.bel hB21
  have hRest21 := Names.below hRest hB21
  rw [slA0 l.a l.cap 2, Int.toNat_natCast]
  refine app_any (l := ⟨none, 0, 0⟩) (src := ⟨l.a, k, l.cap⟩) und_names hi hz hs1 hby rfl (by decide) (Own.nil _ _ _) (fun h => by
      have h' := hnl h
      rw [h'] at hlen
      have : k = 0 := by simp only at hlen; omega
      rw [h', this]) (news := nameCells (ns.take k)) (by rw [nameCells_len, List.length_take, Nat.min_eq_left hk]) (fun a ha => ((hN.below hT21.below).pre hk l.cap).cell ha) (nameCells_one _) (by simp only [maxLen]; omega) (by simp only; omega) fun l7 w22 hO7 hl7 hF22 hM22 => ?_
  have hF22 : Fr no w21 w22 := hF22.mono (fun k _ hk => bk_nil hk)
  have hO7 : Own w22 T.y_table_Name 2 l7 (nameCells (ns.take k)) := by simpa using hO7
  have hl7' : l7.len = k := by simpa using hl7
  have hbk7 : ∀ k, l7.bk k → w21.heap.size ≤ k ∧ k < w22.heap.size := fun k hk => by
    refine ⟨?_, hO7.lt hk⟩
    rcases moved_bk hM22 hk with h | h
    · exact bk_nil h
    · exact h
  have hT22 := hT21.no hF22
  have hRest22 := Names.below hRest21 (below_fr hF22)
  have s21 := hB21.size
  have s22 := hF22.size
  refine ⟨Keep.of hF22 (fun g hg _ => ⟨id, by simp only [inIv, or_false] at hg; omega⟩), hT22.v1, hT22.v2, fun w23 g hB23 hg _ hgo w24 hB24 => ?_⟩
  have s23 := hB23.size
  have s24 := hB24.size
  have hO724 := (hO7.keep (fr_below hB23) (fun _ _ => id)).keep (fr_below hB24) (fun _ _ => id)
  have hgo24 := (fr_below hB24).heap hgo id
  have hT24 := (hT22.bel hB23).bel hB24
  have hRest24 := Names.below (Names.below hRest22 hB23) hB24
  refine runT_append und_names hi hz hs1 hby rfl (by decide) hO724 (m := 1) (news := nameCells [n]) (by rw [nameCells_len]; rfl) (fun j u hu => by rw [blk_cell hgo24 j]; simpa [nameCells] using hu) (nameCells_one _) (by simp only [maxLen]; omega) (by omega) fun l8 w25 hO8 hl8 hF25 hM25 => ?_
  rw [← nameCells_app] at hO8
  have s25 := hF25.size
  have hbk8 : ∀ k, l8.bk k → (w21.heap.size ≤ k ∧ k < w22.heap.size) ∨ (w24.heap.size ≤ k ∧ k < w25.heap.size) := fun k hk => by
    rcases moved_bk hM25 hk with h | h
    · exact .inl (hbk7 k h)
    · exact .inr ⟨h, hO8.lt hk⟩
  have uB : B ≤ w21.heap.size := hT21.up
  have hT25 := hT24.keep hF25 (fun k hk => by have := hbk7 k hk; omega)
  have hRest25 : Names w25 rest rs := ⟨hRest24.1, fun j x hj => by
    obtain ⟨a, ha, c1, c2⟩ := hRest.2 j x hj
    obtain ⟨a', ha', d1, d2⟩ := hRest24.2 j x hj
    rw [ha] at ha'
    injection ha' with ha'
    subst ha'
    have b1 := World.block_lt_of_cell? w20 _ c1
    have b2 := World.block_lt_of_cell? w20 _ c2
    exact ⟨a, ha, hF25.cell d1 (fun hk => by have := hbk7 _ hk; omega), hF25.cell d2 (fun hk => by have := hbk7 _ hk; omega)⟩⟩
  refine ⟨Keep.of hF25 (fun g' hg' hgu => ⟨fun hk => by have := hbk7 _ hk; simp only [inIv, or_false] at hg'; omega, by simp only [inIv, or_false] at hg'; omega⟩), hT25.v1, hT25.v2, fun w26 hB26 => ?_⟩
  have s26 := hB26.size
  have hT26 := hT25.bel hB26
  have hRest26 := Names.below hRest25 hB26
  have hO826 := hO8.keep (fr_below hB26) (fun _ _ => id)
  have hl8' : l8.len = k + 1 := by omega
  have hrl := hRest26.1
  refine app_any und_names hi hz hs1 hby rfl (by decide) hO826 hRn (news := nameCells rs) (by rw [nameCells_len, hrl]) (fun a ha => hRest26.cell ha) (nameCells_one _) (by simp only [maxLen]; omega) (by omega) fun l9 w27 hO9 hl9 hF27 hM27 => ?_
  rw [← nameCells_app, ← hset] at hO9
  have s27 := hF27.size
  have hT27 := hT26.keep hF27 (fun k hk => by have := hbk8 k hk; omega)
  refine ⟨Keep.of hF27 (fun g' hg' hgu => ⟨fun hk => by have := hbk8 _ hk; simp only [inIv, or_false] at hg'; omega, by simp only [inIv, or_false] at hg'; omega⟩), hT27.v1, hT27.v2, fun w28 hB28 => ?_⟩
  have hT28 := hT27.bel hB28
  have hO928 := hO9.keep (fr_below hB28) (fun _ _ => id)
  have hset_len : (setAt ns n k).length ≤ 61 := by have := setAt_len (ns := ns) (n := n) hk; omega
  generalize hC28 : w28.heap.size = C
  have hCB : B ≤ C := by have := hT28.up; omega
  have h9C : ∀ k, l9.bk k → k < C := fun k hk => by have := hO928.lt hk; omega
  let keepF : Nm → Bool := fun x => !cs.contains x.1
  refine ⟨fun wo w' => Own w' T.y_table_Name 2 wo (nameCells (ns.filter keepF)) ∧ Own w' T.y_table_Name 2 l9 (nameCells (setAt ns n k)) ∧ TT w B l2 ns n w',
    ⟨fun wo j w' => ∃ m : Nat, j = m ∧ m ≤ ns.length ∧ Own w' T.y_table_Name 2 wo (nameCells ((ns.take m).filter keepF)) ∧ (∀ k, wo.bk k → C ≤ k) ∧ C ≤ w'.heap.size ∧ Own w' T.y_table_Name 2 l9 (nameCells (setAt ns n k)) ∧ TT w B l2 ns n w', fun _ j _ => (ns.length - j).toNat,
      ⟨0, rfl, Nat.zero_le _, Own.nil _ _ _, fun k hk => bk_nil hk, by omega, hO928, hT28⟩, ?_⟩, ?_⟩
  · rintro wo j w29 ⟨m, rfl, hm, hOw, hbkw, hCw, hO929, hT29⟩
    refine ⟨fun hlt => ?_, fun hge => ?_⟩
    · have hlt : m < ns.length := by have := of_decide_eq_true hlt; omega
      have e1 : w64 ((m : Int) + 1) = ((m + 1 : Nat) : Int) := by rw [w64_id (by omega) (by omega)]; omega
      have hms : ns[m]? = some ns[m] := by simp [hlt]
      refine ⟨fun gone j w' => ∃ c : Nat, j = c ∧ c ≤ cs.length ∧ gone = (cs.take c).contains ns[m].1 ∧ Own w' T.y_table_Name 2 wo (nameCells ((ns.take m).filter keepF)) ∧ C ≤ w'.heap.size ∧ Own w' T.y_table_Name 2 l9 (nameCells (setAt ns n k)) ∧ TT w B l2 ns n w', fun _ j _ => (cs.length - j).toNat,
        ⟨0, rfl, Nat.zero_le _, by simp, hOw, hCw, hO929, hT29⟩, ?_⟩
      rintro gone j w30 ⟨c, rfl, hc, hg, hOw30, hC30, hO930, hT30⟩
      refine ⟨fun hlt2 => ?_, fun hge2 => ?_⟩
      · have hlt2 : c < cs.length := by have := of_decide_eq_true hlt2; omega
        have e2 : w64 ((c : Int) + 1) = ((c + 1 : Nat) : Int) := by rw [w64_id (by omega) (by omega)]; omega
        intro w31
        have hT31 : TT w B l2 ns n w31 := hT30.no (Fr.drew no w30)
        have hOw31 : Own w31 T.y_table_Name 2 wo (nameCells ((ns.take m).filter keepF)) := hOw30.keep (Fr.drew no w30) (fun _ _ => id)
        have hO931 : Own w31 T.y_table_Name 2 l9 (nameCells (setAt ns n k)) := hO930.keep (Fr.drew no w30) (fun _ _ => id)
        have hC31 : C ≤ w31.heap.size := hC30
        clear_value w31
        have hmeas : ((cs.length : Int) - w64 ((c : Int) + 1)).toNat < ((cs.length : Int) - (c : Int)).toNat := by rw [e2]; omega
        have htk : (cs.take (c + 1)).contains ns[m].1 = ((cs.take c).contains ns[m].1 || decide (cs[c] = ns[m].1)) := by
          rw [List.take_succ_eq_append_getElem hlt2, Bool.eq_iff_iff]
          simp only [List.contains_iff_mem, List.mem_append, List.mem_singleton, Bool.or_eq_true, decide_eq_true_eq]
          exact or_congr Iff.rfl ⟨Eq.symm, Eq.symm⟩
        refine ⟨fun hgt => ⟨⟨c + 1, e2, hlt2, by rw [htk, ← hg, hgt]; rfl, hOw31, hC31, hO931, hT31⟩, hmeas⟩, fun hgf => ?_⟩
        obtain ⟨a, ha, hc1⟩ := (hC.below hT31.below).2 c cs[c] (by simp [hlt2])
        obtain ⟨a2, ha2, hd1, _⟩ := (hN.below hT31.below).2 m ns[m] hms
        refine ⟨a, ha, by omega, by omega, tx cs[c], by simpa using hc1, a2, ha2, by omega, by omega, tx ns[m].1, by simpa using hd1, ⟨c + 1, e2, hlt2, ?_, hOw31, hC31, hO931, hT31⟩, hmeas⟩
        rw [tx_eq, htk, ← hg, hgf]; rfl
      · have hcc : c = cs.length := by have := of_decide_eq_false hge2; omega
        subst hcc
        rw [List.take_length] at hg
        have hmeas : ((ns.length : Int) - w64 ((m : Int) + 1)).toNat < ((ns.length : Int) - (m : Int)).toNat := by rw [e1]; omega
        have hfl2 : (ns.take (m + 1)).filter keepF = (ns.take m).filter keepF ++ (if gone then [] else [ns[m]]) := by
          rw [List.take_succ_eq_append_getElem hlt, List.filter_append, List.filter_cons, List.filter_nil]
          have hkf : keepF ns[m] = !gone := by rw [hg]
          rw [hkf]
          cases gone <;> rfl
        refine ⟨fun hgn => ?_, fun hgn => ?_⟩
        · have hgn : gone = false := by simpa using hgn
          obtain ⟨a2, ha2, hd1, hd2⟩ := (hN.below hT30.below).2 m ns[m] hms
          refine ⟨a2, ha2, by omega, by omega, tx ns[m].1, by simpa using hd1, ns[m].2, by simpa using hd2, ?_⟩
          intro w31
          have h31 : w31.heap[w30.heap.size]? = some (.cells ⟨[.string (tx ns[m].1), .int .i64 ns[m].2]⟩ T.y_table_Name (0, 0)) := heap_new w30 _
          have hF31 : Fr no w30 w31 := Fr.alloc no w30 _
          clear_value w31
          have hOw31 := hOw30.keep hF31 (fun _ _ => id)
          have hwl := (Own.names hOw31).1
          have hfl3 := List.length_filter_le keepF (ns.take m)
          rw [List.length_take] at hfl3
          refine runT_append und_names hi hz hs1 hby rfl (by decide) hOw31 (m := 1) (news := nameCells [ns[m]]) (by rw [nameCells_len]; rfl) (fun j u hu => by rw [blk_cell h31 j]; simpa [nameCells] using hu) (nameCells_one _) (by simp only [maxLen]; omega) (by omega) fun l10 w32 hO10 hl10 hF32 hM32 => ?_
          rw [← nameCells_app] at hO10
          have s31 := hF31.size
          have s32 := hF32.size
          refine ⟨⟨m + 1, e1, hlt, ?_, fun k hk => ?_, by omega, ?_, ?_⟩, hmeas⟩
          · rw [hfl2, hgn]; exact hO10
          · rcases moved_bk hM32 hk with h | h
            · exact hbkw k h
            · omega
          · exact (hO930.keep hF31 (fun _ _ => id)).keep hF32 (fun k hk hs => by have := hbkw k hs; have := h9C k hk; omega)
          · exact (hT30.no hF31).keep hF32 (fun k hk => by have := hbkw k hk; omega)
        · have hgn : gone = true := by simpa using hgn
          refine ⟨⟨m + 1, e1, hlt, ?_, hbkw, hC30, hO930, hT30⟩, hmeas⟩
          rw [hfl2, hgn]; simpa using hOw30
    · have hmm : m = ns.length := by have := of_decide_eq_false hge; omega
      subst hmm
      rw [List.take_length] at hOw
      exact ⟨hOw, hO929, hT29⟩
  rintro wo w29 ⟨hOw, hO929, hT29⟩
  refine ⟨tx n.1, hT29.v1, Find_spec hT29.names (by omega) fun k2 w30 hk2 hB30 => ?_⟩
  have hk2e := hfl hk2
  subst hk2e
  have hT30 := hT29.bel hB30
  refine LentTexts_spec (hC.below hT30.below) hcn (by omega) fun cl w31 hLc hbkc hB31 => ?_
  have hT31 := hT30.bel hB31
  refine ⟨fun _ => ⟨fun _ => ?_, fun h => by simp at h⟩, fun h => by simp at h⟩
  refine ⟨tx n.1, hT31.v1, n.2, hT31.v2, Set_spec hT31.names (by omega) fun k3 l12 w32 hk3 hO12 _ hB32 => ?_⟩
  have hk3e := hfl hk3
  subst hk3e
  have hT32 := hT31.bel hB32
  have hO932 := ((hO929.keep (fr_below hB30) (fun _ _ => id)).keep (fr_below hB31) (fun _ _ => id)).keep (fr_below hB32) (fun _ _ => id)
  have hOw32 := ((hOw.keep (fr_below hB30) (fun _ _ => id)).keep (fr_below hB31) (fun _ _ => id)).keep (fr_below hB32) (fun _ _ => id)
  have hL32 : LentT w32 cl cs := ⟨hLc.1, hLc.2.keep (fr_below hB32) (fun _ _ => id)⟩
  refine plain_spec (Own.names hO932) (by omega) fun l13 w33 hO13 _ hB33 => ?_
  have hT33 := hT32.bel hB33
  refine same_spec (Own.names (hO12.keep (fr_below hB33) (fun _ _ => id))) (Own.names' hO13) (by omega) fun w34 hB34 => ⟨fun _ => ?_, fun h => by simp at h⟩
  have hT34 := hT33.bel hB34
  have hOw34 := (hOw32.keep (fr_below hB33) (fun _ _ => id)).keep (fr_below hB34) (fun _ _ => id)
  have hL34 : LentT w34 cl cs := ⟨hL32.1, (hL32.2.keep (fr_below hB33) (fun _ _ => id)).keep (fr_below hB34) (fun _ _ => id)⟩
  refine Cut_spec hT34.names hL34.texts (fun k hk => hL34.2.lt hk) (by omega) (fun x hx => by have := h2000 x hx; omega) (by omega) fun l14 w35 hO14 _ hB35 => ?_
  have hT35 := hT34.bel hB35
  have hfl4 := List.length_filter_le keepF ns
  refine plain_spec (Own.names (hOw34.keep (fr_below hB35) (fun _ _ => id))) (by omega) fun l15 w36 hO15 _ hB36 => ?_
  have hT36 := hT35.bel hB36
  refine same_spec (Own.names (hO14.keep (fr_below hB36) (fun _ _ => id))) (Own.names' hO15) (by show (ns.filter keepF).length ≤ _; omega) fun w37 hB37 => ⟨fun _ => ?_, fun h => by simp [keepF] at h⟩
  have hT37 := hT36.bel hB37
  have hL37 : LentT w37 cl cs := ⟨hL34.1, ((hL34.2.keep (fr_below hB35) (fun _ _ => id)).keep (fr_below hB36) (fun _ _ => id)).keep (fr_below hB37) (fun _ _ => id)⟩
  refine StaysTexts_spec hL37 (hC.below hT37.below) (by omega) fun w38 hB38 => ⟨fun _ => ?_, fun h => by simp at h⟩
  have hT38 := hT37.bel hB38
  refine plain_spec (hN.below hT38.below) (by omega) fun l16 w39 hO16 _ hB39 => ?_
  have hT39 := hT38.bel hB39
  refine same_spec hT39.names (Own.names' hO16) (by omega) fun w40 hB40 => ⟨fun _ => ?_, fun h => by simp at h⟩
  have hT40 := hT39.bel hB40
  exact hT40.tail (by omega) (hR _ hT40.below)

end Go.Proofs.YtepclihkniaieaaDoor
