/- masonrybook.Book.Apart; masonrylaw8.HeadTells: what it computes. -/
import Derived.Test.YtepclihkniaieaaGreatDoorBm
set_option linter.unusedVariables false
namespace Go.Proofs.YtepclihkniaieaaGreatDoor
open Go Go.Vc Go.RowKit Go.Lib

set_option maxHeartbeats 1000000 in
theorem Apart_spec {B0 : Nat} {w : World} {g : Nat} {L W : Sl} {xs : List Kept} (h : Bc B0 w g L W xs) (hW : Bw w L W xs) (hB0 : B0 ≤ w.heap.size) (hn : xs.length ≤ 100) (hz : ∀ (i : Nat) (p : Kept), xs[i]? = some p → p.2.length ≤ 1000000)
    {R : Bool → World → Prop} (hR : ∀ w', Below B0 w w' → R true w') : F.masonrybook_Book_Apart (some (blk g)) w R := by
  apply E.masonrybook_Book_Apart
  unfold V.masonrybook_Book_Apart
  refine stillTexts_spec h.obj ⟨fun h => by simp at h, fun _ => ?_⟩
  refine stillInts_spec h hW hn hz fun w1 hB1 => ⟨fun h => by simp at h, fun _ => ?_⟩
  have h1 := h.below hB1
  refine stillSpans_spec h1.obj ⟨fun h => by simp at h, fun _ => ?_⟩
  refine stillPieces_spec h1.obj ⟨fun h => by simp at h, fun _ => ?_⟩
  refine stillEntries_spec h1.obj ⟨fun h => by simp at h, fun _ => ?_⟩
  refine stillObjects_spec h1.obj ⟨fun h => by simp at h, fun _ => ?_⟩
  refine stillWrites_spec h1.obj ⟨fun h => by simp at h, fun _ => ?_⟩
  refine stillSteps_spec h1.obj ⟨fun h => by simp at h, fun _ => ?_⟩
  refine putSteps_spec h1.obj (putTexts_spec h1.obj ?_)
  have s1 := hB1.size
  refine putInts_spec h1 (by omega) hn hz fun ys w2 h2 hk hB2 => ?_
  refine putSpans_spec h2.obj (putPieces_spec h2.obj (putEntries_spec h2.obj (putObjects_spec h2.obj (putWrites_spec h2.obj (growTexts_spec h2.obj ?_)))))
  have hzy : ∀ (i : Nat) (p : Kept), ys[i]? = some p → p.2.length ≤ 1000000 ∧ p.2 = marks i 0 p.2.length := fun i p hp => by
    have hlt : i < xs.length := by have := (List.getElem?_eq_some_iff.1 hp).1; rw [hk.1] at this; exact this
    obtain ⟨q, hq, q1, q2, q3⟩ := hk.2 i xs[i] (by simp [hlt])
    rw [hp] at hq
    have := Option.some.inj hq
    subst this
    have hx := hz i xs[i] (by simp [hlt])
    exact ⟨by omega, by rw [q2]; exact q3 hlt⟩
  have s2 := hB2.size
  refine growInts_spec h2 (by omega) (by rw [hk.1]; exact hn) hzy fun out os w3 hout hosl hos hobj hown hys hB3 => ?_
  refine growSpans_spec hobj (growPieces_spec hobj (growEntries_spec hobj (growObjects_spec hobj (growWrites_spec hobj (growSteps_spec hobj ?_)))))
  have hB03 : Below B0 w w3 := ((hB1.mono hB0).trans hB2).trans hB3
  refine markedTexts_spec ⟨fun _ => ⟨blk g, rfl, ⟨none, 0, 0⟩, by rw [blk_cell0 hobj]; rfl, markedTexts_spec ⟨fun _ => ?_, fun h => by cases h⟩⟩, fun h => by cases h⟩
  refine markedInts_spec hout (by rw [hosl, hk.1]; exact hn) hos fun w4 hB4 => ⟨fun _ => ?_, fun h => by cases h⟩
  have hobj4 : BookAt w4 g L W := (fr_below hB4).heap hobj id
  refine ⟨blk g, rfl, L, bookL hobj4, ?_⟩
  have hown4 := hown.keep (fr_below hB4) (fun _ _ => id)
  refine markedInts_spec hown4 (by rw [List.length_map, hk.1]; exact hn) (fun i s hs => ?_) fun w5 hB5 => ⟨fun _ => ?_, fun h => by cases h⟩
  · rw [List.getElem?_map, Option.map_eq_some_iff] at hs
    obtain ⟨p, hp, rfl⟩ := hs
    obtain ⟨z1, z2⟩ := hzy i p hp
    refine ⟨p.2.length, by omega, ?_⟩
    rw [← z2]
    exact (hys i p hp).below hB4
  have hobj5 : BookAt w5 g L W := (fr_below hB5).heap hobj4 id
  have s3 := hB3.size
  have s4 := hB4.size
  have hB05 : Below B0 w w5 := (hB03.trans (hB4.mono (by omega))).trans (hB5.mono (by omega))
  refine markedSpans_spec ⟨fun _ => ⟨blk g, rfl, ⟨none, 0, 0⟩, by rw [blk_cell hobj5]; rfl, markedSpans_spec ⟨fun _ => ?_, fun h => by cases h⟩⟩, fun h => by cases h⟩
  refine markedPieces_spec ⟨fun _ => ⟨blk g, rfl, ⟨none, 0, 0⟩, by rw [blk_cell hobj5]; rfl, markedPieces_spec ⟨fun _ => ?_, fun h => by cases h⟩⟩, fun h => by cases h⟩
  refine markedEntries_spec ⟨fun _ => ⟨blk g, rfl, ⟨none, 0, 0⟩, by rw [blk_cell hobj5]; rfl, markedEntries_spec ⟨fun _ => ?_, fun h => by cases h⟩⟩, fun h => by cases h⟩
  refine markedObjects_spec ⟨fun _ => ⟨blk g, rfl, ⟨none, 0, 0⟩, by rw [blk_cell hobj5]; rfl, markedObjects_spec ⟨fun _ => ?_, fun h => by cases h⟩⟩, fun h => by cases h⟩
  refine markedWrites_spec ⟨fun _ => ⟨blk g, rfl, ⟨none, 0, 0⟩, by rw [blk_cell hobj5]; rfl, markedWrites_spec ⟨fun _ => ?_, fun h => by cases h⟩⟩, fun h => by cases h⟩
  refine markedSteps_spec ⟨fun _ => ⟨blk g, rfl, ⟨none, 0, 0⟩, by rw [blk_cell hobj5]; rfl, markedSteps_spec ?_⟩, fun h => by cases h⟩
  exact hR w5 hB05

theorem readHead_ts (b : List UInt8) : (readHead b).1.ts.length ≤ 110 := by
  unfold readHead
  split
  · simp
  · split
    · simp
    · split
      · simp
      · split
        · simp
        · simp only [parseH, targetsIn_len]; omega

/-- what stands from the lent lists on: w0 the start; all of it below B0 -/
structure HT (w0 : World) (B0 hb : Nat) (l l1 : Sl) (seq : Int) (full : Bool) (ts next : List Int) (w : World) : Prop where
  below : Below w0.heap.size w0 w
  base : w0.heap.size ≤ B0
  up : B0 ≤ w.heap.size
  hd : w.heap[hb]? = some (.cells ⟨[.int .i64 seq, .bool full, .slice l.a l.len l.cap]⟩ T.y_head_Head (0, 0))
  hlt : hb < B0
  m : LentI w l ts
  mlt : ∀ k, l.bk k → k < B0
  n : LentI w l1 next
  nlt : ∀ k, l1.bk k → k < B0

theorem LentI.keep {w w' : World} {m : Sl} {ts : List Int} (h : LentI w m ts) {S : Nat → Prop} (hf : Fr S w w') (hS : ∀ k, m.bk k → ¬ S k) : LentI w' m ts := ⟨h.1, h.2.keep hf hS⟩

theorem HT.keep {w0 : World} {B0 hb : Nat} {l l1 : Sl} {seq : Int} {full : Bool} {ts next : List Int} {w w' : World} (h : HT w0 B0 hb l l1 seq full ts next w) (hB : Below B0 w w') : HT w0 B0 hb l l1 seq full ts next w' where
  below := h.below.trans (hB.mono h.base)
  base := h.base
  up := Nat.le_trans h.up hB.size
  hd := (Fr.below hB).heap h.hd (fun hh => by have := h.hlt; have : B0 ≤ hb := hh; omega)
  hlt := h.hlt
  m := h.m.keep (Fr.below hB) (fun k hk hh => by have := h.mlt k hk; have : B0 ≤ k := hh; omega)
  mlt := h.mlt
  n := h.n.keep (Fr.below hB) (fun k hk hh => by have := h.nlt k hk; have : B0 ≤ k := hh; omega)
  nlt := h.nlt

set_option maxHeartbeats 2000000 in
theorem headTells_spec {w : World} {seq : Int} {full own_ : Bool} {tl nl : Sl} {ts next : List Int} {b : List UInt8} (hT : Ints w tl ts) (hTn : NilOk tl) (hN : Ints w nl next) (hNn : NilOk nl) (hs1 : -9223372036854775808 ≤ seq) (hs2 : seq < 9223372036854775808)
    {R : Bool → World → Prop} (hR : ∀ w', Below w.heap.size w w' → R true w') : F.masonrylaw8_HeadTells seq full tl nl (tx b) own_ w R := by
  apply E.masonrylaw8_HeadTells
  unfold V.masonrylaw8_HeadTells
  have al : ∀ {w'}, Below w.heap.size w w' → F.masonrylaw8_alive w' (fun b w'' => R b w'') := fun hB => alive8_spec fun w'' h => hR w'' (hB.trans (h.mono hB.size))
  have htl := hT.1
  have hnl := hN.1
  refine ⟨fun _ => al (Below.refl _ _), fun h200 => ⟨fun _ => al (Below.refl _ _), fun h200' => ⟨fun _ => al (Below.refl _ _), fun h600 => ?_⟩⟩⟩
  have h200 : ts.length ≤ 200 := by have := of_decide_eq_false h200; omega
  have h200' : next.length ≤ 200 := by have := of_decide_eq_false h200'; omega
  have h600 : b.length ≤ 600 := by have := of_decide_eq_false h600; rw [tx_size] at this; omega
  refine alive8_spec fun w3 hB3 => ⟨fun h => by simp at h, fun _ => ?_⟩
  refine ⟨fun s w' => ∃ b' : List UInt8, s = tx b' ∧ b'.length ≤ 600 ∧ Below w.heap.size w w', ⟨fun _ => ?_, fun _ => ⟨b, rfl, h600, hB3⟩⟩, ?_⟩
  · have hmin : imin ((tx b).size : Int) 252 = ((min b.length 252 : Nat) : Int) := by unfold imin; rw [tx_size]; split <;> omega
    rw [hmin, Int.toNat_natCast]
    have hx : (tx b).extract 0 (min b.length 252) = tx (b.take (min b.length 252)) := by rw [tx_ext]; simp
    rw [hx]
    have hl : (b.take (min b.length 252)).length ≤ 252 := by rw [List.length_take]; omega
    refine ⟨by omega, by rw [tx_size]; omega, RefSeal_spec (n := 256) (by decide) (by decide) (by omega) fun w5 hB5 => ⟨(sealL 256 (b.take (min b.length 252))).1, rfl, ?_, hB3.trans (hB5.mono hB3.size)⟩⟩
    rw [sealL_ok (by omega)]
    simp only
    rw [sealS_len (by decide) (by omega)]
    decide
  rintro _ w6 ⟨b, rfl, h600, hB6⟩
  refine LentInts_spec (hT.below hB6) hTn (by omega) fun l w7 hl7 hB7 => ?_
  have hB07 := hB6.trans (hB7.mono hB6.size)
  refine LentInts_spec (hN.below hB07) hNn (by omega) fun l1 w8 hl8 hB8 => ?_
  have hB08 := hB07.trans (hB8.mono hB07.size)
  have hm8 := hl7.keep (fr_below hB8) (fun _ _ => id)
  intro w9
  have h9 : w9.heap[w8.heap.size]? = some (.cells ⟨[.int .i64 0, .bool false, .slice none 0 0]⟩ T.y_head_Head (0, 0)) := heap_new w8 _
  have hF9 : Fr no w8 w9 := Fr.alloc no w8 _
  clear_value w9
  obtain ⟨k1, k2, k3, h12, hF12⟩ := set3 h9 seq full l
  refine ⟨k1, ?_⟩
  intro _
  refine ⟨k2, ?_⟩
  intro _
  refine ⟨k3, ?_⟩
  intro w12
  have h12 : w12.heap[w8.heap.size]? = some (.cells ⟨[.int .i64 seq, .bool full, .slice l.a l.len l.cap]⟩ T.y_head_Head (0, 0)) := h12
  have hF12 : Fr (· = w8.heap.size) w9 w12 := hF12
  clear_value w12
  have mlt : ∀ k, l.bk k → k < w8.heap.size := fun k hk => hm8.2.lt hk
  have nlt : ∀ k, l1.bk k → k < w8.heap.size := fun k hk => hl8.2.lt hk
  have hF812 : Below w8.heap.size w8 w12 := (below_fr hF9).trans (hF12.toBelow (fun k hk => by have : k = w8.heap.size := hk; omega) hF9.size)
  have hB12 := hB08.trans (hF812.mono hB08.size)
  intro w13
  have h13 : w13.heap[w12.heap.size]? = some (.cells ⟨[.int .i64 0, .bool false, .slice none 0 0]⟩ T.y_masonryref1_Head (0, 0)) := heap_new w12 _
  have hF13 : Fr no w12 w13 := Fr.alloc no w12 _
  clear_value w13
  obtain ⟨k1, k2, k3, h16, hF16⟩ := set3 h13 seq full tl
  refine ⟨k1, ?_⟩
  intro _
  refine ⟨k2, ?_⟩
  intro _
  refine ⟨k3, ?_⟩
  intro w16
  have h16 : w16.heap[w12.heap.size]? = some (.cells ⟨[.int .i64 seq, .bool full, .slice tl.a tl.len tl.cap]⟩ T.y_masonryref1_Head (0, 0)) := h16
  have hF16 : Fr (· = w12.heap.size) w13 w16 := hF16
  clear_value w16
  have hF1216 : Below w12.heap.size w12 w16 := (below_fr hF13).trans (hF16.toBelow (fun k hk => by have : k = w12.heap.size := hk; omega) hF13.size)
  have s812 := hF812.size
  have s1216 := hF1216.size
  have hB16 := hB12.trans (hF1216.mono hB12.size)
  have hHT16 : HT w w16.heap.size w8.heap.size l l1 seq full ts next w16 := by
    have lt12 := heap_lt h12
    refine ⟨hB16, hB16.size, Nat.le_refl _, (fr_below hF1216).heap h12 id, by omega, ?_, fun k hk => by have := mlt k hk; omega, ?_, fun k hk => by have := nlt k hk; omega⟩
    · exact (hm8.keep (fr_below hF812) (fun _ _ => id)).keep (fr_below hF1216) (fun _ _ => id)
    · exact (hl8.keep (fr_below hF812) (fun _ _ => id)).keep (fr_below hF1216) (fun _ _ => id)
  generalize hB0z : w16.heap.size = B1 at hHT16
  have kb : ∀ {x y : World}, HT w B1 w8.heap.size l l1 seq full ts next x → Below x.heap.size x y → HT w B1 w8.heap.size l l1 seq full ts next y := fun h hb => h.keep (hb.mono h.up)
  have rk : ∀ {x : World}, Below w16.heap.size w16 x → x.heap[w12.heap.size]? = some (.cells ⟨[.int .i64 seq, .bool full, .slice tl.a tl.len tl.cap]⟩ T.y_masonryref1_Head (0, 0)) := fun hb => (fr_below hb).heap h16 id
  obtain ⟨c0, c1, c2⟩ := head3 hHT16.hd
  refine ⟨seq, c0, full, c1, l, c2, ?_⟩
  refine Lay_head hHT16.m.ints (fun k hk => by have := hHT16.mlt k hk; omega) fun w17 hB17 => ?_
  have hHT17 := kb hHT16 hB17
  obtain ⟨d0, d1, d2⟩ := head3 (rk hB17)
  refine ⟨seq, d0, full, d1, tl, d2, RefValid_spec (hT.below hHT17.below) (by omega) fun w18 hB18 => ?_⟩
  have hHT18 := kb hHT17 hB18
  have hB1618 : Below w16.heap.size w16 w18 := hB17.trans (hB18.mono hB17.size)
  refine ⟨fun w' => HT w B1 w8.heap.size l l1 seq full ts next w', ⟨fun x w' => x = false ∧ HT w B1 w8.heap.size l l1 seq full ts next w', ?_, ?_⟩, ?_⟩
  · obtain ⟨c0, c1, c2⟩ := head3 hHT18.hd
    refine ⟨seq, c0, full, c1, l, c2, Valid_head hHT18.m.ints fun w19 hB19 => ⟨fun h => by simp at h, fun _ => ?_⟩⟩
    have hHT19 := kb hHT18 hB19
    have hB1619 : Below w16.heap.size w16 w19 := hB1618.trans (hB19.mono hB1618.size)
    refine ⟨fun hv => ?_, fun hv => ?_⟩
    · obtain ⟨el, _⟩ := lay_ok hv
      have e0 : (layHead ⟨seq, full, ts⟩).2 = 0 := by rw [el]
      rw [e0]
      obtain ⟨d0, d1, d2⟩ := head3 (rk hB1619)
      refine ⟨fun h => by simp at h, fun _ => ⟨seq, d0, full, d1, tl, d2, RefLay_head (hT.below hHT19.below) hv fun w20 hB20 => ?_⟩⟩
      have hHT20 := kb hHT19 hB20
      rw [tx_eq, hv]
      refine ⟨fun h => by simp at h, fun _ => ⟨fun h => by simp at h, fun _ => ⟨rfl, hHT20⟩⟩⟩
    · have el : layHead ⟨seq, full, ts⟩ = ([], 1) := by simp [layHead, hv]
      rw [el, hv]
      refine ⟨fun _ => ⟨fun h => by simp at h, fun _ => ⟨?_, hHT19⟩⟩, fun h => by simp at h⟩
      rw [tx_nil, tx_eq]; simp
  · rintro x w21 ⟨rfl, hHT21⟩
    exact ⟨fun h => (by cases h), fun _ => hHT21⟩
  intro w22 hHT22
  intro w23
  have hobj : BookAt w23 w22.heap.size ⟨none, 0, 0⟩ ⟨none, 0, 0⟩ := heap_new w22 _
  have hF23 : Fr no w22 w23 := Fr.alloc no w22 _
  have hz23 : w23.heap.size = w22.heap.size + 1 := by simp [w23]
  clear_value w23
  have hHT23 := kb hHT22 (below_fr hF23)
  have up22 := hHT22.up
  have hHTk : ∀ {x y : World}, HT w B1 w8.heap.size l l1 seq full ts next x → Below w22.heap.size x y → HT w B1 w8.heap.size l l1 seq full ts next y := fun h hb => h.keep (hb.mono up22)
  refine ⟨fun k w' => ∃ (m : Nat) (L W : Sl) (xs : List Kept), k = m ∧ m ≤ 2 ∧ Bc w22.heap.size w' w22.heap.size L W xs ∧ Bw w' L W xs ∧ xs.length = m ∧ (∀ (i : Nat) (p : Kept), xs[i]? = some p → p.2.length ≤ 1000000) ∧ HT w B1 w8.heap.size l l1 seq full ts next w', fun k _ => (2 - k).toNat,
    ⟨0, ⟨none, 0, 0⟩, ⟨none, 0, 0⟩, [], rfl, Nat.zero_le _, ⟨hobj, Own.nil _ _ _, fun i p hp => by simp at hp, fun i j p q _ hp => by simp at hp, Nat.le_refl _, fun k hk => bk_nil hk, fun k hk => bk_nil hk, fun i p hp => by simp at hp⟩, ⟨[], Own.nil _ _ _, rfl, fun k hk => bk_nil hk, fun i p s hp => by simp at hp⟩, rfl, fun i p hp => by simp at hp, hHT23⟩, ?_⟩
  rintro k w24 ⟨m, L, W, xs, rfl, hm, hc, hw, hxl, hxz, hHT24⟩
  have hg24 : w22.heap.size < w24.heap.size := heap_lt hc.obj
  have hLlt : ∀ k, L.bk k → k < w24.heap.size := fun k hk => hc.own.lt hk
  have hWlt : ∀ k, W.bk k → k < w24.heap.size := fun k hk => by obtain ⟨ws, h1, _⟩ := hw; exact h1.lt hk
  have hxlt : ∀ (i : Nat) (p : Kept), xs[i]? = some p → ∀ k, p.1.bk k → k < w24.heap.size := fun i p hp k hk => (hc.rows i p hp).lt hk
  refine ⟨fun hlt => ?_, fun hge => ?_⟩
  · have hlt : m < 2 := by have := of_decide_eq_true hlt; omega
    have e1 : w64 ((m : Int) + 1) = ((m + 1 : Nat) : Int) := by rw [w64_id (by omega) (by omega)]; omega
    have hts := readHead_ts b
    refine Read_head (by omega) fun l6 w25 hO25 hbk25 hB25 => ?_
    have s25 := hB25.size
    intro w26
    have h26 : w26.heap[w25.heap.size]? = some (.cells ⟨[.int .i64 0, .bool false, .slice none 0 0]⟩ T.y_head_Head (0, 0)) := heap_new w25 _
    have hF26 : Fr no w25 w26 := Fr.alloc no w25 _
    clear_value w26
    obtain ⟨k1, k2, k3, h29, hF29⟩ := set3 h26 (readHead b).1.seq (readHead b).1.full l6
    refine ⟨k1, ?_⟩
    intro _
    refine ⟨k2, ?_⟩
    intro _
    refine ⟨k3, ?_⟩
    intro w29
    have h29 : w29.heap[w25.heap.size]? = some (.cells ⟨[.int .i64 (readHead b).1.seq, .bool (readHead b).1.full, .slice l6.a l6.len l6.cap]⟩ T.y_head_Head (0, 0)) := h29
    have hF29 : Fr (· = w25.heap.size) w26 w29 := hF29
    clear_value w29
    have hB2529 : Below w25.heap.size w25 w29 := (below_fr hF26).trans (hF29.toBelow (fun k hk => by have : k = w25.heap.size := hk; omega) hF26.size)
    have s29 := hB2529.size
    have hO29 := hO25.keep (fr_below hB2529) (fun _ _ => id)
    refine RefRead_head (by omega) fun l7 w30 hO30 hbk30 hB30 => ?_
    have s30 := hB30.size
    have h30 := (fr_below hB30).heap h29 id
    have hO630 := hO29.keep (fr_below hB30) (fun _ _ => id)
    intro w31
    have h31 : w31.heap[w30.heap.size]? = some (.cells ⟨[.int .i64 0, .bool false, .slice none 0 0]⟩ T.y_masonryref1_Head (0, 0)) := heap_new w30 _
    have hF31 : Fr no w30 w31 := Fr.alloc no w30 _
    clear_value w31
    obtain ⟨k1, k2, k3, h34, hF34⟩ := set3 h31 (readHead b).1.seq (readHead b).1.full l7
    refine ⟨k1, ?_⟩
    intro _
    refine ⟨k2, ?_⟩
    intro _
    refine ⟨k3, ?_⟩
    intro w34
    have h34 : w34.heap[w30.heap.size]? = some (.cells ⟨[.int .i64 (readHead b).1.seq, .bool (readHead b).1.full, .slice l7.a l7.len l7.cap]⟩ T.y_masonryref1_Head (0, 0)) := h34
    have hF34 : Fr (· = w30.heap.size) w31 w34 := hF34
    clear_value w34
    have hB3034 : Below w30.heap.size w30 w34 := (below_fr hF31).trans (hF34.toBelow (fun k hk => by have : k = w30.heap.size := hk; omega) hF31.size)
    have s34 := hB3034.size
    have x34 := (fr_below hB3034).heap h30 id
    have hO634 := hO630.keep (fr_below hB3034) (fun _ _ => id)
    have hO734 := hO30.keep (fr_below hB3034) (fun _ _ => id)
    have hB24 : Below w24.heap.size w24 w34 := by
      have a1 := hB25.trans (hB2529.mono s25)
      have a2 := a1.trans (hB30.mono a1.size)
      exact a2.trans (hB3034.mono a2.size)
    have hc34 := hc.below hB24
    have hw34 := hw.below hB24
    obtain ⟨p0, p1, p2⟩ := head3 x34
    refine ⟨l6, p2, ?_⟩
    refine Ints_spec hc34 hw34 (by omega) hO634 (by omega) (fun i p hp k hk hk' => by have := hxlt i p hp k hk; have := hbk25 k hk'; omega) (fun k hk => by have := hbk25 k hk; omega) fun L' W' w35 hc35 hw35 hF35 => ?_
    have notS : ∀ {k}, w24.heap.size ≤ k → ¬ (k = w22.heap.size ∨ L.bk k ∨ W.bk k) := fun {k} hk hh => by
      rcases hh with h' | h' | h'
      · omega
      · have := hLlt k h'; omega
      · have := hWlt k h'; omega
    have x35 := hF35.heap x34 (notS (by omega))
    have y35 := hF35.heap h34 (notS (by omega))
    have hO635 := hO634.keep hF35 (fun k hk => notS (by have := hbk25 k hk; omega))
    have hO735 := hO734.keep hF35 (fun k hk => notS (by have := hbk30 k hk; omega))
    have hB35 : Below w22.heap.size w34 w35 := hF35.toBelow (fun k hk => by
      rcases hk with h' | h' | h'
      · omega
      · exact hc.loL k h'
      · exact hc.loW k h') (by omega)
    have hHT35 := hHTk (kb hHT24 hB24) hB35
    obtain ⟨p0, p1, p2⟩ := head3 x35
    obtain ⟨q0, q1, q2⟩ := head3 y35
    refine ⟨fun x w' => x = false ∧ Bc w22.heap.size w' w22.heap.size L' W' (xs ++ [(l6, (readHead b).1.ts)]) ∧ Bw w' L' W' (xs ++ [(l6, (readHead b).1.ts)]) ∧ HT w B1 w8.heap.size l l1 seq full ts next w',
      ⟨_, p0, _, p1, l6, p2, _, q0, _, q1, l7, q2, same8_spec (Own.ints hO635) (Own.ints hO735) (by omega) fun w36 hB36 => ⟨fun h => by simp at h, fun _ => ⟨by simp, hc35.below hB36, hw35.below hB36, kb hHT35 hB36⟩⟩⟩, ?_⟩
    rintro x w37 ⟨rfl, hc37, hw37, hHT37⟩
    refine ⟨fun h => (by cases h), fun _ => ⟨⟨m + 1, L', W', _, e1, hlt, hc37, hw37, by simp [hxl], fun i p hp => ?_, hHT37⟩, ?_⟩⟩
    · rcases Nat.lt_or_ge i xs.length with h' | h'
      · rw [List.getElem?_append_left h'] at hp
        exact hxz i p hp
      · rw [List.getElem?_append_right h'] at hp
        have hi0 : i - xs.length = 0 := by have := (List.getElem?_eq_some_iff.1 hp).1; simp at this; omega
        rw [hi0] at hp
        have : (l6, (readHead b).1.ts) = p := by simpa using hp
        subst this
        simp only; omega
    · show ((2 : Int) - w64 ((m : Int) + 1)).toNat < ((2 : Int) - (m : Int)).toNat
      rw [e1]; omega
  refine ⟨fun x w' => (x = true ∨ (x = false ∧ 0 ≤ seq ∧ seq < 1099511627776)) ∧ w' = w24, ⟨fun _ => ⟨.inl rfl, rfl⟩, fun h0 => ⟨?_, rfl⟩⟩, ?_⟩
  · by_cases hbig : seq ≥ 1099511627776
    · exact .inl (decide_eq_true hbig)
    · exact .inr ⟨decide_eq_false hbig, by have := of_decide_eq_false h0; omega, by omega⟩
  rintro x w38 ⟨hx, rfl⟩
  refine ⟨fun _ => ?_, fun hxf => ?_⟩
  · refine Apart_spec hc hw (by omega) (by omega) hxz fun w39 hB39 => ⟨fun _ => ?_, fun h => by cases h⟩
    have hHT39 := hHTk hHT24 hB39
    refine StaysInts_spec hHT39.m (hT.below hHT39.below) (by omega) fun w40 hB40 => hR _ (kb hHT39 hB40).below
  obtain ⟨hq0, hq1⟩ : 0 ≤ seq ∧ seq < 1099511627776 := by
    rcases hx with h | h
    · rw [h] at hxf; cases hxf
    · exact h.2
  refine ⟨fun order i w' => ∃ m : Nat, i = m ∧ m ≤ next.length ∧ Own w' T.y_int 1 order (intCells ((next.take m).foldl putU [])) ∧ (∀ k, order.bk k → w38.heap.size ≤ k) ∧ Below w38.heap.size w38 w', fun _ i _ => (next.length - i).toNat, ⟨0, rfl, Nat.zero_le _, Own.nil _ _ _, fun k hk => bk_nil hk, Below.refl _ _⟩, ?_⟩
  rintro order i w41 ⟨j, rfl, hj, hO41, hbk41, hB41⟩
  have hfl := foldPut_len next j
  have hHT41 := kb hHT24 hB41
  refine ⟨fun hlt => ?_, fun hge => ?_⟩
  · have hlt : j < next.length := by have := of_decide_eq_true hlt; omega
    have e1 : w64 ((j : Int) + 1) = ((j + 1 : Nat) : Int) := by rw [w64_id (by omega) (by omega)]; omega
    obtain ⟨a, ha, hca⟩ := (hN.below hHT41.below).2 j next[j] (by simp [hlt])
    refine ⟨a, ha, by omega, by omega, next[j], by simpa using hca, Put_spec hO41 (by omega) fun l11 w42 hO42 hbk42 hB42 => ⟨⟨j + 1, e1, hlt, ?_, fun k hk => ?_, hB41.trans (hB42.mono hB41.size)⟩, ?_⟩⟩
    · rw [List.take_succ_eq_append_getElem hlt, List.foldl_append]
      exact hO42
    · rcases hbk42 k hk with h' | h'
      · exact hbk41 k h'
      · have := hB41.size; omega
    · show ((next.length : Int) - w64 ((j : Int) + 1)).toNat < ((next.length : Int) - (j : Int)).toNat
      rw [e1]; omega
  have hjj : j = next.length := by have := of_decide_eq_false hge; omega
  subst hjj
  rw [List.take_length, foldPut_next] at hO41
  have s41 := hB41.size
  intro w43
  have hB43 : Below w38.heap.size w38 w43 := hB41.drew
  have hO43 : Own w43 T.y_int 1 order (intCells (nextT next)) := hO41.keep (Fr.drew no w41) (fun _ _ => id)
  clear_value w43
  have hHT43 := kb hHT24 hB43
  have s43 := hB43.size
  have olt : ∀ k, order.bk k → k < w43.heap.size := fun k hk => hO43.lt hk
  obtain ⟨c0, c1, c2⟩ := head3 hHT43.hd
  refine ⟨seq, c0, full, c1, l, c2, seq, c0, full, c1, l, c2, fun w44 hB44 => ?_⟩
  have hHT44 := kb hHT43 hB44
  have s44 := hB44.size
  refine Next_head hHT44.n.ints (by omega) (by omega) (by omega) fun l14 w45 hO45 hbk45 hB45 => ?_
  have hHT45 := kb hHT44 hB45
  have s45 := hB45.size
  have l14lt : ∀ k, l14.bk k → k < w45.heap.size := fun k hk => hO45.lt hk
  obtain ⟨c0, c1, c2⟩ := head3 hHT45.hd
  refine ⟨Keep.of (fr_below hB45) (fun g hg _ => ⟨id, by simp only [inIv, or_false] at hg; omega⟩), c0, c1, c2, fun w46 hB46 => ?_⟩
  have s46 := hB46.size
  refine Done_head fun w47 hB47 => ?_
  have s47 := hB47.size
  refine ⟨Keep.of (fr_below hB47) (fun g hg _ => ⟨id, by simp only [inIv, or_false] at hg; omega⟩), fun w48 g hB48 hg _ hgo w49 g1 hB49 hg1 hg1n hg1o w50 hB50 => ?_⟩
  have s48 := hB48.size
  have s49 := hB49.size
  have s50 := hB50.size
  simp only [inIv, or_false, List.mem_singleton] at hg hg1 hg1n
  have hB4550 : Below w45.heap.size w45 w50 := by
    have a1 := hB46.trans (hB47.mono s46)
    have a2 := a1.trans (hB48.mono a1.size)
    have a3 := a2.trans (hB49.mono a2.size)
    exact a3.trans (hB50.mono a3.size)
  have hgo50 := (fr_below hB50).heap ((fr_below hB49).heap hgo id) id
  have hg1o50 := (fr_below hB50).heap hg1o id
  have hO50 := hO45.keep (fr_below hB4550) (fun _ _ => id)
  obtain ⟨k1, k2, k3, h53, hF53⟩ := set3 hgo50 (seq + 1) true l14
  refine ⟨k1, ?_⟩
  intro _
  refine ⟨k2, ?_⟩
  intro _
  refine ⟨k3, ?_⟩
  intro w53
  have h53 : w53.heap[g]? = some (.cells ⟨[.int .i64 (seq + 1), .bool true, .slice l14.a l14.len l14.cap]⟩ T.y_head_Head (0, 0)) := h53
  have hF53 : Fr (· = g) w50 w53 := hF53
  clear_value w53
  have s53 := hF53.size
  refine ⟨Keep.of hF53 (fun g' hg' hu => ⟨fun h => hu (by have : g' = g := h; simp [this]), by simp only [inIv, or_false] at hg'; omega⟩), fun w54 hB54 => ?_⟩
  have s54 := hB54.size
  have hg154 := (fr_below hB54).heap (hF53.heap hg1o50 (fun h => hg1n h)) id
  have h54 := (fr_below hB54).heap h53 id
  obtain ⟨k1, k2, k3, h57, hF57⟩ := set3 hg154 seq false ⟨none, 0, 0⟩
  refine ⟨k1, ?_⟩
  intro _
  refine ⟨k2, ?_⟩
  intro _
  refine ⟨k3, ?_⟩
  intro w57
  have h57 : w57.heap[g1]? = some (.cells ⟨[.int .i64 seq, .bool false, .slice none 0 0]⟩ T.y_head_Head (0, 0)) := h57
  have hF57 : Fr (· = g1) w54 w57 := hF57
  clear_value w57
  have s57 := hF57.size
  refine ⟨Keep.of hF57 (fun g' hg' hu => ⟨fun h => hu (by have : g' = g1 := h; simp [this]), by simp only [inIv, or_false] at hg'; omega⟩), fun w58 hB58 => ?_⟩
  have x57 := hF57.heap h54 (fun h => hg1n (by have : g = g1 := h; exact this.symm))
  have x58 := (fr_below hB58).heap x57 id
  have y58 := (fr_below hB58).heap h57 id
  have nG : ∀ k, l14.bk k → ¬ k = g ∧ ¬ k = g1 := fun k hk => by have := hbk45 k hk; have := l14lt k hk; omega
  have hO58 := (((hO50.keep hF53 (fun k hk h => (nG k hk).1 h)).keep (fr_below hB54) (fun _ _ => id)).keep hF57 (fun k hk h => (nG k hk).2 h)).keep (fr_below hB58) (fun _ _ => id)
  have hB4358 : Below w43.heap.size w43 w58 := by
    have a1 := hB44.trans (hB45.mono s44)
    have a2 := a1.trans (hB4550.mono a1.size)
    have a3 := a2.trans (hF53.toBelow (B := w43.heap.size) (fun k hk => by have : k = g := hk; omega) a2.size)
    have a4 := a3.trans (hB54.mono a3.size)
    have a5 := a4.trans (hF57.toBelow (B := w43.heap.size) (fun k hk => by have : k = g1 := hk; omega) a4.size)
    exact a5.trans (hB58.mono a5.size)
  have hB3858 : Below w38.heap.size w38 w58 := hB43.trans (hB4358.mono s43)
  have hHT58 := kb hHT24 hB3858
  have hOo58 := hO43.keep (fr_below hB4358) (fun _ _ => id)
  have hc58 := hc.below hB3858
  have hw58 := hw.below hB3858
  obtain ⟨p0, p1, p2⟩ := head3 x58
  refine ⟨l14, p2, ?_⟩
  have hnlen := nextT_len next
  refine Ints_spec hc58 hw58 (by omega) hO58 (by omega) (fun i p hp k hk hk' => by have := hxlt i p hp k hk; have := hbk45 k hk'; omega) (fun k hk => by have := hbk45 k hk; omega) fun L' W' w59 hc59 hw59 hF59 => ?_
  have notS : ∀ {k}, w38.heap.size ≤ k → ¬ (k = w22.heap.size ∨ L.bk k ∨ W.bk k) := fun {k} hk hh => by
    rcases hh with h' | h' | h'
    · omega
    · have := hLlt k h'; omega
    · have := hWlt k h'; omega
  have x59 := hF59.heap x58 (notS (by omega))
  have y59 := hF59.heap y58 (notS (by omega))
  have hO59 := hO58.keep hF59 (fun k hk => notS (by have := hbk45 k hk; omega))
  have hOo59 := hOo58.keep hF59 (fun k hk => notS (hbk41 k hk))
  have hB59 : Below w22.heap.size w58 w59 := hF59.toBelow (fun k hk => by
    rcases hk with h' | h' | h'
    · omega
    · exact hc.loL k h'
    · exact hc.loW k h') (by have := hB3858.size; omega)
  have hHT59 := hHTk hHT58 hB59
  obtain ⟨p0, p1, p2⟩ := head3 x59
  have e1 : w64 (seq + 1) = seq + 1 := w64_id (by omega) (by omega)
  rw [e1]
  refine ⟨seq + 1, p0, true, p1, l14, p2, same8_spec (Own.ints hO59) (Own.ints hOo59) (by omega) fun w60 hB60 => ⟨fun _ => ?_, fun h => by cases h⟩⟩
  have y60 := (fr_below hB60).heap y59 id
  obtain ⟨q0, q1, q2⟩ := head3 (l := ⟨none, 0, 0⟩) y60
  refine ⟨seq, q0, false, q1, ⟨none, 0, 0⟩, q2, same8_spec (ts := []) ⟨rfl, fun j v hj => by simp at hj⟩ ⟨rfl, fun j v hj => by simp at hj⟩ (by simp) fun w61 hB61 => ⟨fun _ => ?_, fun h => by cases h⟩⟩
  have hHT61 := kb (kb hHT59 hB60) hB61
  refine StaysInts_spec hHT61.m (hT.below hHT61.below) (by omega) fun w62 hB62 => ⟨fun _ => ?_, fun h => by cases h⟩
  have hHT62 := kb hHT61 hB62
  refine StaysInts_spec hHT62.n (hN.below hHT62.below) (by omega) fun w63 hB63 => ⟨fun _ => ?_, fun h => by cases h⟩
  have hHT63 := kb hHT62 hB63
  have hB5963 : Below w59.heap.size w59 w63 := by
    have a1 := hB60.trans (hB61.mono hB60.size)
    have a2 := a1.trans (hB62.mono a1.size)
    exact a2.trans (hB63.mono a2.size)
  refine Apart_spec (hc59.below hB5963) (hw59.below hB5963) (by have := hB59.size; have := hB5963.size; have := hB3858.size; omega) (by simp; omega) (fun i p hp => ?_) fun w64_ hB64 => hR _ (hHTk hHT63 hB64).below
  rcases Nat.lt_or_ge i xs.length with h' | h'
  · rw [List.getElem?_append_left h'] at hp
    exact hxz i p hp
  · rw [List.getElem?_append_right h'] at hp
    have hi0 : i - xs.length = 0 := by have := (List.getElem?_eq_some_iff.1 hp).1; simp at this; omega
    rw [hi0] at hp
    have : (l14, nextT next) = p := by simpa using hp
    subst this
    simp only; omega

end Go.Proofs.YtepclihkniaieaaGreatDoor
