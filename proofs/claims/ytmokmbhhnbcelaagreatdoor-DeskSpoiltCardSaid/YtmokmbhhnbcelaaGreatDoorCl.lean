/- which Rooms lay alike; what is on a desk behind a Sync; masonrylaw11.alive. -/
import Derived.Test.YtmokmbhhnbcelaaGreatDoorDf
import Derived.Test.YtmokmbhhnbcelaaGreatDoorSq
set_option linter.unusedVariables false
namespace Go.Proofs.YtmokmbhhnbcelaaGreatDoor
open Go Go.Vc Go.RowKit Go.Lib Go.Maps Go.Proofs

theorem pack_bit (bs : List Bool) (m : Nat) (hm : m ≤ bs.length) {i : Nat} (hi : i < bs.length) : ((packTo bs m).getD (i / 8) 0).toNat.testBit (i % 8) = (decide (i < m) && bs.getD i false) := by
  induction m with
  | zero =>
    have : (packTo bs 0).getD (i / 8) 0 = 0 := by
      unfold packTo
      simp only [List.range_zero, List.foldl_nil, List.getD_eq_getElem?_getD, List.getElem?_replicate]
      split <;> rfl
    rw [this]
    simp
  | succ m ih =>
    have ih := ih (by omega)
    rw [packTo_succ]
    have hpl := packTo_len bs m
    by_cases hb : bs.getD m false = true
    · rw [if_pos hb]
      by_cases hj : m / 8 = i / 8
      · have hlt : i / 8 < (packTo bs m).length := by rw [hpl]; omega
        have e1 : ((packTo bs m).set (m / 8) (UInt8.ofNat (((packTo bs m).getD (m / 8) 0).toNat ||| 2 ^ (m % 8)))).getD (i / 8) 0 = UInt8.ofNat (((packTo bs m).getD (i / 8) 0).toNat ||| 2 ^ (m % 8)) := by
          rw [hj]
          simp [hlt]
        rw [e1]
        have hlt2 : ((packTo bs m).getD (i / 8) 0).toNat ||| 2 ^ (m % 8) < 2 ^ 8 := Nat.or_lt_two_pow ((packTo bs m).getD (i / 8) 0).toNat_lt (Nat.pow_lt_pow_right (by decide) (Nat.mod_lt _ (by decide)))
        rw [UInt8.toNat_ofNat', Nat.mod_eq_of_lt hlt2, Nat.testBit_or, ih, Nat.testBit_two_pow]
        by_cases him : i = m
        · subst him
          have hb' : bs.getD i false = true := hb
          rw [hb']
          simp
        · have h8 : ¬ m % 8 = i % 8 := by omega
          have h9 : decide (i < m) = decide (i < m + 1) := by rw [Bool.eq_iff_iff]; simp; omega
          rw [h9]; simp [h8]
      · have e1 : ((packTo bs m).set (m / 8) (UInt8.ofNat (((packTo bs m).getD (m / 8) 0).toNat ||| 2 ^ (m % 8)))).getD (i / 8) 0 = (packTo bs m).getD (i / 8) 0 := by
          simp only [List.getD_eq_getElem?_getD]
          rw [List.getElem?_set_ne hj]
        rw [e1, ih]
        have h9 : decide (i < m) = decide (i < m + 1) := by
          rw [Bool.eq_iff_iff]; simp
          have : i ≠ m := fun e => hj (by rw [e])
          omega
        rw [h9]
    · rw [if_neg hb, ih]
      by_cases him : i = m
      · subst him
        have hb' : bs.getD i false = false := by simpa using hb
        rw [hb']; simp
      · have h9 : decide (i < m) = decide (i < m + 1) := by rw [Bool.eq_iff_iff]; simp; omega
        rw [h9]

theorem layRoom_inj {a b : List Bool} (hl : a.length = b.length) (hn : a.length ≤ 1900) (h : layRoom a = layRoom b) : a = b := by
  unfold layRoom sealS at h
  have la := roomBytes_len a
  have lb := roomBytes_len b
  have hpa : (padTo (256 - 4) (roomBytes a)).length = 252 := padTo_len (by omega)
  have hpb : (padTo (256 - 4) (roomBytes b)).length = 252 := padTo_len (by omega)
  have h1 := (List.append_inj h (by rw [hpa, hpb])).1
  unfold padTo at h1
  have h2 := (List.append_inj h1 (by rw [la, lb, hl])).1
  unfold roomBytes at h2
  rw [hl] at h2
  have h3 := (List.append_inj h2 (by simp)).2
  apply List.ext_getElem hl
  intro i h4 h5
  have p1 := pack_bit a a.length (Nat.le_refl _) h4
  have p2 := pack_bit b b.length (Nat.le_refl _) h5
  rw [hl, h3, p2] at p1
  have d1 : decide (i < b.length) = true := decide_eq_true h5
  rw [d1] at p1
  simp only [Bool.true_and] at p1
  have e1 : a.getD i false = a[i] := by simp [h4]
  have e2 : b.getD i false = b[i] := by simp [h5]
  rw [← e1, ← e2]
  exact p1.symm

theorem lastW_norm (ws : List Wr1) {x : Int} (h : x ∈ keysW ws) : lastW (normW ws) x = lastW ws x := by
  have h2 : x ∈ keysW (normW ws) := by rw [keys_norm, (nextT_up _).2]; exact h
  have h3 := lastW_mem (normW ws) x h2
  obtain ⟨y, hy, he⟩ := List.mem_map.1 h3
  simp only [Prod.mk.injEq] at he
  rw [← he.2, he.1]

theorem normW_nil {ws : List Wr1} : normW ws = [] ↔ ws = [] := by
  constructor
  · intro h
    cases ws with
    | nil => rfl
    | cons p r =>
      have h1 : p.1 ∈ nextT (keysW (p :: r)) := by rw [(nextT_up _).2]; simp [keysW]
      have h2 := congrArg List.length h
      rw [normW_len] at h2
      simp only [List.length_nil] at h2
      rw [List.eq_nil_of_length_eq_zero h2] at h1
      cases h1
  · intro h
    subst h
    have : (normW []).length ≤ 0 := by rw [normW_len]; exact nextT_len _
    exact List.eq_nil_of_length_eq_zero (Nat.le_zero.1 this)

/-- behind a Sync the Room is committed -/
theorem sync_room {D : DkV} {c : Nat} (h : DOk c D) (hc : c ≤ 1000000) (hl : (written D).length ≤ 110) : homeAt (syncD D).d 1 = layRoom D.bs := by
  have hlo := h.q.lo
  have hseq := h.seq
  unfold syncD
  split
  · rename_i hw
    unfold written at hw
    rw [normW_nil] at hw
    have := (List.append_eq_nil_iff.1 hw).2
    split at this
    · assumption
    · cases this
  · obtain ⟨q1, q2, q3, q4⟩ := commit_facts h.q hseq.1 (by omega) (written_E h hl)
    show homeAt (commitD D.d D.seq (written D)) 1 = _
    rw [q4 1 (by omega)]
    have hk1 := h.keys1
    by_cases he : homeAt D.d 1 = layRoom D.bs
    · have : ¬ ((1 : Nat) : Int) ∈ keysW (written D) := by
        unfold written
        rw [if_pos he, List.append_nil, keys_norm, (nextT_up _).2]
        exact hk1
      rw [if_neg this]; exact he
    · have hm : ((1 : Nat) : Int) ∈ keysW (D.ws ++ [((1 : Int), layRoom D.bs)]) := by simp [keysW]
      unfold written
      rw [if_neg he, if_pos (by rw [keys_norm, (nextT_up _).2]; exact hm), lastW_norm _ hm, lastW_app, if_pos (show ((1 : Int), layRoom D.bs).1 = ((1 : Nat) : Int) from rfl)]

theorem sync_clean {D : DkV} {c : Nat} (h : DOk c D) (hc : c ≤ 1000000) (hl : (written D).length ≤ 110) : written (syncD D) = [] := by
  have h1 := sync_room h hc hl
  have h2 : (syncD D).ws = [] := by unfold syncD; split <;> rfl
  have h3 : (syncD D).bs = D.bs := by unfold syncD; split <;> rfl
  unfold written
  rw [h2, h3, if_pos h1, normW_nil]
  rfl

theorem fmt_room {d : Ds} {seq : Int} (hq : Quiet d seq) (hs : 0 ≤ seq ∧ seq ≤ 1000000) : homeAt (fmtD d seq (d.l.length - 111)).d 1 = layRoom (bs0 (d.l.length - 111)) := by
  have hlo := hq.lo
  obtain ⟨q1, q2, q3, q4⟩ := commit_facts hq hs.1 (by omega) (fmt_lastE hq)
  show homeAt (commitD d seq (fmtW (d.l.length - 111))) 1 = _
  rw [q4 1 (by omega), if_pos (by simp [fmtW, keysW])]
  simp [lastW, fmtW]

theorem free_bs0 {n : Nat} (hn : 3 ≤ n) : freeAt (bs0 n) = 2 := by
  have hl := bs0_len n
  have hg : ∀ i, i < n → (bs0 n).getD i false = decide ((i : Int) ∈ ([0, 1] : List Int)) := fun i hi => usedL_get n _ (by simp) hi
  refine freeAt_eq (fun i hi => ?_) ?_
  · have h1 := hg i (by omega)
    have h2 : (bs0 n).getD i false = true := by
      rw [h1]
      have : (i : Int) = 0 ∨ (i : Int) = 1 := by omega
      rcases this with h | h <;> simp [h]
    have h3 : i < (bs0 n).length := by omega
    have e : (bs0 n).getD i false = (bs0 n)[i] := by simp [h3]
    rw [List.getElem?_eq_getElem h3, ← e, h2]
  · have h1 := hg 2 (by omega)
    have h2 : (bs0 n).getD 2 false = false := by rw [h1]; simp
    have h3 : 2 < (bs0 n).length := by omega
    have e : (bs0 n).getD 2 false = (bs0 n)[2] := by simp [h3]
    rw [List.getElem?_eq_getElem h3, ← e, h2]

theorem next_21 : nextT [2, 1] = [1, 2] := by
  obtain ⟨h1, h2⟩ := nextT_up [2, 1]
  refine up_ext h1 (by simp [Up]) fun x => ?_
  rw [h2]
  simp only [List.mem_cons, List.not_mem_nil, or_false]
  omega

set_option maxHeartbeats 2000000 in
theorem alive11_spec {w : World} {R : Bool → World → Prop} (hR : ∀ w', Below w.heap.size w w' → R true w') : F.masonrylaw11_alive w R := by
  apply E.masonrylaw11_alive
  unfold V.masonrylaw11_alive
  refine New_disk (n := 150) (by decide) (by decide) fun g L S w1 hD1 hfp1 hB1 => ?_
  have hd1 : Dsk w1 g (fpD g L S ⟨none, 0, 0⟩) (newD 150) := ⟨L, S, _, hD1, rfl⟩
  generalize fpD g L S ⟨none, 0, 0⟩ = fpd at *
  have hq1 : Quiet (newD 150) 0 := Quiet.new (by decide) (by decide)
  have hlen : (newD 150).l.length = 150 := List.length_replicate
  have hmany : (newD 150).many ≤ 1000 := by decide
  generalize hd0 : newD 150 = d at *
  refine Format_desk hd1 hq1 (by decide) (by omega) fun k u r b fpd2 fpr w2 h2 hnew2 hG2 => ⟨fun h => by simp at h, fun _ => ⟨fun h => by simp at h, fun _ => ⟨fun h => by simp at h, fun _ => ⟨blk k, rfl, some (blk u), h2.c0, fun h => by simp at h, fun _ => ?_⟩⟩⟩⟩
  have hk2 := fmt_ok hq1 (by decide) hmany
  have hroom := fmt_room hq1 (by decide)
  have hbs : (fmtD d 0 (d.l.length - 111)).bs = bs0 39 := by rw [hlen]; rfl
  have hws : (fmtD d 0 (d.l.length - 111)).ws = [] := rfl
  have hr39 : bs0 (d.l.length - 111) = bs0 39 := by rw [hlen]
  rw [hr39] at hroom
  generalize fmtD d 0 (d.l.length - 111) = D at *
  have s1 := hB1.size
  have s2 := hG2.size
  refine Fill_spec (s := [120]) (by decide) fun w3 hB3 => ?_
  have h3 := h2.below hB3
  have hf : freeAt D.bs = 2 := by rw [hbs]; exact free_bs0 (by decide)
  have hbl : D.bs.length = 39 := by rw [hbs, bs0_len]
  refine New_desk h3 hk2 (by decide) (by rw [fillS_len]; decide) (fun h => absurd (fillS_len _) h) (fun _ h => by rw [hf, hbl] at h; simp at h) fun w4 _ hlt h4 hG4 => ?_
  have hk4 := hk2.new hlt (fillS_len [120])
  rw [hf] at h4 hk4 ⊢
  have hws4 : (D.ws ++ [(((2 : Nat) : Int), fillS [120])]) = [(2, fillS [120])] := by rw [hws]; rfl
  rw [hws4] at h4 hk4
  have s3 := hB3.size
  have s4 := hG4.size
  refine Get_desk h4 hk4 (at_ := 2) (by decide) ?_
  rw [if_pos (by simp [keysW]), if_pos (by simp [keysW])]
  have hlw : lastW [((2 : Int), fillS [120])] 2 = fillS [120] := by simp [lastW]
  rw [hlw]
  have hne : ¬ homeAt D.d 1 = layRoom (D.bs.set 2 true) := fun e => by
    rw [hroom, hbs] at e
    have := layRoom_inj (by rw [List.length_set]) (by rw [bs0_len]; decide) e
    have h1 : (bs0 39).getD 2 false = ((bs0 39).set 2 true).getD 2 false := congrArg (fun l : List Bool => l.getD 2 false) this
    have h5 : (bs0 39).getD 2 false = false := by
      have := free_false (bs := bs0 39) (by rw [free_bs0 (by decide), bs0_len]; decide)
      rw [free_bs0 (by decide)] at this; exact this
    have h6 : ((bs0 39).set 2 true).getD 2 false = true := by
      have : 2 < (bs0 39).length := by rw [bs0_len]; decide
      simp [this]
    rw [h5, h6] at h1
    cases h1
  have hwr : written { D with bs := D.bs.set 2 true, ws := [(2, fillS [120])] } = normW [(2, fillS [120]), (1, layRoom (D.bs.set 2 true))] := by
    show normW ([(2, fillS [120])] ++ if homeAt D.d 1 = layRoom (D.bs.set 2 true) then [] else [(1, layRoom (D.bs.set 2 true))]) = _
    rw [if_neg hne]; rfl
  have hkw : keysW (written { D with bs := D.bs.set 2 true, ws := [(2, fillS [120])] }) = [1, 2] := by
    rw [hwr, keys_norm]; exact next_21
  have hwl : (written { D with bs := D.bs.set 2 true, ws := [(2, fillS [120])] }).length = 2 := by
    have := congrArg List.length hkw
    rw [keysW, List.length_map] at this
    exact this
  refine Dirty_desk h4 hk4 (by decide) fun l5 w5 hO5 hbk5 hB5 => ?_
  rw [hkw] at hO5
  have h5 := h4.below hB5
  have hI5 := Own.ints hO5
  have hl5 := hI5.1
  obtain ⟨a0, ha0, hc0⟩ := hI5.2 0 1 rfl
  obtain ⟨a1, ha1, hc1⟩ := hI5.2 1 2 rfl
  simp only [List.length_cons, List.length_nil] at hl5
  refine ⟨fun _ => ⟨fun _ => ⟨fun _ => ⟨fun _ => ⟨fun _ => ⟨a0, ha0, by decide, by omega, 1, hc0, fun _ => ⟨a1, ha1, by decide, by omega, 2, hc1, fun _ => ?_, fun h => by simp at h⟩, fun h => by simp at h⟩, fun h => by rw [hl5] at h; simp at h⟩, fun h => by rw [tx_eq] at h; simp at h⟩, fun h => by simp at h⟩, fun h => by simp at h⟩, fun h => by simp at h⟩
  refine Sync_desk h5 hk4 (by decide) (fun w' hgt => by omega) fun b6 fpd6 w6 _ h6 hG6 => ⟨fun _ => ?_, fun h => by simp at h⟩
  have hk6 := hk4.sync (by decide) (by omega)
  have hcl := sync_clean hk4 (by decide) (by omega)
  have hl6 : (syncD { D with bs := D.bs.set 2 true, ws := [(2, fillS [120])] }).bs.length = 39 := by
    have : (syncD { D with bs := D.bs.set 2 true, ws := [(2, fillS [120])] }).bs = D.bs.set 2 true := by unfold syncD; split <;> rfl
    rw [this, List.length_set, hbl]
  generalize syncD { D with bs := D.bs.set 2 true, ws := [(2, fillS [120])] } = D6 at *
  have hlen6 := hk6.len
  refine ⟨blk k, rfl, some (blk u), h6.c0, Size_wal h6.wl h6.dk (by omega) ⟨fun _ => ?_, fun h => by
    have hs : sizeD D6.d = 39 := by unfold sizeD; omega
    rw [hs] at h; simp at h⟩⟩
  refine Dirty_desk h6 hk6 (by decide) fun l7 w7 hO7 hbk7 hB7 => ?_
  rw [hcl] at hO7
  have hl7 := (Own.ints hO7).1
  have e : (((l7.len : Nat) : Int) == 0) = true := by rw [hl7]; rfl
  rw [e]
  have s5 := hB5.size
  have s6 := hG6.size
  have hlo : ∀ j, fpK k u b fpd2 fpr j → w.heap.size ≤ j := fun j hj => by
    rcases hj with rfl | rfl | rfl | hj | hj
    · have := hnew2 j (.inl rfl); omega
    · have := hnew2 j (.inr (.inl rfl)); omega
    · have := hnew2 j (.inr (.inr (.inl rfl))); omega
    · rcases hG2.new j hj with h | h
      · exact hfp1 j h
      · omega
    · have := hnew2 j (.inr (.inr (.inr hj))); omega
  have b2 := hB1.trans (hG2.fr.toBelow (B := w.heap.size) hfp1 s1)
  have b3 := b2.trans (hB3.mono b2.size)
  have b4 := b3.trans (hG4.fr.toBelow (B := w.heap.size) hlo b3.size)
  have b5 := b4.trans (hB5.mono b4.size)
  have b6 := b5.trans (hG6.fr.toBelow (B := w.heap.size) hlo b5.size)
  exact hR w7 (b6.trans (hB7.mono b6.size))

end Go.Proofs.YtmokmbhhnbcelaaGreatDoor

/- chain: a link, as bytes and back; in plain words. -/
set_option linter.unusedVariables false
namespace Go.Proofs.YtmokmbhhnbcelaaGreatDoor
open Go Go.Vc Go.RowKit Go.Lib

structure Lk where
  gen : Int
  tag : Int
  number : Int
  refs : Int
  next : Int
  data : Bs

def linkBytes (x : Lk) : Bs := [2, x.gen, x.tag, x.number].flatMap (leBytes 1) ++ [x.refs, x.next].flatMap (leBytes 2) ++ (leBytes 2 (x.data.length : Int) ++ x.data)
def layLk (x : Lk) : Bs := sealS 256 (linkBytes x)
structure LkOk (x : Lk) : Prop where
  gen : 1 ≤ x.gen ∧ x.gen ≤ 3
  tag : 0 ≤ x.tag ∧ x.tag ≤ 200
  number : 0 ≤ x.number ∧ x.number < 256
  refs : 0 ≤ x.refs ∧ x.refs < 65536
  next : 0 ≤ x.next ∧ x.next < 65536
  data : x.data.length ≤ 236

theorem linkBytes_len (x : Lk) : (linkBytes x).length = 10 + x.data.length := by simp [linkBytes, leBytes_len]; omega
theorem layLk_len {x : Lk} (h : LkOk x) : (layLk x).length = 256 := sealS_len (by decide) (by rw [linkBytes_len]; have := h.data; omega)

theorem lowIn_layI {k : Nat} {v : Int} (h0 : 0 ≤ v) (hv : v < 256 ^ k) (hk : k ≤ 7) (rest : Bs) : lowIn k (leBytes k v ++ rest) 0 = (v, rest, 0) := by
  obtain ⟨n, rfl⟩ : ∃ n : Nat, v = n := ⟨v.toNat, by omega⟩
  have h1 : n < 256 ^ k := by
    have : ((256 ^ k : Nat) : Int) = 256 ^ k := by simp
    omega
  have h2 : 256 ^ k ≤ 256 ^ 7 := Nat.pow_le_pow_right (by decide) hk
  have h3 : (256 : Nat) ^ 7 = 72057594037927936 := by decide
  exact lowIn_lay h1 (by omega) rest

theorem rawIn_app (a b : Bs) : rawIn (a.length : Int) (a ++ b) 0 = (a, b, 0) := by
  unfold rawIn
  rw [if_neg (by simp), if_neg (by omega), if_neg (by rw [List.length_append]; omega)]
  simp

theorem textIn_lay {d : Bs} (h : d.length < 65536) (rest : Bs) : textIn (leBytes 2 (d.length : Int) ++ (d ++ rest)) 0 = (d, rest, 0) := by
  unfold textIn
  rw [lowIn_layI (by omega) (by have : (256 : Int) ^ 2 = 65536 := by decide
                                omega) (by decide)]
  exact rawIn_app d rest

def parseLk (s : Bs) : Lk :=
  let a0 := lowIn 1 s 0
  let a1 := lowIn 1 a0.2.1 a0.2.2
  let a2 := lowIn 1 a1.2.1 a1.2.2
  let a3 := lowIn 1 a2.2.1 a2.2.2
  let a4 := lowIn 2 a3.2.1 a3.2.2
  let a5 := lowIn 2 a4.2.1 a4.2.2
  ⟨a1.1, a2.1, a3.1, a4.1, a5.1, (textIn a5.2.1 a5.2.2).1⟩

theorem parseLk_lay {x : Lk} (h : LkOk x) (pad : Bs) : parseLk (linkBytes x ++ pad) = x := by
  have e1 : (256 : Int) ^ 1 = 256 := by decide
  have e2 : (256 : Int) ^ 2 = 65536 := by decide
  have h1 := h.gen
  have h2 := h.tag
  have h3 := h.number
  have h4 := h.refs
  have h5 := h.next
  have h6 := h.data
  have e : linkBytes x ++ pad = leBytes 1 2 ++ (leBytes 1 x.gen ++ (leBytes 1 x.tag ++ (leBytes 1 x.number ++ (leBytes 2 x.refs ++ (leBytes 2 x.next ++ (leBytes 2 (x.data.length : Int) ++ (x.data ++ pad))))))) := by
    simp [linkBytes]
  rw [e]
  unfold parseLk
  rw [lowIn_layI (by omega) (by omega) (by decide)]
  simp only
  rw [lowIn_layI (by omega) (by omega) (by decide)]
  simp only
  rw [lowIn_layI (by omega) (by omega) (by decide)]
  simp only
  rw [lowIn_layI (by omega) (by omega) (by decide)]
  simp only
  rw [lowIn_layI (by omega) (by omega) (by decide)]
  simp only
  rw [lowIn_layI (by omega) (by omega) (by decide)]
  simp only
  rw [textIn_lay (by omega)]

/-- which values pass the first look -/
def lkFit (x : Lk) : Bool := decide (1 ≤ x.gen) && (decide (x.gen ≤ 3) && (decide (x.tag ≤ 200) && decide (x.data.length ≤ 236)))
/-- a link read: what it says, whether it is one -/
def lkZ : Lk := ⟨0, 0, 0, 0, 0, []⟩
def readLk (b : Bs) : Lk × Bool :=
  if (openB b).2 ≠ 0 ∨ b.length ≠ 256 then (lkZ, false) else (parseLk (openB b).1, lkFit (parseLk (openB b).1) && decide (layLk (parseLk (openB b).1) = b))

theorem readLk_lay {x : Lk} (h : LkOk x) : readLk (layLk x) = (x, true) := by
  have hl := layLk_len h
  have ho : openB (layLk x) = (padTo 252 (linkBytes x), 0) := openB_seal (by decide) (by rw [linkBytes_len]; have := h.data; omega)
  have hp : parseLk (padTo 252 (linkBytes x)) = x := parseLk_lay h _
  have hf : lkFit x = true := by
    simp only [lkFit, Bool.and_eq_true, decide_eq_true_eq]
    exact ⟨h.gen.1, h.gen.2, h.tag.2, h.data⟩
  unfold readLk
  rw [ho, if_neg (by simp [hl])]
  simp only [hp, hf, decide_true, Bool.and_true]

end Go.Proofs.YtmokmbhhnbcelaaGreatDoor
