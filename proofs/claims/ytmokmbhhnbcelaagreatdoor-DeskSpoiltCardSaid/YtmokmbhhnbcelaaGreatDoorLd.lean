/- desk.Open; what is told of none. -/
import Derived.Test.YtmokmbhhnbcelaaGreatDoorLb
import Derived.Test.YtmokmbhhnbcelaaGreatDoorKf
set_option linter.unusedVariables false
namespace Go.Proofs.YtmokmbhhnbcelaaGreatDoor
open Go Go.Vc Go.RowKit Go.Lib Go.Maps Go.Proofs

theorem room_first {b : Bs} {bs : List Bool} (h : IsRoom b bs) : b.getD 0 0 = 6 := by
  obtain ⟨rfl, h1, h2⟩ := h
  have hl := roomBytes_len bs
  unfold layRoom sealS padTo roomBytes
  rfl
theorem IsRoom.inj {b : Bs} {x y : List Bool} (hx : IsRoom b x) (hy : IsRoom b y) : x = y := by
  obtain ⟨e1, h1, h2⟩ := hx
  obtain ⟨e2, h3, h4⟩ := hy
  have a1 := (rm_lay h1 h2).2.1
  have a2 := (rm_lay h3 h4).2.1
  rw [e1] at a1
  rw [e2] at a2
  exact layRoom_inj (by omega) h2 (by rw [e1, e2])
theorem getD_mem {α : Type} {l : List α} {i : Nat} {x : α} (h : i < l.length) : l.getD i x ∈ l := by
  have : l.getD i x = l[i] := by simp [h]
  rw [this]; exact List.getElem_mem _
theorem no_room {b : Bs} (h : b.getD 0 0 ≠ 6) : ∀ bs, ¬ IsRoom b bs := fun bs hi => h (room_first hi)
theorem zero_room : ∀ bs, ¬ IsRoom zeroS bs := no_room (by decide)
theorem fill_first (s : Bs) : (fillS (120 :: s)).getD 0 0 = 120 := by
  unfold fillS fillTo
  simp [fillAt]
theorem fill_room (s : Bs) : ∀ bs, ¬ IsRoom (fillS (120 :: s)) bs := no_room (by rw [fill_first]; decide)
theorem head_lay_first {h : Hd} (hv : validH h = true) : (layHead h).1.getD 0 0 = 7 := by
  obtain ⟨r, hr⟩ := head_first h
  unfold layHead
  rw [if_pos hv]
  show (sealS 256 (headBytes h)).getD 0 0 = 7
  unfold sealS padTo
  rw [hr]; rfl
theorem fill_head (s : Bs) : (readHead (fillS (120 :: s))).2 ≠ 0 := by
  have h0 := fill_first s
  have hl := fillS_len (120 :: s)
  unfold readHead
  rw [if_neg (by rw [hl]; decide), if_neg ?_]
  · split
    · assumption
    · split
      · decide
      · rename_i hn
        simp only [not_or, Decidable.not_not] at hn
        have hv : validH (parseH (openB (fillS (120 :: s))).1) = true := by
          by_cases hv : validH (parseH (openB (fillS (120 :: s))).1) = true
          · exact hv
          · have := hn.1
            unfold layHead at this
            rw [if_neg hv] at this
            cases this
        have h7 := head_lay_first hv
        rw [hn.2, h0] at h7
        cases h7
  · intro hall
    have h1 := List.all_eq_true.1 hall ((fillS (120 :: s)).getD 0 0) (getD_mem (by rw [hl]; decide))
    rw [h0] at h1
    cases h1

section
variable {w : World} {X : List As} {g : Nat} {d : Ds}
def OpenD (d : Ds) (seq : Int) (bs : List Bool) : DkV := ⟨d, seq, 0, 0, bs, []⟩
set_option maxHeartbeats 1000000 in
theorem OpenDesk_st (h : St w (DskS g d :: X)) {seq : Int} {c : Nat} (hq : Quiet d seq) (hs : 0 ≤ seq ∧ seq ≤ c) (hm : d.many ≤ 1000 * c) {R : Option Addr → Int → World → Prop}
    (hE : ∀ w', (∀ bs, IsRoom (homeAt d 1) bs → bs.length + 111 = d.l.length → usedB bs 0 = true → usedB bs 1 = true → False) → St w' (DskS g d :: X) → R none 25 w')
    (hR : ∀ k bs w', IsRoom (homeAt d 1) bs → bs.length + 111 = d.l.length → St w' (DeskS k g c (OpenD d seq bs) :: X) → R (some (blk k)) 0 w') : F.desk_Open (some (blk g)) w R := by
  have hlo := hq.lo
  have hhi := hq.hi
  apply E.desk_Open
  unfold V.desk_Open
  try simp (config := { zeta := false }) only [cnd_all, Nat.reduceAdd]
  refine OpenWal_st h hq fun u w1 h1 => ⟨fun h => absurd rfl h, fun _ => ?_⟩
  obtain ⟨S, hu, e⟩ := h1.hd
  obtain ⟨S2, hd⟩ := h1.drop.hd
  refine Read_home hu hd (by omega) hq.off rfl (i := 1) (by omega) ⟨fun h => absurd rfl h, fun _ => ?_⟩
  have hsec : (homeAt d 1).length = 256 := hq.secs _ (getD_mem (by omega))
  refine ReadRoom_st h1 hsec (fun e w2 he hno h2 => ⟨fun b w' => b = true ∧ w' = w2, ⟨fun _ => ⟨rfl, rfl⟩, fun h => absurd h he⟩, ?_⟩) fun r bs w2 hi h2 => ?_
  · rintro b w3 ⟨rfl, rfl⟩
    exact ⟨fun _ => hE _ (fun bs hi => absurd hi (hno bs)) h2.drop, fun h => by cases h⟩
  have hbl := hi.2.2
  refine ⟨fun b w' => w' = w2 ∧ b = !(decide (bs.length + 111 = d.l.length) && (usedB bs 0 && usedB bs 1)), ⟨fun h => absurd rfl h, fun _ => ?_⟩, ?_⟩
  · refine SizeRoom_st h2 (SizeWal_st h2.dn2 (by omega) ?_)
    have en : sizeD d = (d.l.length : Int) - 111 := rfl
    rw [en]
    refine ⟨fun hne => ⟨rfl, ?_⟩, fun heq => Used_st h2 ⟨fun hb => ⟨rfl, ?_⟩, fun hb => Used_st h2 ⟨rfl, ?_⟩⟩⟩
    · rw [decide_eq_false (by omega)]; rfl
    · rw [hb, Bool.false_and, Bool.and_false]; rfl
    · rw [decide_eq_true (by omega), hb]; rfl
  · rintro b w3 ⟨rfl, rfl⟩
    refine ⟨fun hb => hE _ (fun bs' hi' a1 a2 a3 => ?_) h2.drop.drop, fun hb => ?_⟩
    · obtain rfl := hi.inj hi'
      rw [a2, a3, decide_eq_true a1] at hb
      cases hb
    · simp only [Bool.not_eq_false', Bool.and_eq_true, decide_eq_true_eq] at hb
      obtain ⟨a1, a2, a3⟩ := hb
      have g0 : ∀ i : Nat, usedB bs (i : Int) = true → bs.getD i false = true := fun i hu => by
        simp only [usedB, Bool.and_eq_true, decide_eq_true_eq] at hu
        exact hu.2.2
      have hok : DOk c (OpenD d seq bs) := ⟨hq, a1, g0 0 a2, g0 1 a3, (fun x hx => by cases hx), Nat.zero_le _, hs, ⟨Int.le_refl _, by show (0 : Int) ≤ c; omega⟩, ⟨Int.le_refl _, by show (0 : Int) ≤ c; omega⟩, hm⟩
      have h3 := WDS.put (D := OpenD d seq bs) h2.dn2
      intro w8
      have h8 : St w8 (MapS w3.heap.size [] :: _) := h3.add (A := MapS w3.heap.size []) (S := fun j => j = w3.heap.size) ⟨MapOf.made w3, rfl⟩ (Fr.alloc no w3 _) fun j hj => by have : j = w3.heap.size := hj; omega
      generalize w3.heap.size = b at *
      clear_value w8
      intro wa1
      replace h8 : St wa1 (Cs _ _ _ :: _) := h8.new _ _
      clear_value wa1
      -- desk, map, wal+disk, room
      exact hR _ bs _ hi a1 (DeskS.join hok (u := u) (r := r) (b := b) (D := OpenD d seq bs) h8.up3.sw)
theorem OpenDesk_bad (h : St w (DskS g d :: X)) (hb : Broken d) {R : Option Addr → Int → World → Prop} (hR : ∀ w', St w' (DskS g d :: X) → R none 25 w') : F.desk_Open (some (blk g)) w R := by
  apply E.desk_Open
  unfold V.desk_Open
  try simp (config := { zeta := false }) only [cnd_all, Nat.reduceAdd]
  exact OpenWal_bad h hb fun w1 h1 => ⟨fun _ => hR w1 h1, fun h => absurd h (by decide)⟩
theorem OpenDesk_none {R : Option Addr → Int → World → Prop} (hR : R none 1 w) : F.desk_Open none w R := by
  apply E.desk_Open
  unfold V.desk_Open
  try simp (config := { zeta := false }) only [cnd_all, Nat.reduceAdd]
  apply E.wal_Open
  unfold V.wal_Open
  exact ⟨fun _ => ⟨fun _ => hR, fun h => absurd h (by decide)⟩, fun h => by cases h⟩

theorem BadD_none {R : Int → World → Prop} (hR : R 1 w) : F.desk_Desk_Bad none w R := by
  apply E.desk_Desk_Bad
  unfold V.desk_Desk_Bad
  exact ⟨fun _ => hR, fun h => by cases h⟩
theorem GetD_none {a : Int} {R : ByteArray → Int → World → Prop} (hR : R sNil 1 w) : F.desk_Desk_Get none a w R := by
  apply E.desk_Desk_Get
  unfold V.desk_Desk_Get
  exact BadD_none ⟨fun _ => hR, fun h => by cases h⟩
theorem NewD_none {s : ByteArray} {R : Int → Int → World → Prop} (hR : R 0 1 w) : F.desk_Desk_New none s w R := by
  apply E.desk_Desk_New
  unfold V.desk_Desk_New
  exact BadD_none ⟨fun _ => hR, fun h => by cases h⟩
theorem SetD_none {a : Int} {s : ByteArray} {R : Int → World → Prop} (hR : R 1 w) : F.desk_Desk_Set none a s w R := by
  apply E.desk_Desk_Set
  unfold V.desk_Desk_Set
  exact BadD_none ⟨fun _ => hR, fun h => by cases h⟩
theorem DropD_none {l : Sl} {R : Int → World → Prop} (hR : R 1 w) : F.desk_Desk_Drop none l w R := by
  apply E.desk_Desk_Drop
  unfold V.desk_Desk_Drop
  exact BadD_none ⟨fun _ => hR, fun h => by cases h⟩
theorem KeepD_none {l : Sl} {R : Int → World → Prop} (hR : R 1 w) : F.desk_Desk_Keep none l w R := by
  apply E.desk_Desk_Keep
  unfold V.desk_Desk_Keep
  exact BadD_none ⟨fun _ => hR, fun h => by cases h⟩
theorem SyncD_none {R : Int → World → Prop} (hR : R 1 w) : F.desk_Desk_Sync none w R := by
  apply E.desk_Desk_Sync
  unfold V.desk_Desk_Sync
  exact BadD_none ⟨fun _ => hR, fun h => by cases h⟩
theorem DirtyD_none {R : Sl → World → Prop} (hR : R ⟨none, 0, 0⟩ w) : F.desk_Desk_Dirty none w R := by
  apply E.desk_Desk_Dirty
  unfold V.desk_Desk_Dirty
  exact ⟨fun _ => hR, fun h => by cases h⟩
theorem RoomD_none {R : Option Addr → World → Prop} (hR : R none w) : F.desk_Desk_Room none w R := by
  apply E.desk_Desk_Room
  unfold V.desk_Desk_Room
  exact ⟨fun _ => hR, fun h => by cases h⟩
theorem all_bs0 {n : Nat} (hn : 2 ≤ n) : allL (bs0 n) n = [0, 1] := by
  have hg : ∀ i, i < n → (bs0 n).getD i false = decide ((i : Int) ∈ ([0, 1] : List Int)) := fun i hi => usedL_get n _ (by simp) hi
  have h : ∀ m, 2 ≤ m → m ≤ n → allL (bs0 n) m = [0, 1] := by
    intro m
    induction m with
    | zero => intro h; omega
    | succ m ih =>
      intro h1 h2
      rw [allL_succ, hg m (by omega)]
      by_cases hm : m = 1
      · subst hm
        rw [show (2 : Nat) = 1 + 1 from rfl] at h1
        rw [allL_succ, hg 0 (by omega)]
        simp [allL]
      · rw [ih (by omega) (by omega), if_neg (by simp; omega)]
  exact h n hn (Nat.le_refl _)
theorem open_clean {seq : Int} {bs : List Bool} (h : homeAt d 1 = layRoom bs) : written (OpenD d seq bs) = [] := by
  unfold written OpenD
  simp only
  rw [if_pos h, normW_nil]; rfl
end
end Go.Proofs.YtmokmbhhnbcelaaGreatDoor

/- DeskSpoilt: the walk. -/
set_option linter.unusedVariables false
namespace Go.Proofs.YtmokmbhhnbcelaaGreatDoor
open Go Go.Vc Go.RowKit Go.Lib Go.Maps Go.Proofs

theorem Quiet.wr {d : Ds} {seq : Int} (hq : Quiet d seq) (hws : d.ws = []) {v : Bs} (hv : v.length = 256) : Quiet (wr1 d (112, v)) seq := by
  have e : (wr1 d (112, v)).l = d.l.set 112 v := rfl
  have hlo := hq.lo
  have e0 : (wr1 d (112, v)).l.getD 0 [] = d.l.getD 0 [] := by
    rw [e]
    simp only [List.getD_eq_getElem?_getD]
    rw [List.getElem?_set_ne (by decide)]
  refine ⟨hq.off, by show (d.ws ++ _).length ≤ 10; rw [hws]; simp, by rw [e, List.length_set]; exact hq.lo, by rw [e, List.length_set]; exact hq.hi, by rw [e0]; exact hq.head, by rw [e0]; exact hq.hlen, ?_, by rw [e]; exact set_mem hq.secs hv⟩
  show 0 ≤ d.many + 1
  have := hq.many; omega
theorem Quiet.wr0 {d : Ds} {seq : Int} (hq : Quiet d seq) (hws : d.ws = []) {v : Bs} (hv : v.length = 256) (hb : (readHead v).2 ≠ 0) : Broken (wr1 d (0, v)) := by
  have e : (wr1 d (0, v)).l = d.l.set 0 v := rfl
  have hlo := hq.lo
  have e0 : (wr1 d (0, v)).l.getD 0 [] = v := by rw [e]; simp [show 0 < d.l.length by omega]
  refine ⟨hq.off, by show (d.ws ++ _).length ≤ 10; rw [hws]; simp, by rw [e, List.length_set]; exact hq.lo, by rw [e, List.length_set]; exact hq.hi, by rw [e0]; exact hb, by rw [e0]; exact hv, ?_, by rw [e]; exact set_mem hq.secs hv⟩
  show 0 ≤ d.many + 1
  have := hq.many; omega
theorem commit_ws (d : Ds) (seq : Int) (ws : List Wr1) : (commitD d seq ws).ws = [] := rfl

section
variable {w : World} {X : List As} {g : Nat}
theorem DeskS.disk {k c : Nat} {D : DkV} (h : St w (DeskS k g c D :: X)) : St w (DskS g D.d :: X) := by
  obtain ⟨hk, u, r, b, h1⟩ := DeskS.parts h
  exact (WDS.split h1.up3).sw.d2.d2.d2.d2

theorem alive11b_st (h : St w X) {R : Bool → World → Prop} (hR : ∀ w', St w' X → R true w') : F.masonrylaw11_alive w R := alive11_spec fun w' hB => hR w' (h.below hB)
/-- a spoilt disk is told to be broken -/
theorem spoil {d : Ds} {seq : Int} (hq : Quiet d seq) (hws : d.ws = []) (hs : 0 ≤ seq ∧ seq ≤ 100) (hm : d.many ≤ 100) (s : Bs) {wh : Nat} (hw : wh = 0 ∨ wh = 112) :
    (∃ d' seq', OpenTo (wr1 d ((wh : Int), fillS (120 :: s))) d' seq' ∧ (0 ≤ seq' ∧ seq' ≤ 1000) ∧ d'.many ≤ 1000 ∧ d'.l.length = d.l.length) ∧
      ∀ {w : World} {X : List As} {g : Nat}, St w (DskS g (wr1 d ((wh : Int), fillS (120 :: s))) :: X) → ∀ {R : Option Addr → Int → World → Prop}, (∀ w', St w' (DskS g (wr1 d ((wh : Int), fillS (120 :: s))) :: X) → R none 25 w') → F.desk_Open (some (blk g)) w R := by
  have hlo := hq.lo
  have hfl := fillS_len (120 :: s)
  have hm0 := hq.many
  rcases hw with rfl | rfl
  · have hb := hq.wr0 hws hfl (fill_head s)
    refine ⟨⟨healD (wr1 d (0, fillS (120 :: s))), 0, .inr ⟨hb, rfl, rfl⟩, by decide, ?_, ?_⟩, fun h R hR => OpenDesk_bad h hb hR⟩
    · show d.many + 1 + 1 ≤ 1000; omega
    · rw [heal_len]; exact List.length_set
  · have hb := hq.wr hws hfl
    refine ⟨⟨_, seq, .inl ⟨hb, rfl⟩, by omega, ?_, List.length_set⟩, fun {w X g} h R hR => ?_⟩
    · show d.many + 1 ≤ 1000; omega
    · have e : homeAt (wr1 d (112, fillS (120 :: s))) 1 = fillS (120 :: s) := by
        show (d.l.set 112 _).getD 112 [] = _
        simp [show 112 < d.l.length by omega]
      exact OpenDesk_st (c := 1000) h hb (by omega) (by show d.many + 1 ≤ _; omega) (fun w' _ h' => hR w' h') fun k bs w' hi => absurd hi (by rw [show (((112 : Nat) : Int)) = 112 from rfl, e]; exact fill_room s bs)

set_option maxHeartbeats 4000000 in
theorem DeskSpoilt_st (h : St w X) {n at_ : Int} {s : Bs} {R : Bool → World → Prop} (hR : ∀ w', St w' X → R true w') : F.masonrylaw11_DeskSpoilt n at_ (tx s) w R := by
  apply E.masonrylaw11_DeskSpoilt
  unfold V.masonrylaw11_DeskSpoilt
  try simp (config := { zeta := false }) only [cnd_all, Nat.reduceAdd]
  refine ⟨fun b w' => St w' X ∧ (b = false → 140 ≤ n ∧ n ≤ 200 ∧ s.length ≤ 60), ⟨fun _ => ⟨h, fun h => by cases h⟩, fun h1 => ⟨fun _ => ⟨h, fun h => by cases h⟩, fun h2 => ⟨fun _ => ⟨h, fun h => by cases h⟩, fun h3 => alive11b_st h fun w1 hw1 => ⟨hw1, fun _ => ⟨by omega, by omega, by omega⟩⟩⟩⟩⟩, ?_⟩
  rintro b w1 ⟨h1, hb⟩
  refine ⟨fun _ => alive11b_st h1 hR, fun hbf => ?_⟩
  obtain ⟨n1, n2, hs⟩ := hb hbf
  obtain ⟨m, rfl⟩ : ∃ m : Nat, n = m := ⟨n.toNat, by omega⟩
  refine newdisk_st h1 (n := m) (by omega) (by omega) fun g w2 h2 => ⟨fun v w' => w' = w2 ∧ v = false, ⟨fun h => absurd rfl h, fun _ => ⟨rfl, rfl⟩⟩, ?_⟩
  rintro v w3 ⟨rfl, rfl⟩
  refine ⟨fun h => (by cases h), fun _ => ?_⟩
  have hq0 : Quiet (newD m) 0 := Quiet.new (by omega) (by omega)
  have hl0 : (newD m).l.length = m := List.length_replicate
  have hh0 : homeAt (newD m) 1 = zeroS := homeAt_new (by omega)
  refine OpenDesk_st (c := 1000) h2 hq0 (by omega) (by show (0 : Int) ≤ _; omega) (fun w4 _ h4 => ?_) fun k bs w' hi => absurd hi (by rw [hh0]; exact zero_room bs)
  refine FormatTo_st h4 (.inl ⟨hq0, rfl⟩) (by omega) (by show (0 : Int) ≤ _; omega) (by show (0 : Int) ≤ _; omega) fun k w5 h5 => ?_
  refine ⟨fun v w' => w' = w5 ∧ v = false, ⟨fun h => absurd rfl h, fun _ => ⟨fun h => absurd rfl h, fun _ => ⟨rfl, rfl⟩⟩⟩, ?_⟩
  rintro v w6 ⟨rfl, rfl⟩
  refine ⟨fun h => (by cases h), fun _ => ?_⟩
  replace h5 := DeskS.disk h5
  have hE0 := fmt_lastE hq0
  obtain ⟨q1, q2, q3, q4⟩ := commit_facts hq0 (by decide) (by decide) hE0
  have hws := commit_ws (newD m) 0 (fmtW ((newD m).l.length - 111))
  have hk2 := fmt_len2 ((newD m).l.length - 111)
  have h5 : St w6 (DskS g (commitD (newD m) 0 (fmtW ((newD m).l.length - 111))) :: X) := h5
  generalize commitD (newD m) 0 (fmtW ((newD m).l.length - 111)) = d1 at *
  rw [hl0] at q2
  have hm1 : d1.many ≤ 100 := by rw [q3]; show (0 : Int) + _ + 2 ≤ 100; omega
  have hm10 := q1.many
  refine ⟨fun v w' => w' = w6 ∧ ∃ wh : Nat, v = wh ∧ (wh = 0 ∨ wh = 112), ⟨fun _ => ⟨rfl, 0, rfl, .inl rfl⟩, fun _ => ⟨rfl, 112, rfl, .inr rfl⟩⟩, ?_⟩
  rintro v w7 ⟨rfl, wh, rfl, hwh⟩
  refine ⟨by have h1 : str_x.size = 1 := rfl; rw [h1, tx_size]; omega, ?_⟩
  have ex : str_x ++ tx s = tx (120 :: s) := tx_app [120] s
  rw [ex]
  refine Fill_st h5 (by rw [List.length_cons]; omega) fun w8 h8 => ?_
  intro wa1
  replace h8 : St wa1 (Cs _ _ _ :: _) := h8.new _ _
  clear_value wa1
  obtain ⟨⟨d2, seq2, ho2, hs2, hm2, hl2⟩, hopen⟩ := spoil q1 hws (by decide) hm1 s hwh
  have hfl := fillS_len (120 :: s)
  refine WriteD_st (xs := [((wh : Int), fillS (120 :: s))]) h8.sw rfl q1.off (fun x hx => ?_) hm10 (by simp; omega) (by rw [hws]; simp) fun w9 h9 => ⟨fun h => absurd rfl h, fun _ => ?_⟩
  · simp only [List.mem_cons, List.not_mem_nil, or_false] at hx
    subst hx
    exact ⟨by show (0 : Int) ≤ wh; omega, by show (wh : Int) < _; omega, hfl⟩
  have h9 : St w9 (DskS g (wr1 d1 ((wh : Int), fillS (120 :: s))) :: X) := h9.d2
  refine hopen h9 fun w10 h10 => ⟨fun v w' => w' = w10 ∧ v = false, ⟨fun h => (by cases h), fun _ => ⟨rfl, rfl⟩⟩, ?_⟩
  rintro v w11 ⟨rfl, rfl⟩
  refine ⟨fun h => (by cases h), fun _ => ?_⟩
  refine FormatTo_st h10 ho2 hs2 (by show d1.many + 1 ≤ _; omega) hm2 fun k2 w12 h12 => ?_
  have hq2 := ho2.quiet
  have hok := DeskS.ok h12
  have hrm := fmt_room hq2 ⟨hs2.1, by omega⟩
  replace h12 := DeskS.disk h12
  rw [hl2, q2] at hok hrm h12
  generalize hD : fmtD d2 seq2 (m - 111) = D at *
  have hbs := bs0_len (m - 111)
  have hlen := hok.len
  have hDb : D.bs = bs0 (m - 111) := by rw [← hD]; rfl
  refine OpenDesk_st (c := 1001) h12 hok.q hok.seq (by have := hok.many; omega) (fun w13 hno _ => False.elim ?_) fun k3 bs w13 hi hbl h13 => ?_
  · refine hno (bs0 (m - 111)) ⟨hrm.symm, by omega, by omega⟩ (by rw [← hlen, hDb]) ?_ ?_
    · have := hok.u0
      rw [hDb] at this
      unfold usedB
      rw [decide_eq_true (by omega), decide_eq_true (by omega)]
      exact this
    · have := hok.u1
      rw [hDb] at this
      unfold usedB
      rw [decide_eq_true (by omega), decide_eq_true (by omega)]
      exact this
  obtain rfl : bs = bs0 (m - 111) := hi.inj ⟨hrm.symm, by omega, by omega⟩
  obtain ⟨u, hu⟩ := DeskS.wal h13
  refine ⟨fun v w' => v = false ∧ St w' (DeskS k3 g 1001 (OpenD D.d D.seq (bs0 (m - 111))) :: X), ⟨fun h => absurd rfl h, fun _ => ⟨fun h => (by cases h), fun _ => ⟨fun h => absurd rfl h, fun _ => ⟨fun h => (by cases h), fun _ => ⟨blk k3, rfl, some (blk u), hu, fun h => (by cases h), fun _ => ?_⟩⟩⟩⟩⟩, ?_⟩
  · refine Dirty_st h13 (by decide) fun l w14 h14 => ⟨?_, h14.drop⟩
    have hl := (h14.has (by decide)).1
    rw [open_clean hrm] at hl
    have hl : l.len = 0 := hl
    rw [hl]; rfl
  rintro v w14 ⟨rfl, h14⟩
  refine ⟨fun h => (by cases h), fun _ => ?_⟩
  refine GetD_none (NewD_none (OpenDesk_none ?_))
  refine Room_st h14 fun r w15 h15 => ⟨fun _ => ?_, fun h => (by cases h)⟩
  refine All_st h15 (by show (bs0 _).length ≤ _; omega) fun l w16 h16 => ?_
  have ea : allL (OpenD D.d D.seq (bs0 (m - 111))).bs (OpenD D.d D.seq (bs0 (m - 111))).bs.length = [0, 1] := by
    show allL (bs0 (m - 111)) (bs0 (m - 111)).length = _
    rw [hbs]; exact all_bs0 (by omega)
  rw [ea] at h16
  intro wa2
  replace h16 : St wa2 (Cs _ _ _ :: _) := h16.new _ _
  clear_value wa2
  refine SameI_st h16 (fun w' hw => hw.drop.has (by decide)) (fun w' hw => hw.lit (xs := [0, 1]) rfl rfl 2) (by decide) fun w17 h17 => ?_
  rw [decide_eq_true rfl]
  refine ⟨fun _ => ⟨fun _ => ⟨fun _ => SetD_none ⟨fun _ => ?_, fun h => absurd rfl h⟩, fun h => absurd rfl h⟩, fun h => absurd rfl h⟩, fun h => (by cases h)⟩
  replace h17 := h17.d2.d2.d2
  intro wa3
  replace h17 : St wa3 (Cs _ _ _ :: _) := h17.new _ _
  clear_value wa3
  refine DropD_none ⟨fun _ => ?_, fun h => absurd rfl h⟩
  intro wa4
  replace h17 : St wa4 (Cs _ _ _ :: _) := h17.new _ _
  clear_value wa4
  refine KeepD_none ⟨fun _ => SyncD_none ⟨fun _ => DirtyD_none ⟨fun _ => RoomD_none ⟨fun _ => ⟨fun _ => ?_, fun h => (by cases h)⟩, fun h => (by cases h)⟩, fun h => absurd rfl h⟩, fun h => absurd rfl h⟩, fun h => absurd rfl h⟩
  exact hR _ h17.drop.drop.drop
theorem DeskSpoilt_spec {n at_ : Int} {s : Bs} {R : Bool → World → Prop} (hR : ∀ w', Below w.heap.size w w' → R true w') : F.masonrylaw11_DeskSpoilt n at_ (tx s) w R :=
  DeskSpoilt_st (St.start w) fun w' h => hR w' (St.old h)
end
end Go.Proofs.YtmokmbhhnbcelaaGreatDoor
