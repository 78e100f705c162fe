/- WalAll: the walk. -/
import Derived.Test.YtepclihkniaieaaGreatDoorWh
set_option linter.unusedVariables false
namespace Go.Proofs.YtepclihkniaieaaGreatDoor
open Go Go.Vc Go.RowKit Go.Lib Go.Maps Go.Proofs

/-- what the first n sectors are behind m times -/
def curS (m : Nat) : Bs := if m = 0 then zeroS else roundS (m - 1)
def FirstN (n : Nat) (hs : List Bs) (v : Bs) : Prop := ∀ k, k < n → hs.getD k [] = v

theorem zeros256 {w : World} {X : List As} (h : St w X) {R : ByteArray → World → Prop} (hR : ∀ w', St w' X → R (tx zeroS) w') :
    RunT Pg (Instr.makeSlice T.y_sl_uint8 (.int .i64 256) (.int .i64 256)) [.one .slice] w (fun (l : Sl) (w_ : World) => RunT Pg (convert T.y_sl_uint8 T.y_string (.slice l.a l.len l.cap)) [.one .str] w_ R) := by
  obtain ⟨i, hi, hz, hs1, hby⟩ := info_byte
  refine runT_make (n := 256) und_bytes hi hz hs1 (by rw [hby]; decide) (by decide) fun w2 hO2 hF2 hs2 => ?_
  have hmk : (madeCells (Value.int .u8 0).cells (256 * 1)).toList = bv zeroS := by
    have h := toList_madeCells_one (Value.int .u8 0) (256 * 1)
    rw [show (Value.int IntKind.u8 0).cells = #[Value.int .u8 0] from rfl, h]
    unfold bv zeroS
    rw [List.map_replicate]
    rfl
  rw [hmk] at hO2
  exact runT_bytes_str und_bytes und_byte und_str (l := ⟨some (blk w.heap.size), 256, 256⟩) hO2 (hR w2 (h.fr hF2))

section
variable {w w' : World} {X : List As} {u g : Nat} {d : Ds} {s : WlS}
set_option maxHeartbeats 4000000 in
theorem WalAll_st (h : St w X) {n times arm : Int} {kl : Sl} {ks : List Int} (hk : ∀ w', St w' X → Ints w' kl ks) {R : Bool → World → Prop} (hR : ∀ w', St w' X → R true w') : F.masonrylaw9_WalAll n times arm kl w R := by
  apply E.masonrylaw9_WalAll
  unfold V.masonrylaw9_WalAll
  try simp (config := { zeta := false }) only [cnd_all, Nat.reduceAdd]
  have hkl := (hk w h).1
  refine ⟨fun b w' => St w' X ∧ (b = false → 1 ≤ n ∧ n ≤ 60 ∧ 0 ≤ times ∧ times ≤ 4 ∧ 0 ≤ arm ∧ arm ≤ 300 ∧ kl.len ≤ 200), ?_, ?_⟩
  · refine ⟨fun _ => ⟨h, fun h => (by cases h)⟩, fun h1 => ⟨fun _ => ⟨h, fun h => (by cases h)⟩, fun h2 => ⟨fun _ => ⟨h, fun h => (by cases h)⟩, fun h3 => ⟨fun _ => ⟨h, fun h => (by cases h)⟩, fun h4 => ⟨fun _ => ⟨h, fun h => (by cases h)⟩, fun h5 => ⟨fun _ => ⟨h, fun h => (by cases h)⟩, fun h6 => ⟨fun _ => ⟨h, fun h => (by cases h)⟩, fun h7 => alive9_st h fun w' h' => ⟨h', fun _ => by omega⟩⟩⟩⟩⟩⟩⟩⟩
  rintro b1 w1 ⟨h1, hb⟩
  refine ⟨fun _ => alive9_st h1 hR, fun hb1 => ?_⟩
  obtain ⟨hn1, hn2, ht1, ht2, ha1, ha2, hkn⟩ := hb hb1
  obtain ⟨n, rfl⟩ := Int.eq_ofNat_of_zero_le (show 0 ≤ n by omega)
  obtain ⟨times, rfl⟩ := Int.eq_ofNat_of_zero_le ht1
  have hq0 : Quiet (newD 200) 0 := Quiet.new (by decide) (by decide)
  have hl0 := newD_hd 200 (by decide)
  refine newdisk_st h1 (n := 200) (by decide) (by decide) fun g w2 h2 => ?_
  have hz0 : FirstN n (homeL (newD 200).l) (curS 0) := fun k hk => by
    rw [hq0.home (by decide), homeAt_new (by omega)]; rfl
  generalize hd : newD 200 = d0 at *
  have hm0 : d0.many = 0 ∧ d0.armed = false := by rw [← hd]; exact ⟨rfl, rfl⟩
  refine ⟨fun b w' => b = false ∧ w' = w2, ⟨fun h => absurd rfl h, fun _ => ⟨rfl, rfl⟩⟩, ?_⟩
  rintro _ _ ⟨rfl, rfl⟩
  have hO := hq0.opn (Int.le_refl _)
  have hhd := hq0.hd
  refine ⟨fun h => (by cases h), fun _ => Open_q h2 hq0.off hO.ws hO.safe hO.snd (by decide) (by omega) (fun u d1 w3 q1 q2 q3 q4 q5 h3 => ?_) fun ha => by rw [hm0.2] at ha; cases ha⟩
  rw [hhd] at q1 h3
  refine ⟨fun b w' => b = false ∧ w' = w3, ⟨fun h => absurd rfl h, fun _ => ⟨rfl, rfl⟩⟩, ?_⟩
  rintro _ _ ⟨rfl, rfl⟩
  refine ⟨fun h => (by cases h), fun _ => ?_⟩
  refine ⟨fun i w' => ∃ m : Nat, i = m ∧ m ≤ times ∧ ∃ d : Ds, St w' (WalS u g ⟨(m : Int), false, (m : Int)⟩ :: DskS g d :: X) ∧ Quiet d (m : Int) ∧ d.l.length = 200 ∧ FirstN n (homeL d.l) (curS m) ∧ d.many ≤ 300 * ((m : Int) + 1) ∧ d.armed = false, fun i _ => ((times : Int) - i).toNat, ⟨0, rfl, Nat.zero_le _, d1, h3, q1, by omega, by rw [q3]; exact hz0, by omega, by rw [q5]; exact hm0.2⟩, ?_⟩
  rintro _ w4 ⟨m, rfl, hm, d, h4, r1, r2, r3, r4, r5⟩
  have hr0 := r1.many
  have hhl := homeL_len d.l
  refine ⟨fun hlt => ?_, fun hge => ?_⟩
  · have hlt : m < times := by omega
    refine many_st h4 ⟨by omega, by omega⟩ (by omega) fun l w5 h5 => ?_
    have hE := manyW_ok (n := n) (i := m) (d := d) (by omega) r2
    have h5 := h5.up2.up2
    refine Commit_q h5 r1 (fun w' hw => hw.has (by decide)) (by rw [manyW_len]; omega) (by omega) (by omega) (by omega) (by omega) (fun w' hne => absurd hE hne) (fun d2 w6 _ s1 s2 s3 s4 s5 h6 => ?_) fun _ _ ha => by rw [r5] at ha; cases ha
    have hne : manyW n m n ≠ [] := fun e => by have := manyW_len n m n; rw [e] at this; simp at this; omega
    simp only [if_neg hne] at s1 h6
    refine ⟨fun h => absurd rfl h, fun _ => ?_⟩
    rw [w64_succ (by omega)]
    refine ⟨⟨m + 1, rfl, hlt, d2, ?_, ?_, by omega, fun k hk => ?_, by omega, by rw [s5]; exact r5⟩, by show ((times : Int) - ((m + 1 : Nat) : Int)).toNat < ((times : Int) - (m : Int)).toNat; omega⟩
    · exact h6.d3
    · exact s1
    · rw [s3, manyW_get (by omega) hk]; rfl
  have hmm : m = times := by omega
  subst hmm
  refine Arm_st h4.sw (hk _ h4.drop.drop) (by omega) fun w5 h5 => ?_
  rw [decide_eq_true ha1] at h5
  refine many_st h5 ⟨by omega, by omega⟩ (by omega) fun l w6 h6 => ?_
  have h6 := h6.up2.up2.sw
  have hqa : Quiet { d with armed := true } (m : Int) := ⟨r1.off, r1.safe, r1.ws, r1.lo, r1.hi, r1.head, r1.hlen, r1.many, r1.secs⟩
  generalize hda : ({ d with armed := true } : Ds) = da at *
  have hdl : da.l = d.l ∧ da.many = d.many := by rw [← hda]; exact ⟨rfl, rfl⟩
  have hdl1 : da.l.length = 200 := by rw [hdl.1]; exact r2
  have hdm := hdl.2
  have hE := manyW_ok (n := n) (i := m) (d := da) (by omega) (by rw [hdl.1]; exact r2)
  have hne : manyW n m n ≠ [] := fun e => by have := manyW_len n m n; rw [e] at this; simp at this; omega
  refine F.wal_Wal_Commit_mono (R := fun n4 w' => ∃ dy : Ds, St w' (DskS g dy :: X) ∧ dy.l.length = 200 ∧ 0 ≤ dy.many ∧ dy.many < 100000 ∧ Opn dy ((m : Int) + 1) ∧
    ((n4 = 0 ∧ dy.off = false ∧ FirstN n (homeL dy.l) (roundS m)) ∨ (n4 = 14 ∧ dy.off = true ∧ dy.armed = false ∧ (FirstN n (homeL dy.l) (roundS m) ∨ FirstN n (homeL dy.l) (curS m))))) ?_ ?_
  · refine Commit_q h6 hqa (fun w' hw => hw.has (by decide)) (by rw [manyW_len]; omega) (by omega) (by omega) (by omega) (by omega) (fun w' hne => absurd hE hne) (fun d2 w7 _ s1 s2 s3 s4 s5 h7 => ?_) fun _ _ _ seq' l' many w7 s1 s2 s3 s4 h7 => ?_
    · simp only [if_neg hne] at s1
      exact ⟨d2, h7.drop.d2, by omega, s1.many, by omega, s1.opn (by omega), .inl ⟨rfl, s1.off, fun k hk => by rw [s3, manyW_get (by rw [hdl.1]; omega) hk]⟩⟩
    · refine ⟨offD l' many, h7.drop.d2, by show l'.length = 200; omega, s4.1, by show many < 100000; omega, ⟨s1, rfl, rfl, s4.1⟩, .inr ⟨rfl, rfl, rfl, ?_⟩⟩
      rcases s3 with s3 | s3
      · exact .inr fun k hk => by show (homeL l').getD k [] = _; rw [s3, hdl.1]; exact r3 k hk
      · exact .inl fun k hk => by show (homeL l').getD k [] = _; rw [s3, manyW_get (by rw [hdl.1]; omega) hk]
  rintro n4 w7 ⟨dy, h7, y1, y2, y3, y4, y5⟩
  refine F.disk_Disk_Crash_mono (R := fun _ w' => ∃ dz : Ds, St w' (DskS g dz :: X) ∧ dz.l.length = 200 ∧ dz.many < 100000 ∧ dz.armed = false ∧ Opn dz ((m : Int) + 1) ∧ (FirstN n (homeL dz.l) (roundS m) ∨ n4 ≠ 0 ∧ FirstN n (homeL dz.l) (curS m))) ?_ ?_
  · rcases y5 with ⟨e, y6, y7⟩ | ⟨e, y6, y7, y8⟩
    · refine Crash_st h7 y6 hk fun k ys w8 hys h8 => ?_
      rw [y4.ws] at hys
      have := List.sublist_nil.1 hys
      subst this
      refine ⟨_, h8, ?_, y3, rfl, ⟨?_, rfl, rfl, y2⟩, .inl ?_⟩
      · show (setAll dy.safe []).length = 200
        rw [y4.safe]; exact y1
      · show Snd (setAll dy.safe []) _
        rw [y4.safe]; exact y4.snd
      · show FirstN n (homeL (setAll dy.safe [])) _
        rw [y4.safe]; exact y7
    · refine Crash_off h7 y6 ⟨dy, h7, y1, y3, y7, y4, ?_⟩
      rcases y8 with y8 | y8
      · exact .inl y8
      · exact .inr ⟨by omega, y8⟩
  rintro n5 w8 ⟨dz, h8, z1, z2, z3, z4, z5⟩
  refine again_st h8 z3 z4 (by omega) (by omega) fun u2 d3 w9 s1 s2 s3 s4 s5 h9 => ⟨fun h => (by cases h), fun _ => ?_⟩
  have hs0 := (z4.snd.seq).1
  have hhl3 := homeL_len d3.l
  have hz9 : FirstN n (homeL d3.l) (roundS m) ∨ n4 ≠ 0 ∧ FirstN n (homeL d3.l) (curS m) := by rw [s3]; exact z5
  refine Read_q h9 rfl s1 hs0 (fun _ _ => ⟨fun h => absurd rfl h, fun _ => ?_⟩) fun hr => absurd ⟨by omega, by omega⟩ hr
  have hsame : ∀ k, k < n → (homeL d3.l).getD k [] = (homeL d3.l).getD 0 [] := fun k hk => by
    rcases hz9 with hz | ⟨_, hz⟩
    · rw [hz k hk, hz 0 (by omega)]
    · rw [hz k hk, hz 0 (by omega)]
  have hv : (homeL d3.l).getD 0 [] = roundS m ∨ n4 ≠ 0 ∧ (homeL d3.l).getD 0 [] = curS m := by
    rcases hz9 with hz | ⟨ha, hz⟩
    · exact .inl (hz 0 (by omega))
    · exact .inr ⟨ha, hz 0 (by omega)⟩
  rw [show (0 : Int).toNat = 0 from rfl]
  generalize hv0 : (homeL d3.l).getD 0 [] = v at *
  refine ⟨fun i w' => w' = w9 ∧ 1 ≤ i ∧ i ≤ n, fun i _ => ((n : Int) - i).toNat, ⟨rfl, Int.le_refl _, by omega⟩, ?_⟩
  rintro i w10 ⟨rfl, hi1, hi2⟩
  refine ⟨fun hlt => ?_, fun _ => ?_⟩
  · refine Read_q h9 rfl s1 hs0 (fun _ _ => ⟨fun h => absurd rfl h, fun _ => ?_⟩) fun hr => absurd ⟨by omega, by omega⟩ hr
    rw [hsame i.toNat (by omega), tx_eq]
    refine ⟨fun h => by simp at h, fun _ => ?_⟩
    rw [show w64 (i + 1) = i + 1 from w64_id (by omega) (by omega)]
    exact ⟨⟨rfl, by omega, by omega⟩, by show ((n : Int) - (i + 1)).toNat < ((n : Int) - i).toNat; omega⟩
  refine zeros256 h9 fun w11 h11 => ?_
  have fin : ∀ (x : Bs) (w' : World), St w' X → (m = 0 → x = zeroS) → (0 < m → x = roundS (m - 1)) → ((sEq (tx v) (tx (roundS m)) = true → R true w') ∧ (sEq (tx v) (tx (roundS m)) = false → (¬n4 = 0 → R (sEq (tx v) (tx x)) w') ∧ (n4 = 0 → R false w'))) := fun x w' hX h0 h1 => by
    refine ⟨fun _ => hR w' hX, fun hne => ?_⟩
    rw [tx_eq] at hne
    have hne : v ≠ roundS m := by simpa using hne
    rcases hv with hv | ⟨ha, hv⟩
    · exact absurd hv hne
    · refine ⟨fun _ => ?_, fun h => absurd h ha⟩
      have : v = x := by
        rw [hv]
        unfold curS
        by_cases hm0 : m = 0
        · rw [if_pos hm0, h0 hm0]
        · rw [if_neg hm0, h1 (by omega)]
      rw [tx_eq, decide_eq_true this]; exact hR w' hX
  refine ⟨fun hpos => ?_, fun hz => ?_⟩
  · have e1 : w64 ((m : Int) - 1) = ((m - 1 : Nat) : Int) := by rw [w64_id (by omega) (by omega)]; omega
    rw [e1]
    exact round_st h11.drop.drop (i := m - 1) (by omega) fun w12 h12 => round_st h12 (i := m) (by omega) fun w13 h13 => fin _ w13 h13 (fun h => by omega) fun _ => rfl
  · exact round_st h11.drop.drop (i := m) (by omega) fun w12 h12 => fin _ w12 h12 (fun _ => rfl) fun h => by omega
end
theorem WalAll_spec {w : World} {n times arm : Int} {keep : Sl} {keepZ : List Int} (hkeep : Ints w keep keepZ) {R : Bool → World → Prop} (hR : ∀ w', Below w.heap.size w w' → R true w') : F.masonrylaw9_WalAll n times arm keep w R :=
  WalAll_st (St.start w) (fun w' h => hkeep.below (St.old h)) fun w' h => hR w' (St.old h)
end Go.Proofs.YtepclihkniaieaaGreatDoor
