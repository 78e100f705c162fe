/- masonrylaw9: many, alive; WalAll. -/
import Derived.Test.YtepclihkniaieaaGreatDoorWg
set_option linter.unusedVariables false
namespace Go.Proofs.YtepclihkniaieaaGreatDoor
open Go Go.Vc Go.RowKit Go.Lib Go.Maps Go.Proofs

def manyW (n i m : Nat) : List Wr1 := (List.range m).map fun (j : Nat) => ((n : Int) - 1 - (j : Int), roundS i)
theorem manyW_len (n i m : Nat) : (manyW n i m).length = m := by simp [manyW]
theorem manyW_succ (n i m : Nat) : manyW n i (m + 1) = manyW n i m ++ [((n : Int) - 1 - (m : Int), roundS i)] := by simp [manyW, List.range_succ]
theorem manyW_mem {n i m : Nat} {x : Wr1} (h : x ∈ manyW n i m) : ∃ j : Nat, j < m ∧ x = ((n : Int) - 1 - (j : Int), roundS i) := by
  simp only [manyW, List.mem_map, List.mem_range] at h
  obtain ⟨j, hj, rfl⟩ := h
  exact ⟨j, hj, rfl⟩
theorem manyW_ok {n i : Nat} {d : Ds} (hn : n ≤ 60) (hd : d.l.length = 200) : lastE (sizeD d) (manyW n i n) = 0 := by
  have hsz : sizeD d = (d.l.length : Int) - 111 := rfl
  have e : (manyW n i n).find? (fun x => decide (badW (sizeD d) x ≠ 0)) = none := by
    rw [List.find?_eq_none]
    intro x hx
    obtain ⟨j, hj, rfl⟩ := manyW_mem hx
    have : badW (sizeD d) ((n : Int) - 1 - (j : Int), roundS i) = 0 := by
      unfold badW
      rw [if_neg (by show ¬ ((n : Int) - 1 - (j : Int) < 0 ∨ _); omega), if_neg (by show ¬ (roundS i).length ≠ 256; rw [roundS_len]; simp)]
    simp [this]
  unfold lastE
  rw [e]
  simp only
  rw [if_neg]
  have h1 := nextT_len (keysW (manyW n i n))
  have h2 : (keysW (manyW n i n)).length = n := by simp [keysW, manyW_len]
  omega
theorem manyW_get {n i : Nat} {hs : List Bs} (hl : n ≤ hs.length) {k : Nat} (hk : k < n) : (setAll hs (manyW n i n)).getD k [] = roundS i := by
  have hm : (k : Int) ∈ keysW (manyW n i n) := by
    simp only [keysW, manyW, List.map_map, List.mem_map, List.mem_range]
    exact ⟨n - 1 - k, by omega, by show (n : Int) - 1 - ((n - 1 - k : Nat) : Int) = k; omega⟩
  rw [setAll_get _ _ _ (fun x hx => by obtain ⟨j, hj, rfl⟩ := manyW_mem hx; show (0 : Int) ≤ (n : Int) - 1 - j; omega) (by omega), if_pos hm]
  obtain ⟨j, hj, e⟩ := manyW_mem (lastW_mem _ _ hm)
  exact (Prod.ext_iff.1 e).2

section
variable {w w' : World} {X : List As} {u g : Nat} {d : Ds} {s : WlS}
theorem many_st (h : St w X) {n i : Nat} (hn : 1 ≤ n ∧ n ≤ 60) (hi : i < 100) {R : Sl → World → Prop} (hR : ∀ l w', St w' (Row EW T.y_api_Write l (manyW n i n) :: X) → R l w') : F.masonrylaw9_many (n : Int) (i : Int) w R := by
  apply E.masonrylaw9_many
  unfold V.masonrylaw9_many
  try simp (config := { zeta := false }) only [cnd_all, Nat.reduceAdd]
  have e0 : w64 ((n : Int) - 1) = (n : Int) - 1 - ((0 : Nat) : Int) := by rw [w64_id (by omega) (by omega)]; omega
  rw [e0]
  refine ⟨fun l k w' => ∃ m : Nat, k = (n : Int) - 1 - (m : Int) ∧ m ≤ n ∧ St w' (Row EW T.y_api_Write l (manyW n i m) :: X), fun _ k _ => (k + 1).toNat, ⟨0, rfl, Nat.zero_le _, h.row0 EW T.y_api_Write⟩, ?_⟩
  rintro l _ w1 ⟨m, rfl, hm, h1⟩
  refine ⟨fun hlt => ?_, fun hge => ?_⟩
  · have hlt : m < n := by omega
    refine round_st h1 hi fun w2 h2 => ?_
    intro wa1
    replace h2 : St wa1 (Cs _ _ _ :: _) := h2.new _ _
    clear_value wa1
    refine St.app elt_wr h2.sw (sl := ⟨some (blk w2.heap.size), 1, 1⟩) (ys := [((n : Int) - 1 - (m : Int), roundS i)]) (h2.lit (xs := [((n : Int) - 1 - (m : Int), roundS i)]) rfl rfl 1) rfl (by simp [manyW_len]; omega) (by simp [manyW_len]; omega) fun l2 w3 h3 hl3 => ?_
    have h4 := h3.d2
    rw [← manyW_succ] at h4
    have e1 : w64 ((n : Int) - 1 - (m : Int) - 1) = (n : Int) - 1 - ((m + 1 : Nat) : Int) := by rw [w64_id (by omega) (by omega)]; omega
    rw [e1]
    exact ⟨⟨m + 1, rfl, hlt, h4⟩, by show ((n : Int) - 1 - ((m + 1 : Nat) : Int) + 1).toNat < ((n : Int) - 1 - (m : Int) + 1).toNat; omega⟩
  · have hmm : m = n := by omega
    subst hmm
    exact hR l w1 h1

theorem newD_hd (n : Nat) (h : 1 ≤ n) : (newD n).l.length = n := by simp [newD]
theorem two_ok {n : Int} {x y : Bs} (hx : x.length = 256) (hy : y.length = 256) (hn : 5 < n) : lastE n [(0, x), (5, y)] = 0 := by
  have b : ∀ (a : Int) (z : Bs), 0 ≤ a ∧ a < n → z.length = 256 → badW n (a, z) = 0 := fun a z ha hz => by
    unfold badW
    rw [if_neg (by show ¬ (a < 0 ∨ n ≤ a); omega), if_neg (by show ¬ z.length ≠ 256; simp [hz])]
  unfold lastE
  simp only [List.find?_cons, List.find?_nil, b 0 x (by omega) hx, b 5 y (by omega) hy]
  have h1 := nextT_len (keysW [(0, x), (5, y)])
  have h2 : (keysW [((0 : Int), x), (5, y)]).length = 2 := rfl
  simp only [ne_eq, not_true_eq_false, decide_false]
  rw [if_neg]; omega

set_option maxHeartbeats 1000000 in
theorem alive9_st (h : St w X) {R : Bool → World → Prop} (hR : ∀ w', St w' X → R true w') : F.masonrylaw9_alive w R := by
  apply E.masonrylaw9_alive
  unfold V.masonrylaw9_alive
  try simp (config := { zeta := false }) only [cnd_all, Nat.reduceAdd]
  have hq0 : Quiet (newD 150) 0 := Quiet.new (by decide) (by decide)
  have hl0 := newD_hd 150 (by decide)
  refine newdisk_st h (n := 150) (by decide) (by decide) fun g w1 h1 => ?_
  generalize hd : newD 150 = d at *
  have hm0 : d.many = 0 ∧ d.armed = false := by rw [← hd]; exact ⟨rfl, rfl⟩
  have hO := hq0.opn (Int.le_refl _)
  have hhd := hq0.hd
  refine Open_q h1 hq0.off hO.ws hO.safe hO.snd (by decide) (by omega) (fun u d1 w2 q1 q2 q3 q4 q5 h2 => ?_) fun ha => by rw [hm0.2] at ha; cases ha
  rw [hhd] at q1 h2
  refine ⟨fun b w' => b = false ∧ w' = w2, ⟨fun h => absurd rfl h, fun _ => ⟨fun h => absurd rfl h, fun _ => ⟨rfl, rfl⟩⟩⟩, ?_⟩
  rintro _ _ ⟨rfl, rfl⟩
  refine ⟨fun h => (by cases h), fun _ => fill_st (t := [97]) h2 (by decide) fun w3 h3 => fill_st (t := [98]) h3 (by decide) fun w4 h4 => ?_⟩
  have hx := fillS_len [97]
  have hy := fillS_len [98]
  generalize fillS [97] = x at *
  generalize fillS [98] = y at *
  intro wa1
  replace h4 : St wa1 (Cs _ _ _ :: _) := h4.new _ _
  clear_value wa1
  have hE := two_ok (n := sizeD d1) hx hy (by show (5 : Int) < (d1.l.length : Int) - 111; omega)
  have hq1 := q1.many
  have h4 := h4.up2.up2
  refine Commit_q h4 q1 (ws := [(0, x), (5, y)]) (fun w' hw => hw.lit (xs := [((0 : Int), x), (5, y)]) rfl rfl 2) (by simp) (by decide) (by decide) (by decide) (by omega) (fun w' hne => absurd hE hne) (fun d2 w5 _ r1 r2 r3 r4 r5 h5 => ?_) (fun _ _ ha => by rw [q5, hm0.2] at ha; cases ha)
  simp only [if_neg (show ¬ [((0 : Int), x), (5, y)] = [] by simp)] at r1 h5
  have hO2 := r1.opn (by decide)
  have hhd2 := r1.hd
  refine Open_q h5.sw r1.off hO2.ws hO2.safe hO2.snd (by decide) ⟨hO2.m0, by omega⟩ (fun v d3 w6 s1 s2 s3 s4 s5 h6 => ?_) fun ha => by rw [r5, q5, hm0.2] at ha; cases ha
  rw [hhd2] at s1 h6
  refine ⟨fun b w' => b = false ∧ w' = w6, ⟨fun h => absurd rfl h, fun _ => ⟨fun h => absurd rfl h, fun _ => ⟨rfl, rfl⟩⟩⟩, ?_⟩
  rintro _ _ ⟨rfl, rfl⟩
  have hhl := homeL_len d.l
  have hy5 : (homeL d3.l).getD 5 [] = y := by
    rw [s3, r3, q3, setAll_get _ _ _ (fun x hx => by simp at hx; rcases hx with rfl | rfl <;> simp) (by omega), if_pos (by simp [keysW])]
    simp [lastW]
  have hln : (homeL d3.l).length = 39 := by rw [s3, r3, setAll_len, q3, hhl]; omega
  refine ⟨fun h => (by cases h), fun _ => Read_q h6 rfl s1 (by decide) (fun _ _ => ⟨fun _ => ⟨fun _ => ?_, fun hne => ?_⟩, fun h => absurd rfl h⟩) fun hr => absurd ⟨by decide, by omega⟩ hr⟩
  · refine Seq_st h6 ⟨fun _ => SizeW_st h6 ?_, fun h => absurd rfl h⟩
    have hsz : sizeD d3 = 39 := by show (d3.l.length : Int) - 111 = 39; omega
    rw [hsz]
    exact ⟨fun _ => Commits_st h6.up2 ⟨fun _ => Up_st h6.up2 (hR _ h6.drop.drop.drop.drop), fun h => absurd rfl h⟩, fun h => absurd rfl h⟩
  · rw [show (5 : Int).toNat = 5 from rfl, hy5, tx_eq] at hne
    simp at hne
end
end Go.Proofs.YtepclihkniaieaaGreatDoor
