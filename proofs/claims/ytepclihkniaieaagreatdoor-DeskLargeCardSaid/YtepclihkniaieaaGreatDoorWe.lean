/- WalCosts: the walk. -/
import Derived.Test.YtepclihkniaieaaGreatDoorWd
set_option linter.unusedVariables false
namespace Go.Proofs.YtepclihkniaieaaGreatDoor
open Go Go.Vc Go.RowKit Go.Lib Go.Maps Go.Proofs

theorem und_bool' : Pg.underlying T.y_bool = some .bool := by kernel_rfl
theorem und_mib : Pg.underlying T.y_map_int_bool = some (.map T.y_int T.y_bool) := by kernel_rfl

/-- block b is a map that has these numbers -/
def SetOf (w : World) (b : Nat) (ks : List Int) : Prop :=
  ∃ (D : DataW Unit) (n : Nat), w.ownsMap Pg T.y_int (plainElem (H := Unit) Pg T.y_bool) b n D ∧ n ≤ ks.length ∧ ∀ x : Int, Maps.has D (.int .i64 x) = true ↔ x ∈ ks

theorem SetOf.made (w : World) : SetOf (w.alloc (.map #[] 0)) w.heap.size [] :=
  ⟨.map [], 0, World.ownsMap_made w Pg T.y_int _, Nat.le_refl _, fun x => by simp [Maps.has_eq]⟩
theorem SetOf.lt {w : World} {b : Nat} {ks : List Int} (h : SetOf w b ks) : b < w.heap.size := by obtain ⟨D, n, ho, _⟩ := h; exact ho.lt
theorem SetOf.keep {w w' : World} {b : Nat} {ks : List Int} (h : SetOf w b ks) {Z : Nat → Prop} (hf : Fr Z w w') (hz : ¬ Z b) : SetOf w' b ks := by
  obtain ⟨D, n, ⟨es, clock, hb, r⟩, h2⟩ := h
  exact ⟨D, n, ⟨es, clock, hf.heap hb hz, r⟩, h2⟩
theorem SetOf.put {w : World} {b : Nat} {ks : List Int} (h : SetOf w b ks) (hl : ks.length ≤ 1000000) {x : Int} (hx : -9223372036854775808 ≤ x ∧ x < 9223372036854775808) {R : World → Prop}
    (hR : ∀ w', SetOf w' b (ks ++ [x]) → Fr (· = b) w w' → R w') : RunU Pg (Instr.mapUpdate T.y_map_int_bool (.map (some b)) (.int .i64 x) (.bool true)) w R := by
  obtain ⟨D, n, ho, hn, hh⟩ := h
  obtain ⟨w', hrun, ho', hg⟩ := ho.update Kint und_mib (by simp only [maxLen]; omega) (keyOf_int_mk und_int' (intWf hx)) (plainElem_bool und_bool' true)
  have hm := ho.isMap
  refine ⟨w', hrun, hR w' ⟨_, n + 1, ho', by simp only [List.length_append, List.length_cons, List.length_nil]; omega, fun y => ?_⟩ (Fr.grown (S := (· = b)) hg fun k hk => (Option.some.inj hk).symm)⟩
  by_cases hy : y = x
  · subst hy
    rw [has_put_same hm (show WideAt.IsKeyLit (.int .i64 y) from trivial)]
    simp
  · rw [has_put_other (by simpa using hy), hh y]
    simp [hy]
theorem SetOf.len {w : World} {b : Nat} {ks : List Int} (h : SetOf w b ks) {R : Int → World → Prop} (hR : R ((nextT ks).length : Int) w) :
    RunT Pg (Builtin.len_ #[T.y_map_int_bool] T.y_int #[.map (some b)]) [.one (.int .i64)] w R := by
  obtain ⟨D, n, ho, hn, hh⟩ := h
  have h2 := ho.len und_mib T.y_int
  have e : Maps.size D = (nextT ks).length := by
    obtain ⟨es, hD, hpw, _⟩ := ho.entries Kint
    obtain ⟨es', hD', hko⟩ := ho.keysOf
    obtain rfl : es = es' := by rw [hD] at hD'; simpa using hD'
    subst hD
    have hp := (perm_intKeys hpw (fun p hp => by obtain ⟨v, hv⟩ := hko p hp; obtain ⟨x, _, hx, _⟩ := Maps.keyOf_i64 und_int' hv; exact ⟨x, hx⟩) (nodup_nextT ks) (fun x => by rw [(nextT_up _).2 x, hh x])).length_eq
    rw [hp]
    simp [intKeys, Maps.size]
  rw [e] at h2
  exact ⟨_, w, h2, hR⟩

def key80 (z : Int) : Int := ((z.tmod 80) + 80).tmod 80
theorem key80_r (z : Int) : 0 ≤ key80 z ∧ key80 z < 80 := by
  unfold key80
  have h1 : -80 < z.tmod 80 ∧ z.tmod 80 < 80 := by
    have := Int.tmod_lt_of_pos z (show (0 : Int) < 80 by decide)
    have h2 : -(80 : Int) < z.tmod 80 := by
      rcases Int.le_total 0 z with hz | hz
      · have := Int.tmod_nonneg 80 hz; omega
      · have h3 := Int.tmod_lt_of_pos (-z) (show (0 : Int) < 80 by decide)
        rw [Int.neg_tmod] at h3; omega
    omega
  have h3 : 0 ≤ z.tmod 80 + 80 := by omega
  exact ⟨Int.tmod_nonneg 80 h3, Int.tmod_lt_of_pos _ (by decide)⟩

def roundS (i : Nat) : Bs := fillS [UInt8.ofNat (97 + i)]
def costW (zs : List Int) (m : Nat) : List Wr1 := (List.range m).map fun (i : Nat) => (key80 (zs.getD i 0), roundS (i % 20))
theorem costW_succ (zs : List Int) (m : Nat) : costW zs (m + 1) = costW zs m ++ [(key80 (zs.getD m 0), roundS (m % 20))] := by simp [costW, List.range_succ]
theorem costW_len (zs : List Int) (m : Nat) : (costW zs m).length = m := by simp [costW]

theorem Round_spec {w : World} {i : Nat} (hi : i < 100) {R : ByteArray → World → Prop} (hR : ∀ w', Below w.heap.size w w' → R (tx (roundS i)) w') : F.masonrylaw9_round (i : Int) w R := by
  apply E.masonrylaw9_round
  unfold V.masonrylaw9_round
  have e1 : w64 ((97 : Int) + (i : Int)) = ((97 + i : Nat) : Int) := by rw [w64_id (by omega) (by omega)]; omega
  have e2 : wr .u8 ((97 + i : Nat) : Int) = ((UInt8.ofNat (97 + i)).toNat : Int) := by
    rw [wr8, UInt8.toNat_ofNat']
    omega
  rw [e1, e2]
  intro w1
  have h1 : w1.heap[w.heap.size]? = some (.cells ⟨bv [UInt8.ofNat (97 + i)]⟩ T.y_uint8 (0, 0)) := heap_new w _
  have hB1 : Below w.heap.size w w1 := below_fr (Fr.alloc no w _)
  clear_value w1
  have hO := Own.of (size := 1) (n := 1) (cap := 1) h1 rfl (Nat.le_refl _) (by decide)
  exact runT_bytes_str und_bytes und_byte und_str (l := ⟨some (blk w.heap.size), 1, 1⟩) (bs := [UInt8.ofNat (97 + i)]) hO (Fill_spec (s := [UInt8.ofNat (97 + i)]) (by simp) fun w2 hB2 => hR w2 (hB1.trans (hB2.mono hB1.size)))

section
variable {w : World} {u g : Nat} {s : WlS} {fp : Nat → Prop} {d : Ds}
theorem Writes_disk (hd : Dsk w g fp d) {R : Int → World → Prop} (hR : R d.many w) : F.disk_Disk_Writes (some (blk g)) w R := by
  apply E.disk_Disk_Writes
  unfold V.disk_Disk_Writes
  obtain ⟨L, S, Wn, h, rfl⟩ := hd
  exact ⟨fun h => by simp at h, fun _ => ⟨blk g, rfl, d.many, h.c3, hR⟩⟩
theorem Dirty_disk (hd : Dsk w g fp d) {R : Int → World → Prop} (hR : R (d.ws.length : Int) w) : F.disk_Disk_Dirty (some (blk g)) w R := by
  apply E.disk_Disk_Dirty
  unfold V.disk_Disk_Dirty
  obtain ⟨L, S, Wn, h, rfl⟩ := hd
  have hl := (Own.wrs h.ow).1
  refine ⟨fun h => by simp at h, fun _ => ⟨blk g, rfl, Wn, h.c2, ?_⟩⟩
  rw [hl]; exact hR
end

set_option maxHeartbeats 2000000 in
theorem WalCosts_spec {w : World} {sl : Sl} {zs : List Int} (hT : Ints w sl zs) {R : Bool → World → Prop} (hR : ∀ w', Below w.heap.size w w' → R true w') : F.masonrylaw9_WalCosts sl w R := by
  apply E.masonrylaw9_WalCosts
  unfold V.masonrylaw9_WalCosts
  have hlen := hT.1
  refine ⟨fun _ => alive9_spec hR, fun hle => alive9_spec fun w1 hB1 => ⟨fun h => by simp at h, fun _ => ?_⟩⟩
  have hle : zs.length ≤ 60 := by have := of_decide_eq_false hle; omega
  refine New_disk (n := 200) (by decide) (by decide) fun g L S w2 hD2 hfp2 hB2 => ⟨fun h => by simp at h, fun _ => ⟨fun h => by simp at h, fun _ => ?_⟩⟩
  have hd2 : Dsk w2 g (fpD g L S ⟨none, 0, 0⟩) (newD 200) := ⟨L, S, _, hD2, rfl⟩
  generalize fpD g L S ⟨none, 0, 0⟩ = fp at *
  have hq2 : Quiet (newD 200) 0 := Quiet.new (by decide) (by decide)
  have hdl : (newD 200).l.length = 200 := List.length_replicate
  have hdm : (newD 200).many = 0 := rfl
  generalize hd0 : newD 200 = d at *
  refine Open_quiet hd2 hq2 fun u w3 hu3 hub hB3 => ⟨fun h => by simp at h, fun _ => ⟨fun h => by simp at h, fun _ => ?_⟩⟩
  have s1 := hB1.size
  have s2 := hB2.size
  have s3 := hB3.size
  have hB03 : Below w.heap.size w w3 := (hB1.trans (hB2.mono s1)).trans (hB3.mono (by omega))
  have hd3 := hd2.below hB3
  have hT3 := hT.below hB03
  intro w4
  have hS4 : SetOf w4 w3.heap.size [] := SetOf.made w3
  have hB4 : Below w3.heap.size w3 w4 := below_fr (Fr.alloc no w3 _)
  clear_value w4
  obtain ⟨inf, hi, hz', hs1', hby⟩ := info_wr
  refine ⟨fun x i w' => ∃ m : Nat, i = m ∧ m ≤ zs.length ∧ SetOf w' w3.heap.size (keysW (costW zs m)) ∧ Own w' T.y_api_Write 2 x (wrCells (costW zs m)) ∧ (∀ k, x.bk k → w3.heap.size ≤ k ∧ k ≠ w3.heap.size) ∧ Below w3.heap.size w3 w', fun _ i _ => (zs.length - i).toNat,
    ⟨0, rfl, Nat.zero_le _, hS4, Own.nil _ _ _, fun k hk => bk_nil hk, hB4⟩, ?_⟩
  rintro x i w5 ⟨m, rfl, hm, hS5, hX5, hxb, hB5⟩
  have s5 := hB5.size
  refine ⟨fun hlt => ?_, fun hge => ?_⟩
  · have hlt : m < zs.length := by have := of_decide_eq_true hlt; omega
    obtain ⟨a, ha, hc⟩ := (hT3.below hB5).2 m zs[m] (by simp [hlt])
    have eg : zs.getD m 0 = zs[m] := by simp [hlt]
    have hr := key80_r zs[m]
    have e80 : (w64 ((zs[m].tmod 80) + 80)).tmod 80 = key80 zs[m] := by
      have h1 : -80 < zs[m].tmod 80 ∧ zs[m].tmod 80 < 80 := by
        have := Int.tmod_lt_of_pos zs[m] (show (0 : Int) < 80 by decide)
        have h2 : -(80 : Int) < zs[m].tmod 80 := by
          rcases Int.le_total 0 zs[m] with hz | hz
          · have := Int.tmod_nonneg 80 hz; omega
          · have h3 := Int.tmod_lt_of_pos (-zs[m]) (show (0 : Int) < 80 by decide)
            rw [Int.neg_tmod] at h3; omega
        omega
      rw [w64_id (by omega) (by omega)]; rfl
    have e3 : w64 ((m : Int) + 1) = ((m + 1 : Nat) : Int) := by rw [w64_id (by omega) (by omega)]; omega
    have e20 : (m : Int).tmod 20 = ((m % 20 : Nat) : Int) := (Int.ofNat_tmod m 20).symm
    refine ⟨a, ha, by omega, by omega, zs[m], by simpa using hc, by decide, by decide, ?_⟩
    rw [e80, e3, e20]
    refine hS5.put (by rw [keysW, List.length_map, costW_len]; omega) (by omega) fun w6 hS6 hF6 => ⟨by decide, Round_spec (by omega) fun w7 hB7 => ?_⟩
    intro w8
    have h8 : w8.heap[w7.heap.size]? = some (.cells ⟨wrCells [(key80 zs[m], roundS (m % 20))]⟩ T.y_api_Write (0, 0)) := heap_new w7 _
    have hF8 : Fr no w7 w8 := Fr.alloc no w7 _
    clear_value w8
    have s6 := hF6.size
    have s7 := hB7.size
    have s8 := hF8.size
    have hX8 := ((hX5.keep hF6 (fun k hk he => (hxb k hk).2 he)).keep (fr_below hB7) (fun _ _ => id)).keep hF8 (fun _ _ => id)
    have hS8 := (hS6.keep (fr_below hB7) id).keep hF8 id
    have hxl : x.len = m := by rw [(Own.wrs hX8).1, costW_len]
    refine runT_append und_wr hi hz' hs1' hby rfl (by decide) hX8 (m := 1) (news := wrCells [(key80 zs[m], roundS (m % 20))]) rfl (fun j u hu => by rw [blk_cell h8 j]; exact hu) (wrCells_one _) (by simp only [maxLen]; omega) (by omega) fun x' w9 hX9 hl9 hF9 hM9 => ?_
    rw [← wrCells_app, ← eg, ← costW_succ] at hX9
    have hS9 := hS8.keep hF9 (fun hk => (hxb _ hk).2 rfl)
    have hk9 : keysW (costW zs (m + 1)) = keysW (costW zs m) ++ [key80 zs[m]] := by rw [costW_succ, eg]; simp [keysW]
    rw [← hk9] at hS9
    refine ⟨⟨m + 1, rfl, hlt, hS9, hX9, fun k hk => ?_, ?_⟩, ?_⟩
    · rcases moved_bk hM9 hk with h | h
      · exact hxb k h
      · have := hS5.lt; exact ⟨by omega, by omega⟩
    · have b6 := hB5.trans (hF6.toBelow (B := w3.heap.size) (fun k hk => by have : k = w3.heap.size := hk; omega) s5)
      have b7 := b6.trans (hB7.mono (by omega))
      have b8 := b7.trans ((below_fr hF8).mono (by omega))
      exact b8.trans (hF9.toBelow (B := w3.heap.size) (fun k hk => (hxb k hk).1) (by omega))
    · show ((zs.length : Int) - ((m + 1 : Nat) : Int)).toNat < ((zs.length : Int) - (m : Int)).toNat
      omega
  have hmm : m = zs.length := by have := of_decide_eq_false hge; omega
  subst hmm
  have hd5 := hd3.below hB5
  have hu5 := hu3.below hB5
  have hcl := costW_len zs zs.length
  have hsz : sizeD d = 89 := by unfold sizeD; rw [hdl]; decide
  have hB05 := hB03.trans (hB5.mono (by omega))
  have hkl : (nextT (keysW (costW zs zs.length))).length ≤ 60 := Nat.le_trans (nextT_len _) (by rw [keysW, List.length_map, hcl]; exact hle)
  have hE : lastE (sizeD d) (costW zs zs.length) = 0 := by
    refine lastE_ok (fun x hx => ?_) (by omega)
    rw [hsz]
    simp only [costW, List.mem_map, List.mem_range] at hx
    obtain ⟨j, hj, rfl⟩ := hx
    have := key80_r (zs.getD j 0)
    exact ⟨this.1, by show key80 _ < 89; omega, fillS_len _⟩
  refine Writes_disk hd5 (Commit_wal hu5 hd5 hq2.off (Own.wrs hX5) (fun k hk => hX5.lt hk) (by omega) (by omega) (by omega) (by decide) (by decide) (by decide) (by decide) hq2.many (by omega) (by rw [hq2.ws]; decide) (fun w' hne => absurd hE hne) (fun w6 he hB6 => ?_) fun fp6 w6 _ hne hd6 hu6 hG6 => ?_)
  · have hl0 : zs.length = 0 := by rw [← hcl, he]; rfl
    have hd6 := hd5.below hB6
    have hu6 := hu5.below hB6
    refine ⟨fun h => by simp at h, fun _ => Dirty_disk hd6 ⟨fun h => by rw [hq2.ws] at h; simp at h, fun _ => ⟨fun _ => ?_, fun h => by rw [hlen, hl0] at h; simp at h⟩⟩⟩
    refine Writes_disk hd6 ⟨fun _ => Seq_wal hu6 ⟨fun _ => Commits_wal hu6 ?_, fun h => by simp at h⟩, fun h => by simp at h⟩
    exact hR w6 (hB05.trans (hB6.mono (by omega)))
  · obtain ⟨hq6, hl6, hm6, hh6⟩ := commit_facts hq2 (by decide) (by decide) hE
    generalize commitD d 0 (costW zs zs.length) = d6 at *
    have hzl : ∀ {P : Prop}, (((sl.len : Nat) : Int) == 0) = true → P := fun h => by
      have h2 : (sl.len : Int) = 0 := by simpa using h
      exact absurd (show zs.length = 0 by omega) (fun h => hne (List.eq_nil_of_length_eq_zero (by rw [hcl]; exact h)))
    have hnz : ¬ zs.length = 0 := fun h => hne (List.eq_nil_of_length_eq_zero (by rw [hcl]; exact h))
    have hsep : ∀ k, (fp k ∨ k = u) → w.heap.size ≤ k := fun k hk => by
      rcases hk with hk | hk
      · have := hfp2 k hk; omega
      · omega
    have hns : ¬ (fp w3.heap.size ∨ w3.heap.size = u) := fun h => by
      rcases h with h | h
      · have := hd3.lt h; omega
      · have := hu3.lt; omega
    have hS6 := hS5.keep hG6.fr hns
    refine ⟨fun h => by simp at h, fun _ => Dirty_disk hd6 ⟨fun h => by rw [hq6.ws] at h; simp at h, fun _ => ⟨fun h => hzl h, fun _ => ?_⟩⟩⟩
    refine Writes_disk hd6 (hS6.len ⟨fun _ => ?_, fun h => ?_⟩)
    · refine Seq_wal hu6 ⟨fun _ => Commits_wal hu6 ?_, fun h => by simp at h⟩
      exact hR w6 (hB05.trans (hG6.fr.toBelow (B := w.heap.size) hsep hB05.size))
    · exfalso
      rw [hm6, hdm] at h
      generalize (nextT (keysW (costW zs zs.length))).length = N at h hkl
      have a1 : w64 (2 * (N : Int)) = 2 * (N : Int) := w64_id (by omega) (by omega)
      have a2 : w64 (0 + 2 * (N : Int)) = 0 + 2 * (N : Int) := w64_id (by omega) (by omega)
      have a3 : w64 (0 + 2 * (N : Int) + 2) = 0 + 2 * (N : Int) + 2 := w64_id (by omega) (by omega)
      rw [a1, a2, a3] at h
      simp at h

end Go.Proofs.YtepclihkniaieaaGreatDoor
