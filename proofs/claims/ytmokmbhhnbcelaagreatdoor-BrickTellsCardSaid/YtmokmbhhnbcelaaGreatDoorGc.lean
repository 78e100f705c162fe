/- SHA-1: the digest of texts; strings.Join. -/
import Derived.Test.YtmokmbhhnbcelaaGreatDoorGb
set_option linter.unusedVariables false
namespace Go.Proofs.YtmokmbhhnbcelaaGreatDoor
open Go Go.Vc Go.RowKit Go.Lib
/-- texts one behind the other -/
def joinB (l : List Bs) : Bs := l.flatten
theorem join_flat : ∀ l : List Bs, Lib.join l [] = l.flatten
 | [] => rfl
 | x :: r => by
   rw [Lib.join_cons]
   unfold Lib.joinTail
   have : r.map (([] : Bs) ++ ·) = r := by simp
   rw [this]; rfl
section
variable {w : World} {X : List As}
theorem Join_st (h : St w X) {sl : Sl} {l : List Bs} (hx : Has ET w sl l) (hsp : ∀ a, sl.a = some a → a.spot = none ∧ a.block < w.heap.size) (hc : sl.len ≤ sl.cap) (hn : l.length ≤ 1000000000) (hl : (joinB l).length ≤ 1000000000) {R : ByteArray → World → Prop}
   (hR : ∀ w', St w' X → R (tx (joinB l)) w') : F.strings_Join sl sNil w R := by
 have hlen := hx.1
 have c : Calls Tryz.prog 140 #[.slice sl.a sl.len sl.cap, .string sNil] w fun e w' => e = .returned (.string (tx (joinB l))) ∧ Below w.heap.size w w' := by
   have hs : (sNil).data.toList = [] := rfl
   by_cases h0 : l = []
   · subst h0
     rw [show sl.len = 0 from hlen]
     exact (Proofs.Any.strings_Join_none Tryz.lays156 Tryz.Builder_Extra_156 sl.a sl.cap sNil w).mono fun e w' ⟨he, hw⟩ => ⟨he, hw ▸ Below.refl _ _⟩
   · have hpos : 0 < l.length := List.length_pos_iff.2 h0
     obtain ⟨a, ha, _, _⟩ := hx.at hpos
     obtain ⟨h1, h2⟩ := hsp a ha
     obtain ⟨bk, o, sp⟩ := a
     have h1 : sp = none := h1
     subst h1
     have hmap : ((l.map tx).map (·.data.toList)) = l := by
       rw [List.map_map]
       have : (fun x : ByteArray => x.data.toList) ∘ tx = id := by funext x; exact tx_data x
       rw [this, List.map_id]
     have hj : (Lib.join ((l.map tx).map (·.data.toList)) (sNil).data.toList) = joinB l := by rw [hmap, hs, join_flat]; rfl
     have hl' : (l.map tx).length = sl.len := by rw [List.length_map, hlen]
     have q := Proofs.Any.strings_Join Tryz.lays156 Tryz.Builder_Extra_156 bk o sl.cap (l.map tx) sNil w (fun j x hjx => ?_) h2 (by omega) (by omega) (by rw [hj]; omega)
     · rw [hj, hl'] at q
       rw [ha]
       exact q
     · rw [List.getElem?_map] at hjx
       cases hlj : l[j]? with
       | none => rw [hlj] at hjx; cases hjx
       | some y =>
         rw [hlj] at hjx
         injection hjx with hjx
         subst hjx
         obtain ⟨a', ha', hc'⟩ := hx.2 j y hlj
         rw [ha] at ha'
         injection ha' with ha'
         subst ha'
         have h3 := hc' 0 (.string (tx y)) rfl
         have e : (⟨bk, o, none⟩ : Addr).add (j * ET.n + 0) = ⟨bk, o + j, none⟩ := by
           have : j * ET.n + 0 = j := Nat.mul_one j
           rw [this]
           unfold Addr.add
           split
           · rename_i h; subst h; rfl
           · rfl
         rw [e] at h3
         exact h3
 exact Calls.mono c fun e w' hh => ⟨tx (joinB l), hh.1, hR w' (h.below hh.2)⟩
def l5 (s : S5) : List Int := [s.a, s.b, s.c, s.d, s.e]
theorem out5_all (s : S5) : (l5 s).flatMap four = out5 s := by simp [l5, out5]
theorem flat_succ (L : List Int) {n : Nat} (h : n < L.length) : (L.take (n + 1)).flatMap four = (L.take n).flatMap four ++ four L[n] := by
 rw [List.take_succ_eq_append_getElem h, List.flatMap_append]; simp
theorem four_len (v : Int) : (four v).length = 4 := highB_len _ _
theorem flat_len (L : List Int) : (L.flatMap four).length = 4 * L.length := by
 induction L with
 | nil => rfl
 | cons x r ih => simp only [List.flatMap_cons, List.length_append, List.length_cons, ih, four_len]; omega
theorem W1_cut' (p : Bs) (o : Nat) : W1 ((p.drop o).take 64) 0 = W1 p o := funext fun t => W1_cut p o t
theorem W2_cut' (p : Bs) (o : Nat) : W2 ((p.drop o).take 64) 0 = W2 p o := funext fun t => W2_cut p o t
set_option maxHeartbeats 1000000 in
theorem Sum1_st (h : St w X) {sl : Sl} {l : List Bs} (hx : Has ET w sl l) (hsp : ∀ a, sl.a = some a → a.spot = none ∧ a.block < w.heap.size) (hc : sl.len ≤ sl.cap) (hn : l.length ≤ 1000000000) (hl : (joinB l).length ≤ 1000000000) {R : ByteArray → World → Prop}
   (hR : ∀ w', St w' X → R (tx (sha1 (joinB l))) w') : F.shaone_Sum sl w R := by
 apply E.shaone_Sum
 unfold V.shaone_Sum
 try simp (config := { zeta := false }) only [cnd_all, Nat.reduceAdd]
 refine Join_st h hx hsp hc hn hl fun w1 h1 => ?_
 generalize joinB l = s at *
 rw [tx_size]
 refine Pad_st h1 (by omega) fun w2 h2 => ?_
 have hpl := padB_len s.length
 have h64 := pad_64 s
 rw [tx_app]
 have hpl2 : (s ++ padB s.length).length = s.length + (padB s.length).length := List.length_append
 have hR' : ∀ w', St w' X → R (tx (out5 (run1 (s ++ padB s.length) (blocks s)))) w' := hR
 have hbl : 64 * blocks s = (s ++ padB s.length).length := by unfold blocks; omega
 refine ⟨by rw [tx_size]; omega, ?_⟩
 generalize s ++ padB s.length = p at *
 generalize blocks s = nb at *
 have hts := tx_size p
 intro wa1
 replace h2 : St wa1 (Cs _ _ _ :: _) := h2.new _ _
 clear_value wa1
 refine ⟨h2.wr0 (by simp), ?_⟩
 intro wa2
 replace h2 : St wa2 _ := h2.set0 _
 clear_value wa2
 refine ⟨h2.wr (by simp), ?_⟩
 intro wa3
 replace h2 : St wa3 _ := h2.set 1 _
 clear_value wa3
 refine ⟨h2.wr (by simp), ?_⟩
 intro wa4
 replace h2 : St wa4 _ := h2.set 2 _
 clear_value wa4
 refine ⟨h2.wr (by simp), ?_⟩
 intro wa5
 replace h2 : St wa5 _ := h2.set 3 _
 clear_value wa5
 refine ⟨h2.wr (by simp), ?_⟩
 intro wa6
 replace h2 : St wa6 _ := h2.set 4 _
 clear_value wa6
 simp only [List.set_cons_zero, List.set_cons_succ] at h2
 generalize w2.heap.size = g at *
 refine ⟨fun i w' => ∃ m : Nat, i = ((64 * m : Nat) : Int) ∧ m ≤ nb ∧ St w' (Cs g (c5 (run1 p m)) T.y_5_uint32 :: X), fun i _ => (p.length - i).toNat, ⟨0, rfl, Nat.zero_le _, h2⟩, ?_⟩
 rintro i w3 ⟨m, rfl, hm, h3⟩
 refine ⟨fun hlt => ?_, fun hge => ?_⟩
 · have hlt : m < nb := by omega
   have e1 : w64 (((64 * m : Nat) : Int) + 64) = ((64 * (m + 1) : Nat) : Int) := by rw [w64_id (by omega) (by omega)]; omega
   intro wa7
   replace h3 : St wa7 _ := h3.drew
   clear_value wa7
   rw [e1]
   refine ⟨_, h3.cell0, _, h3.cell 1, _, h3.cell 2, _, h3.cell 3, _, h3.cell 4, ?_⟩
   refine ⟨by omega, by omega, by omega, ?_⟩
   have ee : (tx p).extract ((64 * m : Nat) : Int).toNat ((64 * (m + 1) : Nat) : Int).toNat = tx ((p.drop (64 * m)).take 64) := by
     rw [tx_ext]
     have a1 : ((64 * m : Nat) : Int).toNat = 64 * m := Int.toNat_natCast _
     have a2 : ((64 * (m + 1) : Nat) : Int).toNat - 64 * m = 64 := by rw [Int.toNat_natCast]; omega
     rw [a1, a2]
   rw [ee]
   refine mix1_st (s := run1 p m) h3 (by rw [List.length_take, List.length_drop]; omega) fun w4 h4 => ?_
   rw [W1_cut']
   refine ⟨h4.wr0 (by simp), ?_⟩
   intro wa8
   replace h4 : St wa8 _ := h4.set0 _
   clear_value wa8
   refine ⟨h4.wr (by simp), ?_⟩
   intro wa9
   replace h4 : St wa9 _ := h4.set 1 _
   clear_value wa9
   refine ⟨h4.wr (by simp), ?_⟩
   intro wa10
   replace h4 : St wa10 _ := h4.set 2 _
   clear_value wa10
   refine ⟨h4.wr (by simp), ?_⟩
   intro wa11
   replace h4 : St wa11 _ := h4.set 3 _
   clear_value wa11
   refine ⟨h4.wr (by simp), ?_⟩
   intro wa12
   replace h4 : St wa12 _ := h4.set 4 _
   clear_value wa12
   simp only [List.set_cons_zero, List.set_cons_succ] at h4
   exact ⟨⟨m + 1, rfl, hlt, h4⟩, (by first | omega | (dsimp only; omega))⟩
 have hmm : m = nb := by omega
 subst hmm
 refine ⟨_, h3.cell0, _, h3.cell 1, _, h3.cell 2, _, h3.cell 3, _, h3.cell 4, ?_⟩
 have h4 := h3.drop
 generalize run1 p m = z at *
 refine ⟨fun out i w' => ∃ k : Nat, i = k ∧ k ≤ 5 ∧ out = tx (((l5 z).take k).flatMap four) ∧ St w' X, fun _ i _ => (5 - i).toNat, ⟨0, rfl, Nat.zero_le _, rfl, h4⟩, ?_⟩
 rintro out i w5 ⟨k, rfl, hk, rfl, h5⟩
 refine ⟨fun hlt => ?_, fun hge => ?_⟩
 · have hlt : k < 5 := by omega
   have e1 : w64 ((k : Int) + 1) = ((k + 1 : Nat) : Int) := by rw [w64_id (by omega) (by omega)]; omega
   have hll : (l5 z).length = 5 := rfl
   have hkl : k < (l5 z).length := by rw [hll]; exact hlt
   have hfl := flat_len ((l5 z).take k)
   rw [List.length_take] at hfl
   refine ⟨by omega, by omega, (l5 z)[k], ?_, high_st (n := 4) h5 (by decide) fun w6 h6 => ⟨by rw [tx_size, tx_size]; have := four_len (l5 z)[k]; unfold four at this; omega, ?_⟩⟩
   · have : k = 0 ∨ k = 1 ∨ k = 2 ∨ k = 3 ∨ k = 4 := by omega
     rcases this with rfl | rfl | rfl | rfl | rfl <;> rfl
   · rw [e1, tx_app]
     refine ⟨⟨k + 1, rfl, hlt, ?_, h6⟩, (by first | omega | (dsimp only; omega))⟩
     rw [flat_succ _ hkl]; rfl
 have hkk : k = 5 := by omega
 subst hkk
 have : (l5 z).take 5 = l5 z := rfl
 rw [this, out5_all]
 exact hR' w5 h5
end
end Go.Proofs.YtmokmbhhnbcelaaGreatDoor
