/- desk: what a Sync would write, Dirty, Sync, with a power that may go; Format, Open. -/
import Derived.Test.YtgacpkgaogiocaaGreatDoorDd
import Derived.Test.YtgacpkgaogiocaaGreatDoorCm
set_option linter.unusedVariables false
namespace Go.Proofs.YtgacpkgaogiocaaGreatDoor
open Go Go.Vc Go.RowKit Go.Lib Go.Maps Go.Proofs
section
variable {w w' : World} {X : List As} {k g c : Nat} {D : DkV}
end
end Go.Proofs.YtgacpkgaogiocaaGreatDoor


/- chain: walk. -/
set_option linter.unusedVariables false
namespace Go.Proofs.YtgacpkgaogiocaaGreatDoor
open Go Go.Vc Go.RowKit Go.Lib Go.Maps Go.Proofs
def ELk : Enc Lk := ⟨lkCells, 6, fun _ => rfl, fun x u hu => by simp only [lkCells, List.mem_cons, List.not_mem_nil, or_false] at hu; rcases hu with rfl | rfl | rfl | rfl | rfl | rfl <;> rfl⟩
theorem elt_lk : Elt Pg T.y_sl_chain_link T.y_chain_link 6 56 := by
 refine ⟨by kernel_rfl, ?_, by decide⟩
 have h : (Pg.info? T.y_chain_link).map (fun i => (i.zero, i.size, i.bytes)) = some (some (.agg #[.int .i64 0, .int .i64 0, .int .i64 0, .int .i64 0, .int .i64 0, .string sNil]), 6, 56) := by kernel_rfl
 obtain ⟨i, hi, h2⟩ := Option.map_eq_some_iff.1 h
 simp only [Prod.mk.injEq] at h2
 exact ⟨i, _, hi, h2.1, h2.2.1, h2.2.2, rfl⟩
/-- may x stand behind these -/
def lkStep (xs : List Lk) (x : Lk) : Bool :=
 decide (x.number = xs.length) && ((match xs with | [] => true | y :: _ => decide (x.gen = y.gen) && (decide (x.tag = y.tag) && (decide (x.refs = 0) && decide (x.data ≠ [])))) && (decide (x.next = 0) || decide (x.data.length = 236)))
def walkC (D : DkV) : Nat → List Lk → List Int → Int → List Lk × List Int × Int
 | 0, _, _, _ => ([], [], 25)
 | n + 1, xs, ps, next =>
   if next ∈ ps ∨ 40 ≤ xs.length then ([], [], 25)
   else if getE D next ≠ 0 then ([], [], getE D next)
   else if (readLk (getD D next)).2 && lkStep xs (readLk (getD D next)).1 then
     if (readLk (getD D next)).1.next = 0 then (xs ++ [(readLk (getD D next)).1], ps ++ [next], 0) else walkC D n (xs ++ [(readLk (getD D next)).1]) (ps ++ [next]) (readLk (getD D next)).1.next
   else ([], [], 25)
def walkD (D : DkV) (a : Int) : List Lk × List Int × Int := walkC D 41 [] [] a
theorem lastW_len {D : DkV} {c : Nat} (hk : DOk c D) {a : Int} (h : a ∈ keysW D.ws) : (lastW D.ws a).length = 256 := (hk.ws _ (lastW_mem _ a h)).2.2.2
theorem getD_len {D : DkV} {c : Nat} (hk : DOk c D) {a : Int} (h : getE D a = 0) : (getD D a).length = 256 := by
 unfold getE at h
 unfold getD
 by_cases h1 : a ∈ keysW D.ws
 · rw [if_pos h1]; exact lastW_len hk h1
 · rw [if_neg h1] at h ⊢
   by_cases h2 : 0 ≤ a ∧ a < (D.bs.length : Int)
   · rw [if_pos h2]
     have hl := hk.len
     have hi : 111 + a.toNat < D.d.l.length := by omega
     have e : homeAt D.d a.toNat = D.d.l[111 + a.toNat] := by unfold homeAt; simp [hi]
     rw [e]
     exact hk.q.secs _ (List.getElem_mem _)
   · rw [if_neg h2] at h; simp at h
theorem n236 {x : Bs} (h : ¬ ((tx x).size : Int) = 236) : ¬ x.length = 236 := by rw [tx_size] at h; omega
theorem y236 {x : Bs} (h : ((tx x).size : Int) = 236) : x.length = 236 := by rw [tx_size] at h; omega
section
variable {w : World} {X : List As} {k g c : Nat} {D : DkV}
set_option maxHeartbeats 2000000 in
theorem walk_chain (h : St w (DeskS k g c D :: X)) {a : Int} (ha : -9223372036854775808 ≤ a ∧ a < 9223372036854775808) {R : Sl → Sl → Int → World → Prop}
   (hR : ∀ l pl w', St w' (Row ELk T.y_chain_link l (walkD D a).1 :: Row EI T.y_int pl (walkD D a).2.1 :: DeskS k g c D :: X) → R l pl (walkD D a).2.2 w') : F.chain_walk (some (blk k)) a w R := by
 apply E.chain_walk
 unfold V.chain_walk
 try simp -zeta only [ldC, soC, brC, bkA, slC, stC, alC, drC]
 try simp (config := { zeta := false }) only [cnd_all]
 have hk := DeskS.ok h
 have bad : ∀ e, walkD D a = ([], [], e) → ∀ w', St w' (DeskS k g c D :: X) → R ⟨none, 0, 0⟩ ⟨none, 0, 0⟩ e w' := fun e he w' hw => by
   rw [he] at hR
   exact hR _ _ w' ((hw.row0 EI T.y_int).row0 ELk T.y_chain_link)
 intro w0
 have h0 : St w0 (SetS w.heap.size [] :: DeskS k g c D :: X) := SetS.new h
 clear_value w0
 generalize w.heap.size = q at *
 refine ⟨fun l pl next w' => ∃ n xs ps, xs.length + n = 40 ∧ ps.length = xs.length ∧ (-9223372036854775808 ≤ next ∧ next < 9223372036854775808) ∧ walkD D a = (if xs ≠ [] ∧ next = 0 then (xs, ps, 0) else walkC D (n + 1) xs ps next) ∧ St w' (SetS q ps :: Row ELk T.y_chain_link l xs :: Row EI T.y_int pl ps :: DeskS k g c D :: X),
   fun l _ _ _ => 41 - l.len, ⟨40, [], [], rfl, rfl, ha, rfl, ((h0.sw.row0 EI T.y_int).row0 ELk T.y_chain_link).up3⟩, ?_⟩
 rintro l pl next w1 ⟨n, xs, ps, hn, hpl, hnr, hw, h1⟩
 have hl : l.len = xs.length := (h1.sw.has (by decide)).1
 refine ⟨fun w' => w' = w1 ∧ ¬ (xs ≠ [] ∧ next = 0), ⟨fun hz => ⟨rfl, fun hx => hx.1 (List.eq_nil_of_length_eq_zero (by omega))⟩, fun hz => ⟨fun hx => ⟨rfl, fun hy => hx hy.2⟩, fun hx => ?_⟩⟩, ?_⟩
 · rw [if_pos ⟨fun hy => hz (by rw [hl, hy]; rfl), hx⟩] at hw
   rw [hw] at hR
   exact hR l pl w1 h1.drop
 rintro w2 ⟨rfl, hc⟩
 rw [if_neg hc] at hw
 unfold walkC at hw
 refine SetS.look h1 hnr ⟨fun hs => ?_, fun hs => ⟨fun h40 => ?_, fun h40 => ?_⟩⟩
 · rw [if_pos (.inl (of_decide_eq_true hs))] at hw
   exact bad _ hw w2 h1.drop.drop.drop
 · rw [if_pos (.inr (by omega))] at hw
   exact bad _ hw w2 h1.drop.drop.drop
 have hs : next ∉ ps := of_decide_eq_false hs
 rw [if_neg fun h => h.elim hs fun h => by omega] at hw
 refine SetS.put h1 (by omega) hnr fun w3 h3 => Get_st h3.up3 hnr ⟨fun he => ?_, fun he => ?_⟩
 · rw [if_pos he] at hw
   exact bad _ hw w3 h3.drop.drop.drop
 rw [if_neg (by simpa using he)] at hw
 have hgl := getD_len hk he
 refine read_link h3 (by omega) fun w4 h4 => ?_
 have hrok := @readLk_ok (getD D next)
 generalize readLk (getD D next) = r at *
 obtain ⟨x, is⟩ := r
 simp only at hw hrok
 dsimp -zeta only
 intro wa1
 replace h4 : St wa1 (Cs _ _ _ :: _) := h4.new _ _
 clear_value wa1
 refine ⟨h4.wr0 (by simp), ?_⟩
 intro wa2
 replace h4 : St wa2 _ := h4.set0 _
 clear_value wa2
 refine ⟨h4.wr (by simp), ?_⟩
 intro wa3
 replace h4 : St wa3 _ := h4.set 1 _
 clear_value wa3
 refine ⟨h4.wr (by simp), ?_⟩
 intro wa4
 replace h4 : St wa4 _ := h4.set 2 _
 clear_value wa4
 refine ⟨h4.wr (by simp), ?_⟩
 intro wa5
 replace h4 : St wa5 _ := h4.set 3 _
 clear_value wa5
 refine ⟨h4.wr (by simp), ?_⟩
 intro wa6
 replace h4 : St wa6 _ := h4.set 4 _
 clear_value wa6
 refine ⟨h4.wr (by simp), ?_⟩
 intro wa7
 replace h4 : St wa7 _ := h4.set 5 _
 clear_value wa7
 simp only [List.set_cons_zero, List.set_cons_succ] at h4
 generalize w4.heap.size = z at *
 -- Cs z :: SetS q :: Row ELk :: Row EI :: Desk :: X
 refine ⟨fun w' => (is && lkStep xs x) = true ∧ St w' (Cs z (lkCells x) T.y_chain_link :: SetS q (ps ++ [next]) :: Row ELk T.y_chain_link l xs :: Row EI T.y_int pl ps :: DeskS k g c D :: X), ?_, ?_⟩
 · intro wa8
   replace h4 : St wa8 _ := h4.drew
   clear_value wa8
   have hd := h4.drop.drop.drop.drop
   have no : (is && lkStep xs x) = false → ∀ w', St w' (DeskS k g c D :: X) → R ⟨none, 0, 0⟩ ⟨none, 0, 0⟩ 25 w' := fun hf w' hw' => by
     rw [if_neg (by rw [hf]; decide)] at hw
     exact bad _ hw w' hw'
   refine ⟨fun g1 => no (by simp [g1]) _ hd, fun g1 => ⟨_, h4.cell 2, fun g2 => no (by rw [hl] at g2; simp [lkStep, g2]) _ hd, fun g2 => ?_⟩⟩
   rw [hl] at g2 ⊢
   rcases xs with _ | ⟨y, ys⟩
   · refine ⟨fun g3 => by simp at g3, fun g3 => ⟨_, h4.cell 4, fun g9 => ⟨_, h4.cell 5, fun g10 => no (by simp [lkStep, g9, n236 g10]) _ hd, fun g10 => ⟨by simp [lkStep, g1, g2, y236 g10], h4⟩⟩, fun g9 => ⟨by simp [lkStep, g1, g2, g9], h4⟩⟩⟩
   · obtain ⟨ad, had, hlt, hc⟩ := (h4.up2.has (by decide)).at (j := 0) (by simp)
     have hc0 := hc 0 _ rfl
     rw [addr_add0] at hc0
     refine ⟨fun g3 => ⟨_, h4.cell0, ad, had, by decide, g3, _, by simpa [addr_add0] using hc0, fun g5 => no (by simp [lkStep, g5]) _ hd, fun g5 => ⟨_, h4.cell 1, ad, had, by decide, g3, _, by simpa [addr_add0] using hc 1 _ rfl, fun g6 => no (by simp [lkStep, g6]) _ hd, fun g6 => ⟨_, h4.cell 3, fun g7 => no (by simp [lkStep, g7]) _ hd, fun g7 => ⟨_, h4.cell 5, fun g8 => ?_, fun g8 => ⟨_, h4.cell 4, fun g9 => ⟨_, h4.cell 5, fun g10 => ?_, fun g10 => ?_⟩, fun g9 => ?_⟩⟩⟩⟩⟩, fun g3 => by simp at g3⟩
     all_goals rw [tx_nil, tx_eq] at g8
     · exact no (by simp [lkStep, of_decide_eq_true g8]) _ hd
     all_goals have g8 := of_decide_eq_false g8
     · exact no (by simp [lkStep, g9, n236 g10]) _ hd
     · refine ⟨?_, h4⟩
       simp [lkStep, g1, g2, g5, g6, g7, g8, y236 g10]
     · exact ⟨by simp [lkStep, g1, g2, g5, g6, g7, g8, g9], h4⟩
 · rintro w5 ⟨hok, h5⟩
   rw [if_pos hok] at hw
   intro wa9
   replace h5 : St wa9 _ := h5.drew
   clear_value wa9
   refine ⟨_, h5.cell0, _, h5.cell 1, _, h5.cell 2, _, h5.cell 3, _, h5.cell 4, _, h5.cell 5, ?_⟩
   refine ⟨_, h5.cell 4, fun w6 g hB6 hg6 hn6 ho6 w7 hB7 => ?_⟩
   have h7 := (h5.fz.iv hB6 hg6 hn6 ho6).iv0 hB7
   refine St.app elt_lk h7.up4 (sl := ⟨some (blk g), 1, 1⟩) (ys := [x]) (h7.sw.lit rfl (Enc.all_one1 ELk x).symm 1) rfl (by simp; omega) (by simp; omega) fun l1 w8 h8 hl8 => ?_
   obtain ⟨k8, h8⟩ := h8.sw.d3.kp
   have q8 := h8.up2
   refine ⟨k8, q8.cell 4, q8.cell0, q8.cell 1, q8.cell 2, q8.cell 3, q8.cell 4, q8.cell 5, fun w9 g1 hB9 hg9 hn9 ho9 w10 hB10 => ?_⟩
   have h10 := (h8.iv hB9 hg9 hn9 ho9).iv0 hB10
   refine St.app elt_int h10.up5 (sl := ⟨some (blk g1), 1, 1⟩) (ys := [next]) (h10.sw.lit (xs := [next]) rfl rfl 1) rfl (by simp; omega) (by simp; omega) fun l2 w11 h11 hl11 => ?_
   obtain ⟨k11, h11⟩ := h11.sw.d3.kp
   have q11 := h11.up3
   refine ⟨k11, q11.cell 4, q11.cell0, q11.cell 1, q11.cell 2, q11.cell 3, q11.cell 4, q11.cell 5, fun w12 hB12 => ?_⟩
   have h12 := (h11.iv0 hB12).drop.up3.d4.up2.sw
   have hx := (hrok (by revert hok; cases is <;> simp)).1.next
   rw [hl] at h40
   obtain ⟨m, rfl⟩ : ∃ m, n = m + 1 := ⟨n - 1, by omega⟩
   refine ⟨⟨m, xs ++ [x], ps ++ [next], by simp; omega, by simp [hpl], by omega, ?_, h12⟩, ?_⟩
   · rw [hw]
     by_cases h0 : x.next = 0
     · rw [if_pos h0, if_pos ⟨by simp, h0⟩]
     · rw [if_neg h0, if_neg (fun h => h0 h.2)]
   · show 41 - l1.len < 41 - l.len
     rw [hl8, hl]; simp; omega
end
end Go.Proofs.YtgacpkgaogiocaaGreatDoor
