/- desk: what a Sync would write, Dirty, Sync, with a power that may go; Format, Open. -/
import Derived.Test.YtggachhkcmfijaaGreatDoorDd
import Derived.Test.YtggachhkcmfijaaGreatDoorCm
set_option linter.unusedVariables false
namespace Go.Proofs.YtggachhkcmfijaaGreatDoor
open Go Go.Vc Go.RowKit Go.Lib Go.Maps Go.Proofs
end Go.Proofs.YtggachhkcmfijaaGreatDoor


/- chain: walk. -/
set_option linter.unusedVariables false
namespace Go.Proofs.YtggachhkcmfijaaGreatDoor
open Go Go.Vc Go.RowKit Go.Lib Go.Maps Go.Proofs
def ELk : Enc Lk := ⟨lkCells, 6, fun _ => rfl, fun x u hu => by simp only [lkCells, List.mem_cons, List.not_mem_nil, or_false] at hu; rcases hu with rfl | rfl | rfl | rfl | rfl | rfl <;> rfl⟩
theorem elt_lk : Elt Pg T.y_sl_chain_link T.y_chain_link 6 56 := by
 refine ⟨by kernel_rfl, ?_, by decide⟩
 have h : (Pg.info? T.y_chain_link).map (fun i => (i.zero, i.size, i.bytes)) = some (some (.agg #[.int .i64 0, .int .i64 0, .int .i64 0, .int .i64 0, .int .i64 0, .string sNil]), 6, 56) := by kernel_rfl
 obtain ⟨i, hi, h2⟩ := Option.map_eq_some_iff.1 h
 simp only [Prod.mk.injEq] at h2
 exact ⟨i, _, hi, h2.1, h2.2.1, h2.2.2, rfl⟩
/-- may x stand behind these -/
def lkStep (xs : List Lk) (x : Lk) : Bool :=
 decide (x.number = xs.length) && ((match xs with | [] => true | y :: _ => decide (x.gen = y.gen) && (decide (x.tag = y.tag) && (decide (x.refs = 0) && decide (x.data ≠ [])))) && (decide (x.next = 0) || decide (x.data.length = 236)))
def walkC (D : DkV) : Nat → List Lk → List Int → Int → List Lk × List Int × Int
 | 0, _, _, _ => ([], [], 25)
 | n + 1, xs, ps, next =>
   if next ∈ ps ∨ 40 ≤ xs.length then ([], [], 25)
   else if getE D next ≠ 0 then ([], [], getE D next)
   else if (readLk (getD D next)).2 && lkStep xs (readLk (getD D next)).1 then
     if (readLk (getD D next)).1.next = 0 then (xs ++ [(readLk (getD D next)).1], ps ++ [next], 0) else walkC D n (xs ++ [(readLk (getD D next)).1]) (ps ++ [next]) (readLk (getD D next)).1.next
   else ([], [], 25)
def walkD (D : DkV) (a : Int) : List Lk × List Int × Int := walkC D 41 [] [] a
theorem lastW_len {D : DkV} {c : Nat} (hk : DOk c D) {a : Int} (h : a ∈ keysW D.ws) : (lastW D.ws a).length = 256 := (hk.ws _ (lastW_mem _ a h)).2.2.2
theorem getD_len {D : DkV} {c : Nat} (hk : DOk c D) {a : Int} (h : getE D a = 0) : (getD D a).length = 256 := by
 unfold getE at h
 unfold getD
 by_cases h1 : a ∈ keysW D.ws
 · rw [if_pos h1]; exact lastW_len hk h1
 · rw [if_neg h1] at h ⊢
   by_cases h2 : 0 ≤ a ∧ a < (D.bs.length : Int)
   · rw [if_pos h2]
     have hl := hk.len
     have hi : 111 + a.toNat < D.d.l.length := by omega
     have e : homeAt D.d a.toNat = D.d.l[111 + a.toNat] := by unfold homeAt; simp [hi]
     rw [e]
     exact hk.q.secs _ (List.getElem_mem _)
   · rw [if_neg h2] at h; simp at h
theorem n236 {x : Bs} (h : ¬ ((tx x).size : Int) = 236) : ¬ x.length = 236 := by rw [tx_size] at h; omega
theorem y236 {x : Bs} (h : ((tx x).size : Int) = 236) : x.length = 236 := by rw [tx_size] at h; omega
section
variable {w : World} {X : List As} {k g c : Nat} {D : DkV}
set_option maxHeartbeats 2000000 in
theorem walk_chain (h : St w (DeskS k g c D :: X)) {a : Int} (ha : -9223372036854775808 ≤ a ∧ a < 9223372036854775808) {R : Sl → Sl → Int → World → Prop}
   (hR : ∀ l pl w', St w' (Row ELk T.y_chain_link l (walkD D a).1 :: Row EI T.y_int pl (walkD D a).2.1 :: DeskS k g c D :: X) → R l pl (walkD D a).2.2 w') : F.chain_walk (some (blk k)) a w R := by
 apply E.chain_walk
 unfold V.chain_walk
 try simp -zeta only [ldC, soC, brC, bkA, slC, stC, alC, drC]
 try simp (config := { zeta := false }) only [cnd_all]
 have hk := DeskS.ok h
 have bad : ∀ e, walkD D a = ([], [], e) → ∀ w', St w' (DeskS k g c D :: X) → R ⟨none, 0, 0⟩ ⟨none, 0, 0⟩ e w' := fun e he w' hw => by
   rw [he] at hR
   exact hR _ _ w' ((hw.row0 EI T.y_int).row0 ELk T.y_chain_link)
 intro w0
 have h0 : St w0 (SetS w.heap.size [] :: DeskS k g c D :: X) := SetS.new h
 clear_value w0
 generalize w.heap.size = q at *
 refine ⟨fun l pl next w' => ∃ n xs ps, xs.length + n = 40 ∧ ps.length = xs.length ∧ (-9223372036854775808 ≤ next ∧ next < 9223372036854775808) ∧ walkD D a = (if xs ≠ [] ∧ next = 0 then (xs, ps, 0) else walkC D (n + 1) xs ps next) ∧ St w' (SetS q ps :: Row ELk T.y_chain_link l xs :: Row EI T.y_int pl ps :: DeskS k g c D :: X),
   fun l _ _ _ => 41 - l.len, ⟨40, [], [], rfl, rfl, ha, rfl, ((h0.sw.row0 EI T.y_int).row0 ELk T.y_chain_link).up3⟩, ?_⟩
 rintro l pl next w1 ⟨n, xs, ps, hn, hpl, hnr, hw, h1⟩
 have hl : l.len = xs.length := (h1.sw.has (by decide)).1
 refine ⟨fun w' => w' = w1 ∧ ¬ (xs ≠ [] ∧ next = 0), ⟨fun hz => ⟨rfl, fun hx => hx.1 (List.eq_nil_of_length_eq_zero (by omega))⟩, fun hz => ⟨fun hx => ⟨rfl, fun hy => hx hy.2⟩, fun hx => ?_⟩⟩, ?_⟩
 · rw [if_pos ⟨fun hy => hz (by rw [hl, hy]; rfl), hx⟩] at hw
   rw [hw] at hR
   exact hR l pl w1 h1.drop
 rintro w2 ⟨rfl, hc⟩
 rw [if_neg hc] at hw
 unfold walkC at hw
 refine SetS.look h1 hnr ⟨fun hs => ?_, fun hs => ⟨fun h40 => ?_, fun h40 => ?_⟩⟩
 · rw [if_pos (.inl (of_decide_eq_true hs))] at hw
   exact bad _ hw w2 h1.drop.drop.drop
 · rw [if_pos (.inr (by omega))] at hw
   exact bad _ hw w2 h1.drop.drop.drop
 have hs : next ∉ ps := of_decide_eq_false hs
 rw [if_neg fun h => h.elim hs fun h => by omega] at hw
 refine SetS.put h1 (by omega) hnr fun w3 h3 => Get_st h3.up3 hnr ⟨fun he => ?_, fun he => ?_⟩
 · rw [if_pos he] at hw
   exact bad _ hw w3 h3.drop.drop.drop
 rw [if_neg (by simpa using he)] at hw
 have hgl := getD_len hk he
 refine read_link h3 (by omega) fun w4 h4 => ?_
 have hrok := @readLk_ok (getD D next)
 generalize readLk (getD D next) = r at *
 obtain ⟨x, is⟩ := r
 simp only at hw hrok
 dsimp -zeta only
 intro wa1
 replace h4 : St wa1 (Cs _ _ _ :: _) := h4.new _ _
 clear_value wa1
 refine ⟨h4.wr0 (by simp), ?_⟩
 intro wa2
 replace h4 : St wa2 _ := h4.set0 _
 clear_value wa2
 refine ⟨h4.wr (by simp), ?_⟩
 intro wa3
 replace h4 : St wa3 _ := h4.set 1 _
 clear_value wa3
 refine ⟨h4.wr (by simp), ?_⟩
 intro wa4
 replace h4 : St wa4 _ := h4.set 2 _
 clear_value wa4
 refine ⟨h4.wr (by simp), ?_⟩
 intro wa5
 replace h4 : St wa5 _ := h4.set 3 _
 clear_value wa5
 refine ⟨h4.wr (by simp), ?_⟩
 intro wa6
 replace h4 : St wa6 _ := h4.set 4 _
 clear_value wa6
 refine ⟨h4.wr (by simp), ?_⟩
 intro wa7
 replace h4 : St wa7 _ := h4.set 5 _
 clear_value wa7
 simp only [List.set_cons_zero, List.set_cons_succ] at h4
 generalize w4.heap.size = z at *
 -- Cs z :: SetS q :: Row ELk :: Row EI :: Desk :: X
 refine ⟨fun w' => (is && lkStep xs x) = true ∧ St w' (Cs z (lkCells x) T.y_chain_link :: SetS q (ps ++ [next]) :: Row ELk T.y_chain_link l xs :: Row EI T.y_int pl ps :: DeskS k g c D :: X), ?_, ?_⟩
 · intro wa8
   replace h4 : St wa8 _ := h4.drew
   clear_value wa8
   have hd := h4.drop.drop.drop.drop
   have no : (is && lkStep xs x) = false → ∀ w', St w' (DeskS k g c D :: X) → R ⟨none, 0, 0⟩ ⟨none, 0, 0⟩ 25 w' := fun hf w' hw' => by
     rw [if_neg (by rw [hf]; decide)] at hw
     exact bad _ hw w' hw'
   refine ⟨fun g1 => no (by simp [g1]) _ hd, fun g1 => ⟨_, h4.cell 2, fun g2 => no (by rw [hl] at g2; simp [lkStep, g2]) _ hd, fun g2 => ?_⟩⟩
   rw [hl] at g2 ⊢
   rcases xs with _ | ⟨y, ys⟩
   · refine ⟨fun g3 => by simp at g3, fun g3 => ⟨_, h4.cell 4, fun g9 => ⟨_, h4.cell 5, fun g10 => no (by simp [lkStep, g9, n236 g10]) _ hd, fun g10 => ⟨by simp [lkStep, g1, g2, y236 g10], h4⟩⟩, fun g9 => ⟨by simp [lkStep, g1, g2, g9], h4⟩⟩⟩
   · obtain ⟨ad, had, hlt, hc⟩ := (h4.up2.has (by decide)).at (j := 0) (by simp)
     have hc0 := hc 0 _ rfl
     rw [addr_add0] at hc0
     refine ⟨fun g3 => ⟨_, h4.cell0, ad, had, by decide, g3, _, by simpa [addr_add0] using hc0, fun g5 => no (by simp [lkStep, g5]) _ hd, fun g5 => ⟨_, h4.cell 1, ad, had, by decide, g3, _, by simpa [addr_add0] using hc 1 _ rfl, fun g6 => no (by simp [lkStep, g6]) _ hd, fun g6 => ⟨_, h4.cell 3, fun g7 => no (by simp [lkStep, g7]) _ hd, fun g7 => ⟨_, h4.cell 5, fun g8 => ?_, fun g8 => ⟨_, h4.cell 4, fun g9 => ⟨_, h4.cell 5, fun g10 => ?_, fun g10 => ?_⟩, fun g9 => ?_⟩⟩⟩⟩⟩, fun g3 => by simp at g3⟩
     all_goals rw [tx_nil, tx_eq] at g8
     · exact no (by simp [lkStep, of_decide_eq_true g8]) _ hd
     all_goals have g8 := of_decide_eq_false g8
     · exact no (by simp [lkStep, g9, n236 g10]) _ hd
     · refine ⟨?_, h4⟩
       simp [lkStep, g1, g2, g5, g6, g7, g8, y236 g10]
     · exact ⟨by simp [lkStep, g1, g2, g5, g6, g7, g8, g9], h4⟩
 · rintro w5 ⟨hok, h5⟩
   rw [if_pos hok] at hw
   intro wa9
   replace h5 : St wa9 _ := h5.drew
   clear_value wa9
   refine ⟨_, h5.cell0, _, h5.cell 1, _, h5.cell 2, _, h5.cell 3, _, h5.cell 4, _, h5.cell 5, ?_⟩
   refine ⟨_, h5.cell 4, fun w6 g hB6 hg6 hn6 ho6 w7 hB7 => ?_⟩
   have h7 := (h5.fz.iv hB6 hg6 hn6 ho6).iv0 hB7
   refine St.app elt_lk h7.up4 (sl := ⟨some (blk g), 1, 1⟩) (ys := [x]) (h7.sw.lit rfl (Enc.all_one1 ELk x).symm 1) rfl (by simp; omega) (by simp; omega) fun l1 w8 h8 hl8 => ?_
   obtain ⟨k8, h8⟩ := h8.sw.d3.kp
   have q8 := h8.up2
   refine ⟨k8, q8.cell 4, q8.cell0, q8.cell 1, q8.cell 2, q8.cell 3, q8.cell 4, q8.cell 5, fun w9 g1 hB9 hg9 hn9 ho9 w10 hB10 => ?_⟩
   have h10 := (h8.iv hB9 hg9 hn9 ho9).iv0 hB10
   refine St.app elt_int h10.up5 (sl := ⟨some (blk g1), 1, 1⟩) (ys := [next]) (h10.sw.lit (xs := [next]) rfl rfl 1) rfl (by simp; omega) (by simp; omega) fun l2 w11 h11 hl11 => ?_
   obtain ⟨k11, h11⟩ := h11.sw.d3.kp
   have q11 := h11.up3
   refine ⟨k11, q11.cell 4, q11.cell0, q11.cell 1, q11.cell 2, q11.cell 3, q11.cell 4, q11.cell 5, fun w12 hB12 => ?_⟩
   have h12 := (h11.iv0 hB12).drop.up3.d4.up2.sw
   have hx := (hrok (by revert hok; cases is <;> simp)).1.next
   rw [hl] at h40
   obtain ⟨m, rfl⟩ : ∃ m, n = m + 1 := ⟨n - 1, by omega⟩
   refine ⟨⟨m, xs ++ [x], ps ++ [next], by simp; omega, by simp [hpl], by omega, ?_, h12⟩, ?_⟩
   · rw [hw]
     by_cases h0 : x.next = 0
     · rw [if_pos h0, if_pos ⟨by simp, h0⟩]
     · rw [if_neg h0, if_neg (fun h => h0 h.2)]
   · show 41 - l1.len < 41 - l.len
     rw [hl8, hl]; simp; omega
end
end Go.Proofs.YtggachhkcmfijaaGreatDoor

/- chain: which chain is where; in plain words. -/
set_option linter.unusedVariables false
namespace Go.Proofs.YtggachhkcmfijaaGreatDoor
open Go Go.Vc Go.RowKit Go.Lib
/-! ### Sectors that are free -/
def freeN (bs : List Bool) : Nat := bs.countP fun b => !b
def takeN (bs : List Bool) : Nat → List Bool
 | 0 => bs
 | j + 1 => (takeN bs j).set (freeAt (takeN bs j)) true
theorem takeN_len (bs : List Bool) : ∀ j, (takeN bs j).length = bs.length
 | 0 => rfl
 | j + 1 => by rw [takeN, List.length_set, takeN_len bs j]
theorem freeN_pos {bs : List Bool} : freeAt bs < bs.length ↔ 0 < freeN bs := by
 unfold freeAt freeN
 rw [List.findIdx_lt_length, List.countP_pos_iff]
theorem freeN_set : ∀ {bs : List Bool}, freeAt bs < bs.length → freeN (bs.set (freeAt bs) true) + 1 = freeN bs
 | [], h => by simp at h
 | b :: r, h => by
   cases b
   · have e : freeAt (false :: r) = 0 := by simp [freeAt, List.findIdx_cons]
     rw [e]; simp [freeN]
   · have e : freeAt (true :: r) = freeAt r + 1 := by simp [freeAt, List.findIdx_cons]
     rw [e] at h ⊢
     have ih := freeN_set (bs := r) (by simpa using h)
     simpa [freeN] using ih
theorem freeN_take {bs : List Bool} : ∀ {j : Nat}, j ≤ freeN bs → freeN (takeN bs j) + j = freeN bs
 | 0, _ => rfl
 | j + 1, h => by
   have ih := freeN_take (bs := bs) (j := j) (by omega)
   have h2 : freeAt (takeN bs j) < (takeN bs j).length := freeN_pos.2 (by omega)
   have := freeN_set h2
   rw [takeN]; omega
theorem take_lt {bs : List Bool} {j : Nat} (h : j < freeN bs) : freeAt (takeN bs j) < bs.length := by
 have := freeN_take (bs := bs) (j := j) (by omega)
 rw [← takeN_len bs j]
 exact freeN_pos.2 (by omega)
theorem take_full {bs : List Bool} : freeAt (takeN bs (freeN bs)) = bs.length := by
 have h1 := freeN_take (bs := bs) (j := freeN bs) (Nat.le_refl _)
 have h2 : ¬ freeAt (takeN bs (freeN bs)) < (takeN bs (freeN bs)).length := fun h => by have := freeN_pos.1 h; omega
 have h3 : freeAt (takeN bs (freeN bs)) ≤ (takeN bs (freeN bs)).length := List.findIdx_le_length
 rw [takeN_len] at h2 h3; omega
theorem take_get (bs : List Bool) : ∀ (j i : Nat), i < bs.length → ((takeN bs j).getD i false = true ↔ bs.getD i false = true ∨ ∃ t, t < j ∧ freeAt (takeN bs t) = i)
 | 0, i, hi => by simp [takeN]
 | j + 1, i, hi => by
   have ih := take_get bs j i hi
   have hl := takeN_len bs j
   rw [takeN]
   by_cases he : freeAt (takeN bs j) = i
   · have : ((takeN bs j).set (freeAt (takeN bs j)) true).getD i false = true := by rw [he]; simp [hl, hi]
     rw [this]
     simp only [true_iff]
     exact .inr ⟨j, Nat.lt_succ_self j, he⟩
   · have : ((takeN bs j).set (freeAt (takeN bs j)) true).getD i false = (takeN bs j).getD i false := by
       simp only [List.getD_eq_getElem?_getD]
       rw [List.getElem?_set_ne he]
     rw [this, ih]
     constructor
     · rintro (h | ⟨t, ht, h⟩)
       · exact .inl h
       · exact .inr ⟨t, by omega, h⟩
     · rintro (h | ⟨t, ht, h⟩)
       · exact .inl h
       · rcases Nat.lt_succ_iff_lt_or_eq.1 ht with h2 | h2
         · exact .inr ⟨t, h2, h⟩
         · subst h2; exact absurd h he
theorem take_ne {bs : List Bool} {s t : Nat} (hst : s < t) (ht : t < freeN bs) : freeAt (takeN bs s) ≠ freeAt (takeN bs t) := fun e => by
 have h1 := take_lt ht
 have h2 : freeAt (takeN bs t) < (takeN bs t).length := by rw [takeN_len]; exact h1
 have h3 := free_false h2
 have h4 := (take_get bs t _ h1).2 (.inr ⟨s, hst, e⟩)
 rw [h3] at h4; cases h4
theorem take_was {bs : List Bool} {t : Nat} (ht : t < freeN bs) : bs.getD (freeAt (takeN bs t)) false = false := by
 have h1 := take_lt ht
 have h3 := free_false (bs := takeN bs t) (by rw [takeN_len]; exact h1)
 cases h : bs.getD (freeAt (takeN bs t)) false with
 | false => rfl
 | true => rw [(take_get bs t _ h1).2 (.inl h)] at h3; cases h3
theorem freeN_all (bs : List Bool) : bs.length - (allL bs bs.length).length = freeN bs := by
 have h1 : ∀ m, m ≤ bs.length → (allL bs m).length = (bs.take m).countP id := by
   intro m
   induction m with
   | zero => intro _; rfl
   | succ m ih =>
     intro hm
     have ih := ih (by omega)
     rw [allL_succ, List.take_succ_eq_append_getElem (by omega), List.countP_append]
     have e : bs.getD m false = bs[m] := by simp [show m < bs.length by omega]
     rw [e]
     cases bs[m] <;> simp [ih]
 have h2 : bs.countP id + freeN bs = bs.length := by
   unfold freeN
   rw [List.length_eq_countP_add_countP (p := id)]
   congr 2
   funext x
   cases x <;> rfl
 have := h1 bs.length (Nat.le_refl _)
 rw [List.take_length] at this
 omega
/-! ### What a desk tells of sectors behind a change -/
theorem mem_keysW {ws : List Wr1} {p : Wr1} {a : Int} : a ∈ keysW (ws ++ [p]) ↔ a ∈ keysW ws ∨ a = p.1 := by simp [keysW]
theorem get_new (D : DkV) (v : Bs) (a : Int) : getD (newD' D v) a = (if a = (freeAt D.bs : Int) then v else getD D a) ∧ getE (newD' D v) a = if a = (freeAt D.bs : Int) then 0 else getE D a := by
 unfold getD getE newD'
 simp only [mem_keysW, lastW_app, List.length_set]
 by_cases h : a = (freeAt D.bs : Int)
 · simp [h]
 · have h2 : ¬ (freeAt D.bs : Int) = a := fun e => h e.symm
   simp [h, h2]
/-! ### Chains -/
structure Chn (n : Nat) (L : Nat → Lk) (P : Nat → Int) : Prop where
 pos : 1 ≤ n ∧ n ≤ 40
 inj : ∀ i j, i < n → j < n → P i = P j → i = j
 ok : ∀ i, i < n → LkOk (L i)
 step : ∀ i, i < n → lkStep ((List.range i).map L) (L i) = true
 next : ∀ i, i < n → (L i).next = if i + 1 < n then P (i + 1) else 0
 nz : ∀ i, i < n → P i ≠ 0
/-- its first m sectors are there -/
def HasC (D : DkV) (L : Nat → Lk) (P : Nat → Int) (m : Nat) : Prop := ∀ i, i < m → getE D (P i) = 0 ∧ getD D (P i) = layLk (L i)
theorem Chn.to {n : Nat} {L : Nat → Lk} {P : Nat → Int} (h : Chn n L P) {D : DkV} : ∀ {j : Nat}, j < n → HasC D L P j → walkD D (P 0) = walkC D (41 - j) ((List.range j).map L) ((List.range j).map P) (P j)
 | 0, _, _ => rfl
 | j + 1, hj, hg => by
   rw [h.to (j := j) (by omega) (fun i hi => hg i (by omega))]
   have hp := h.pos
   have e1 : 41 - j = (40 - j) + 1 := by omega
   rw [e1, walkC]
   have hn : ¬ (P j ∈ (List.range j).map P ∨ 40 ≤ ((List.range j).map L).length) := by
     rintro (hm | hm)
     · obtain ⟨i, hi, he⟩ := List.mem_map.1 hm
       have hi := List.mem_range.1 hi
       have := h.inj i j (by omega) (by omega) he
       omega
     · simp at hm; omega
   obtain ⟨g1, g2⟩ := hg j (Nat.lt_succ_self j)
   rw [if_neg hn, if_neg (by simp [g1]), g2, readLk_lay (h.ok j (by omega))]
   have hs := h.step j (by omega)
   have hx := h.next j (by omega)
   rw [if_pos hj] at hx
   simp only [Bool.true_and, hs, if_true]
   rw [if_neg (by rw [hx]; exact h.nz _ hj), hx]
   have e2 : 40 - j = 41 - (j + 1) := by omega
   rw [e2, List.range_succ, List.map_append, List.map_append]
   rfl
theorem Chn.walk {n : Nat} {L : Nat → Lk} {P : Nat → Int} (h : Chn n L P) {D : DkV} (hg : HasC D L P n) : walkD D (P 0) = ((List.range n).map L, (List.range n).map P, 0) := by
 have hp := h.pos
 obtain ⟨j, rfl⟩ : ∃ j, n = j + 1 := ⟨n - 1, by omega⟩
 rw [h.to (j := j) (Nat.lt_succ_self j) (fun i hi => hg i (by omega))]
 have e1 : 41 - j = (40 - j) + 1 := by omega
 rw [e1, walkC]
 have hn : ¬ (P j ∈ (List.range j).map P ∨ 40 ≤ ((List.range j).map L).length) := by
   rintro (hm | hm)
   · obtain ⟨i, hi, he⟩ := List.mem_map.1 hm
     have hi := List.mem_range.1 hi
     have := h.inj i j (by omega) (by omega) he
     omega
   · simp at hm; omega
 obtain ⟨g1, g2⟩ := hg j (Nat.lt_succ_self j)
 rw [if_neg hn, if_neg (by simp [g1]), g2, readLk_lay (h.ok j (by omega))]
 have hs := h.step j (by omega)
 have hx := h.next j (by omega)
 rw [if_neg (by omega)] at hx
 simp only [Bool.true_and, hs, if_true]
 rw [if_pos hx, List.range_succ, List.map_append, List.map_append]
 rfl
/-! ### What Put makes -/
def needN (len : Nat) : Nat := if len = 0 then 1 else (len - 1) / 236 + 1
def partB (b : Bs) (i : Nat) : Bs := (b.drop (i * 236)).take 236
def lkOf (gen tag : Int) (b : Bs) (i : Nat) (next : Int) : Lk := ⟨gen, tag, i, if i = 0 then 1 else 0, next, partB b i⟩
def putS (D : DkV) (gen tag : Int) (b : Bs) (n : Nat) : Nat → DkV × Int
 | 0 => (D, 0)
 | j + 1 => (newD' (putS D gen tag b n j).1 (layLk (lkOf gen tag b (n - 1 - j) (putS D gen tag b n j).2)), freeAt (putS D gen tag b n j).1.bs)
section
variable {D : DkV} {gen tag : Int} {b : Bs} {n : Nat}
theorem putS_bs : ∀ j, (putS D gen tag b n j).1.bs = takeN D.bs j
 | 0 => rfl
 | j + 1 => by rw [putS, takeN, ← putS_bs j]; rfl
theorem putS_same : ∀ j, (putS D gen tag b n j).1.d = D.d ∧ (putS D gen tag b n j).1.seq = D.seq ∧ (putS D gen tag b n j).1.commits = D.commits ∧ (putS D gen tag b n j).1.syncs = D.syncs
 | 0 => ⟨rfl, rfl, rfl, rfl⟩
 | j + 1 => putS_same j
theorem putS_back (j : Nat) : backD (putS D gen tag b n j).1 D = D := by
 obtain ⟨h1, h2, h3, h4⟩ := putS_same (D := D) (gen := gen) (tag := tag) (b := b) (n := n) j
 unfold backD
 rw [h1, h2, h3, h4]
/-- where the piece i of a chain of n lies -/
def placeP (D : DkV) (n i : Nat) : Int := if i < n then (freeAt (takeN D.bs (n - 1 - i)) : Int) else 0
def linkP (D : DkV) (gen tag : Int) (b : Bs) (n i : Nat) : Lk := lkOf gen tag b i (placeP D n (i + 1))
theorem putS_at : ∀ j, j ≤ n → (putS D gen tag b n j).2 = placeP D n (n - j)
 | 0, _ => by unfold placeP; rw [if_neg (by omega)]; rfl
 | j + 1, hj => by
   unfold placeP
   rw [if_pos (by omega), putS, putS_bs]
   have : n - 1 - (n - (j + 1)) = j := by omega
   rw [this]
theorem putS_get : ∀ j, j ≤ n → j ≤ freeN D.bs →
   (∀ i, n - j ≤ i → i < n → getE (putS D gen tag b n j).1 (placeP D n i) = 0 ∧ getD (putS D gen tag b n j).1 (placeP D n i) = layLk (linkP D gen tag b n i)) ∧
   (∀ a : Int, (∀ i, n - j ≤ i → i < n → placeP D n i ≠ a) → getE (putS D gen tag b n j).1 a = getE D a ∧ getD (putS D gen tag b n j).1 a = getD D a)
 | 0, _, _ => ⟨fun i h1 h2 => by omega, fun a _ => ⟨rfl, rfl⟩⟩
 | j + 1, hj, hf => by
   obtain ⟨ih1, ih2⟩ := putS_get j (by omega) (by omega)
   have hg := get_new (putS D gen tag b n j).1 (layLk (lkOf gen tag b (n - 1 - j) (putS D gen tag b n j).2))
   have hp : placeP D n (n - 1 - j) = (freeAt (putS D gen tag b n j).1.bs : Int) := by
     unfold placeP
     rw [if_pos (by omega), putS_bs]
     have : n - 1 - (n - 1 - j) = j := by omega
     rw [this]
   have hne : ∀ i, n - j ≤ i → i < n → placeP D n i ≠ (freeAt (putS D gen tag b n j).1.bs : Int) := fun i h1 h2 he => by
     unfold placeP at he
     rw [if_pos h2, putS_bs] at he
     have := take_ne (bs := D.bs) (s := n - 1 - i) (t := j) (by omega) (by omega)
     omega
   rw [putS]
   simp only
   refine ⟨fun i h1 h2 => ?_, fun a ha => ?_⟩
   · by_cases hi : i = n - 1 - j
     · subst hi
       rw [(hg _).1, (hg _).2, hp, if_pos rfl, if_pos rfl]
       refine ⟨rfl, ?_⟩
       unfold linkP
       rw [putS_at j (by omega)]
       have : n - 1 - j + 1 = n - j := by omega
       rw [this]
     · have h3 := hne i (by omega) h2
       rw [(hg _).1, (hg _).2, if_neg h3, if_neg h3]
       exact ih1 i (by omega) h2
   · have h3 : a ≠ (freeAt (putS D gen tag b n j).1.bs : Int) := fun e => ha (n - 1 - j) (by omega) (by omega) (hp.trans e.symm)
     rw [(hg _).1, (hg _).2, if_neg h3, if_neg h3]
     exact ih2 a fun i h1 h2 => ha i (by omega) h2
theorem needN_pos (l : Nat) : 1 ≤ needN l := by unfold needN; split <;> omega
theorem partB_len (i : Nat) : (partB b i).length = min 236 (b.length - i * 236) := by simp [partB]
theorem partB_full {i : Nat} (h : i + 1 < needN b.length) : (partB b i).length = 236 := by
 rw [partB_len]
 unfold needN at h
 split at h <;> omega
theorem partB_ne {i : Nat} (h : i < needN b.length) (h0 : 0 < i) : partB b i ≠ [] := fun e => by
 have := partB_len (b := b) i
 rw [e] at this
 unfold needN at h
 split at h
 · omega
 · simp at this; omega
theorem partB_all : ∀ m, ((List.range m).map (partB b)).flatten = b.take (m * 236)
 | 0 => by simp
 | m + 1 => by
   rw [List.range_succ, List.map_append, List.flatten_append, partB_all m]
   simp only [List.map_cons, List.map_nil, List.flatten_cons, List.flatten_nil, List.append_nil, partB]
   rw [Nat.add_mul, Nat.one_mul, List.take_add]
theorem partB_whole (h : b.length ≤ 9440) : ((List.range (needN b.length)).map (partB b)).flatten = b := by
 rw [partB_all, List.take_of_length_le]
 unfold needN
 split <;> omega
/-- a chain that Put made -/
theorem putS_chn (hg : 1 ≤ gen ∧ gen ≤ 3) (ht : 0 ≤ tag ∧ tag ≤ 200) (hb : b.length ≤ 9440) (hn : n = needN b.length) (hf : n ≤ freeN D.bs) (hl : D.bs.length ≤ 2000) (h0 : D.bs.getD 0 false = true) :
   Chn n (linkP D gen tag b n) (placeP D n) := by
 have hn1 := needN_pos b.length
 have hn2 : n ≤ 40 := by rw [hn]; unfold needN; split <;> omega
 have hpl : ∀ i, i < n → placeP D n i = (freeAt (takeN D.bs (n - 1 - i)) : Int) ∧ freeAt (takeN D.bs (n - 1 - i)) < D.bs.length := fun i hi => ⟨by unfold placeP; rw [if_pos hi], take_lt (by omega)⟩
 have hnz : ∀ i, i < n → placeP D n i ≠ 0 := fun i hi he => by
   rw [(hpl i hi).1] at he
   have h1 := take_was (bs := D.bs) (t := n - 1 - i) (by omega)
   have h2 : freeAt (takeN D.bs (n - 1 - i)) = 0 := by omega
   rw [h2, h0] at h1; cases h1
 refine ⟨⟨by omega, hn2⟩, fun i j hi hj he => ?_, fun i hi => ?_, fun i hi => ?_, fun i hi => ?_, hnz⟩
 · rw [(hpl i hi).1, (hpl j hj).1] at he
   rcases Nat.lt_trichotomy i j with h | h | h
   · exact absurd (by omega : freeAt (takeN D.bs (n - 1 - j)) = freeAt (takeN D.bs (n - 1 - i))) (take_ne (by omega) (by omega))
   · exact h
   · exact absurd (by omega : freeAt (takeN D.bs (n - 1 - i)) = freeAt (takeN D.bs (n - 1 - j))) (take_ne (by omega) (by omega))
 · refine ⟨hg, ht, ⟨by show (0 : Int) ≤ (i : Int); omega, by show (i : Int) < 256; omega⟩, ?_, ?_, ?_⟩
   · show 0 ≤ (if i = 0 then (1 : Int) else 0) ∧ (if i = 0 then (1 : Int) else 0) < 65536
     split <;> omega
   · show 0 ≤ placeP D n (i + 1) ∧ placeP D n (i + 1) < 65536
     by_cases h : i + 1 < n
     · have := hpl (i + 1) h; omega
     · unfold placeP; rw [if_neg h]; omega
   · show (partB b i).length ≤ 236
     rw [partB_len]; omega
 · have hd : decide ((linkP D gen tag b n i).next = 0) = true ∨ decide ((linkP D gen tag b n i).data.length = 236) = true := by
     by_cases h : i + 1 < n
     · right
       rw [decide_eq_true_eq]
       exact partB_full (by omega)
     · left
       rw [decide_eq_true_eq]
       show placeP D n (i + 1) = 0
       unfold placeP; rw [if_neg h]
   have hnum : (linkP D gen tag b n i).number = ((List.range i).map (linkP D gen tag b n)).length := by simp; rfl
   unfold lkStep
   rcases i with _ | i
   · simp only [hnum, decide_true, Bool.true_and]
     simp only [List.range_zero, List.map_nil, Bool.true_and]
     rcases hd with h | h <;> simp [h]
   · have e : (List.range (i + 1)).map (linkP D gen tag b n) = linkP D gen tag b n 0 :: (List.range i).map fun t => linkP D gen tag b n (t + 1) := by
       rw [List.range_succ_eq_map]; simp [Function.comp_def]
     rw [e] at hnum ⊢
     have h1 : partB b (i + 1) ≠ [] := partB_ne (by omega) (by omega)
     have h2 : (linkP D gen tag b n (i + 1)).data ≠ [] := h1
     have h3 : (linkP D gen tag b n (i + 1)).refs = 0 := rfl
     have h4 : (linkP D gen tag b n (i + 1)).gen = (linkP D gen tag b n 0).gen := rfl
     have h5 : (linkP D gen tag b n (i + 1)).tag = (linkP D gen tag b n 0).tag := rfl
     simp only [hnum, h2, h3, h4, h5, decide_true, Bool.true_and, ne_eq, not_false_iff]
     rcases hd with h | h <;> simp [h]
 · show placeP D n (i + 1) = _
   by_cases h : i + 1 < n
   · rw [if_pos h]
   · rw [if_neg h]; unfold placeP; rw [if_neg h]
end
end Go.Proofs.YtggachhkcmfijaaGreatDoor
