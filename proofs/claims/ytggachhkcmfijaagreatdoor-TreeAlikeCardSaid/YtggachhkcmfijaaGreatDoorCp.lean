/- chain: Need, Put, Sectors, Get, Refs, Drop. -/
import Derived.Test.YtggachhkcmfijaaGreatDoorCo
set_option linter.unusedVariables false
namespace Go.Proofs.YtggachhkcmfijaaGreatDoor
open Go Go.Vc Go.RowKit Go.Lib
section
variable {w : World} {X : List As} {k g c : Nat} {D : DkV}
theorem Need_chain {n : Nat} (hn : n ≤ 1000000000) {R : Int → World → Prop} (hR : R (needN n : Int) w) : F.chain_Need (n : Int) w R := by
 apply E.chain_Need
 unfold V.chain_Need
 try simp -zeta only [ldC, soC, brC, bkA, slC, stC, alC, drC]
 try simp (config := { zeta := false }) only [cnd_all]
 refine ⟨fun h => by omega, fun _ => ⟨fun h => ?_, fun h => ⟨by decide, ?_⟩⟩⟩
 · have e : needN n = 1 := by unfold needN; rw [if_pos (by omega)]
   rw [e] at hR; exact hR
 · have e1 : w64 ((n : Int) - 1) = ((n - 1 : Nat) : Int) := by rw [w64_id (by omega) (by omega)]; omega
   have e2 : (((n - 1 : Nat) : Int)).tdiv 236 = (((n - 1) / 236 : Nat) : Int) := (Int.ofNat_tdiv (n - 1) 236).symm
   have e3 : w64 (((n - 1) / 236 : Nat) : Int) = (((n - 1) / 236 : Nat) : Int) := w64_id (by omega) (by omega)
   rw [e1, e2, e3, w64_id (by omega) (by omega)]
   have e : (needN n : Int) = (((n - 1) / 236 : Nat) : Int) + 1 := by unfold needN; rw [if_neg (by omega)]; omega
   rw [e] at hR; exact hR
theorem lkOf_ok {gen tag next : Int} {b : Bs} {i : Nat} (hg : 1 ≤ gen ∧ gen ≤ 3) (ht : 0 ≤ tag ∧ tag ≤ 200) (hi : i < 256) (hn : 0 ≤ next ∧ next < 65536) : LkOk (lkOf gen tag b i next) := by
 refine ⟨hg, ht, ⟨by show (0 : Int) ≤ (i : Int); omega, by show (i : Int) < 256; omega⟩, ?_, hn, ?_⟩
 · show 0 ≤ (if i = 0 then (1 : Int) else 0) ∧ (if i = 0 then (1 : Int) else 0) < 65536
   split <;> omega
 · show (partB b i).length ≤ 236
   rw [partB_len]; omega
theorem placeP_range (D : DkV) (n i : Nat) : 0 ≤ placeP D n i ∧ placeP D n i ≤ D.bs.length := by
 unfold placeP
 split
 · have : freeAt (takeN D.bs (n - 1 - i)) ≤ (takeN D.bs (n - 1 - i)).length := List.findIdx_le_length
   rw [takeN_len] at this
   omega
 · omega
set_option maxHeartbeats 1000000 in
theorem Put_chain (h : St w (DeskS k g c D :: X)) {gen tag : Int} {b : Bs} (hg : 1 ≤ gen ∧ gen ≤ 3) (ht : 0 ≤ tag ∧ tag ≤ 200) (hb : b.length ≤ 9440) (hc : c ≤ 900000) {R : Int → Int → World → Prop}
   (hF : ∀ w', freeN D.bs < needN b.length → St w' (DeskS k g (c + 40) D :: X) → R 0 20 w')
   (hR : ∀ w', needN b.length ≤ freeN D.bs → St w' (DeskS k g (c + 40) (putS D gen tag b (needN b.length) (needN b.length)).1 :: X) → R (placeP D (needN b.length) 0) 0 w') : F.chain_Put (some (blk k)) gen tag (tx b) w R := by
 apply E.chain_Put
 unfold V.chain_Put
 try simp -zeta only [ldC, soC, brC, bkA, slC, stC, alC, drC]
 try simp (config := { zeta := false }) only [cnd_all]
 have hk := DeskS.ok h
 have hbl := hk.bsl
 refine ⟨fun v w' => v = false ∧ w' = w, ⟨fun h => by omega, fun _ => ⟨fun h => by omega, fun _ => ⟨fun h => by omega, fun _ => ⟨decide_eq_false (by omega), rfl⟩⟩⟩⟩, ?_⟩
 rintro v w' ⟨rfl, rfl⟩
 refine ⟨fun h => (by cases h), fun _ => ⟨fun h => by omega, fun _ => Mark_st h fun r mb w1 h1 => ?_⟩⟩
 intro wa1
 replace h1 : St wa1 (Cs _ _ _ :: _) := h1.new _ _
 clear_value wa1
 refine ⟨h1.wr0 (by simp), ?_⟩
 intro wa2
 replace h1 : St wa2 _ := h1.set0 _
 clear_value wa2
 refine ⟨h1.wr (by simp), ?_⟩
 intro wa3
 replace h1 : St wa3 _ := h1.set 1 _
 clear_value wa3
 refine ⟨h1.wr (by simp), ?_⟩
 intro wa4
 replace h1 : St wa4 _ := h1.set 2 _
 clear_value wa4
 refine ⟨h1.wr (by simp), ?_⟩
 intro wa5
 replace h1 : St wa5 _ := h1.set 3 _
 clear_value wa5
 simp only [List.set_cons_zero, List.set_cons_succ] at h1
 generalize w1.heap.size = z at *
 have hN1 := needN_pos b.length
 have hN2 : needN b.length ≤ 40 := by unfold needN; split <;> omega
 refine Need_chain (by omega) ?_
 have hS := fun j => putS_same (D := D) (gen := gen) (tag := tag) (b := b) (n := needN b.length) j
 have hBs := fun j => putS_bs (D := D) (gen := gen) (tag := tag) (b := b) (n := needN b.length) j
 have hAt := fun j => putS_at (D := D) (gen := gen) (tag := tag) (b := b) (n := needN b.length) j
 have hSu : ∀ j, putS D gen tag b (needN b.length) (j + 1) = (newD' (putS D gen tag b (needN b.length) j).1 (layLk (lkOf gen tag b (needN b.length - 1 - j) (putS D gen tag b (needN b.length) j).2)), (freeAt (putS D gen tag b (needN b.length) j).1.bs : Int)) := fun j => rfl
 have hB := fun j => putS_back (D := D) (gen := gen) (tag := tag) (b := b) (n := needN b.length) j
 generalize hN : needN b.length = N at *
 refine ⟨fun at_ n2 w' => ∃ j : Nat, j ≤ N ∧ n2 = (N : Int) - 1 - j ∧ at_ = (putS D gen tag b N j).2 ∧ j ≤ freeN D.bs ∧
     St w' (DeskS k g (c + j) (putS D gen tag b N j).1 :: Cs z [.pointer (some (blk k)), .pointer (some (blk r)), .map (some mb), .int .i64 D.syncs] T.y_desk_Mark :: RoomS r D.bs :: MapS mb D.ws :: X),
   fun _ n2 _ => (n2 + 1).toNat, ⟨0, Nat.zero_le _, by rw [w64_id (by omega) (by omega)]; omega, rfl, Nat.zero_le _, h1.up3⟩, ?_⟩
 rintro at_ n2 w2 ⟨j, hj, rfl, rfl, hjf, h2⟩
 refine ⟨fun hge => ?_, fun hlt => ?_⟩
 · obtain ⟨i, hi, hi2⟩ : ∃ i : Nat, (N : Int) - 1 - j = i ∧ i = N - 1 - j := ⟨N - 1 - j, by omega, rfl⟩
   rw [hi]
   have e1 : w64 ((i : Int) * 236) = ((i * 236 : Nat) : Int) := by rw [w64_id (by omega) (by omega)]; omega
   have e2 : w64 (w64 ((i : Int) + 1) * 236) = (((i + 1) * 236 : Nat) : Int) := by rw [w64_succ (by omega), w64_id (by omega) (by omega)]; omega
   have e3 : imin (((i + 1) * 236 : Nat) : Int) (b.length : Int) = ((min ((i + 1) * 236) b.length : Nat) : Int) := by unfold imin; split <;> omega
   rw [e1, e2, e3, Int.toNat_natCast, Int.toNat_natCast]
   have e4 : (tx b).extract (i * 236) (min ((i + 1) * 236) b.length) = tx (partB b i) := by
     rw [tx_ext]
     congr 1
     unfold partB
     apply List.ext_getElem?
     intro t
     simp only [List.getElem?_take, List.getElem?_drop]
     by_cases ht1 : t < 236
     · rw [if_pos ht1]
       split
       · rfl
       · rw [List.getElem?_eq_none (by omega)]
     · rw [if_neg ht1, if_neg (by omega)]
   rw [e4]
   have hib : i * 236 ≤ b.length := by
     unfold needN at hN
     split at hN <;> omega
   refine ⟨by omega, by omega, by omega, ?_⟩
   intro wa6
   replace h2 : St wa6 (Cs _ _ _ :: _) := h2.new _ _
   clear_value wa6
   refine ⟨h2.wr0 (by simp), ?_⟩
   intro wa7
   replace h2 : St wa7 _ := h2.set0 _
   clear_value wa7
   refine ⟨h2.wr (by simp), ?_⟩
   intro wa8
   replace h2 : St wa8 _ := h2.set 1 _
   clear_value wa8
   refine ⟨h2.wr (by simp), ?_⟩
   intro wa9
   replace h2 : St wa9 _ := h2.set 2 _
   clear_value wa9
   refine ⟨h2.wr (by simp), ?_⟩
   intro wa10
   replace h2 : St wa10 _ := h2.set 3 _
   clear_value wa10
   refine ⟨h2.wr (by simp), ?_⟩
   intro wa11
   replace h2 : St wa11 _ := h2.set 4 _
   clear_value wa11
   refine ⟨h2.wr (by simp), ?_⟩
   intro wa12
   replace h2 : St wa12 _ := h2.set 5 _
   clear_value wa12
   simp only [List.set_cons_zero, List.set_cons_succ] at h2
   generalize w2.heap.size = y at *
   refine ⟨fun w' => St w' (Cs y (lkCells (lkOf gen tag b i (putS D gen tag b N j).2)) T.y_chain_link :: DeskS k g (c + j) (putS D gen tag b N j).1 :: Cs z [.pointer (some (blk k)), .pointer (some (blk r)), .map (some mb), .int .i64 D.syncs] T.y_desk_Mark :: RoomS r D.bs :: MapS mb D.ws :: X), ⟨fun h0 => ?_, fun h0 => ?_⟩, ?_⟩
   · refine ⟨h2.wr (by simp), ?_⟩
     intro wa13
     replace h2 : St wa13 _ := h2.set 3 _
     clear_value wa13
     have e : lkCells (lkOf gen tag b i (putS D gen tag b N j).2) = [.int .i64 gen, .int .i64 tag, .int .i64 (i : Int), .int .i64 1, .int .i64 (putS D gen tag b N j).2, .string (tx (partB b i))] := by
       have : i = 0 := by omega
       simp [lkCells, lkOf, this]
     rw [e]; exact h2
   · have e : lkCells (lkOf gen tag b i (putS D gen tag b N j).2) = [.int .i64 gen, .int .i64 tag, .int .i64 (i : Int), .int .i64 0, .int .i64 (putS D gen tag b N j).2, .string (tx (partB b i))] := by
       have : ¬ i = 0 := by omega
       simp [lkCells, lkOf, this]
     rw [e]; exact h2
   rintro w3 h3
   refine ⟨_, h3.cell0, _, h3.cell 1, _, h3.cell 2, _, h3.cell 3, _, h3.cell 4, _, h3.cell 5, ?_⟩
   have hpr := placeP_range D N (N - j)
   rw [← hAt j hj] at hpr
   have hok : LkOk (lkOf gen tag b i (putS D gen tag b N j).2) := lkOf_ok hg ht (by omega) (by omega)
   have hll := layLk_len hok
   refine lay_link hok h3 fun w4 h4 => New_st h4.drop (by omega) (by omega) (fun h => absurd hll h) (fun _ hfull => ?_) fun w5 _ hlt5 h5 => ?_
   · rw [hBs, takeN_len] at hfull
     have hlf : freeN D.bs < N := by
       rcases Nat.lt_or_ge j (freeN D.bs) with h | h
       · have := take_lt h; omega
       · omega
     refine ⟨fun _ => ?_, fun h => by omega⟩
     have q := h4.drop.sw
     refine ⟨_, q.cell0, _, q.cell 1, _, q.cell 2, _, q.cell 3, ?_⟩
     refine Back_st (M := D) (c' := c) q.sw.d2 hk (by rw [hBs, takeN_len]) (hS j).2.2.2.symm fun w6 h6 => ?_
     rw [hB] at h6
     exact hF w6 hlf (DeskS.mono h6.d2.d2 (by omega))
   · rw [hBs, takeN_len] at hlt5
     have hjlt : j < freeN D.bs := by
       rcases Nat.lt_or_ge j (freeN D.bs) with h | h
       · exact h
       · have e : j = freeN D.bs := by omega
         rw [e, take_full] at hlt5; omega
     refine ⟨fun h => by omega, fun _ => ⟨⟨j + 1, by omega, by rw [w64_id (by omega) (by omega)]; omega, by rw [hSu], hjlt, ?_⟩, ?_⟩⟩
     · rw [hSu, ← hi2]; exact h5
     · rw [w64_id (by omega) (by omega)]
       show ((i : Int) - 1 + 1).toNat < ((i : Int) + 1).toNat
       omega
 · have hjN : j = N := by omega
   subst hjN
   have := hR w2 hjf (DeskS.mono h2.d2.d2.d2 (by omega))
   rw [hAt j (Nat.le_refl _), Nat.sub_self]
   exact this
theorem walkC_facts : ∀ (n : Nat) (xs : List Lk) (ps : List Int) (next : Int), (∀ x ∈ xs, LkOk x) → xs.length + n ≤ 41 → ps.length = xs.length → (walkC D n xs ps next).2.2 = 0 →
   (∀ x ∈ (walkC D n xs ps next).1, LkOk x) ∧ (walkC D n xs ps next).1.length ≤ 41 ∧ (walkC D n xs ps next).1 ≠ [] ∧ (walkC D n xs ps next).2.1.length = (walkC D n xs ps next).1.length
 | 0, xs, ps, next, _, _, _, h => by simp [walkC] at h
 | n + 1, xs, ps, next, hx, hl, hp, h => by
   rw [walkC] at h ⊢
   split
   · rename_i h1; rw [if_pos h1] at h; simp at h
   · rename_i h1
     rw [if_neg h1] at h
     split
     · rename_i h2; rw [if_pos h2] at h; exact absurd h h2
     · rename_i h2
       rw [if_neg h2] at h
       split
       · rename_i h3
         rw [if_pos h3] at h
         have hok := (readLk_ok (b := getD D next) (by revert h3; cases (readLk (getD D next)).2 <;> simp)).1
         have hx2 : ∀ y ∈ xs ++ [(readLk (getD D next)).1], LkOk y := fun y hy => by
           rcases List.mem_append.1 hy with hy | hy
           · exact hx y hy
           · simp only [List.mem_cons, List.not_mem_nil, or_false] at hy
             subst hy; exact hok
         split
         · exact ⟨hx2, by simp; omega, by simp, by simp [hp]⟩
         · rename_i h4
           rw [if_neg h4] at h
           exact walkC_facts n _ _ _ hx2 (by simp; omega) (by simp [hp]) h
       · rename_i h3; rw [if_neg h3] at h; simp at h
theorem walkD_facts {a : Int} (h : (walkD D a).2.2 = 0) : (∀ x ∈ (walkD D a).1, LkOk x) ∧ (walkD D a).1.length ≤ 41 ∧ (walkD D a).1 ≠ [] ∧ (walkD D a).2.1.length = (walkD D a).1.length :=
 walkC_facts 41 [] [] a (by simp) (by simp) rfl h
theorem Has.lk {l : Sl} {xs : List Lk} (h : Has ELk w l xs) {m : Nat} (hm : m < xs.length) : ∃ ad, l.a = some ad ∧ m < l.len ∧ w.cell? (ad.add (m * 6)) = some (.int .i64 xs[m].gen) ∧ w.cell? ((ad.add (m * 6)).add 1) = some (.int .i64 xs[m].tag) ∧ w.cell? ((ad.add (m * 6)).add 2) = some (.int .i64 xs[m].number) ∧
   w.cell? ((ad.add (m * 6)).add 3) = some (.int .i64 xs[m].refs) ∧ w.cell? ((ad.add (m * 6)).add 4) = some (.int .i64 xs[m].next) ∧ w.cell? ((ad.add (m * 6)).add 5) = some (.string (tx xs[m].data)) := by
 obtain ⟨ad, ha, hl, hc⟩ := h.at hm
 have h0 := hc 0 _ rfl
 rw [addr_add0] at h0
 exact ⟨ad, ha, hl, h0, hc 1 _ rfl, hc 2 _ rfl, hc 3 _ rfl, hc 4 _ rfl, hc 5 _ rfl⟩
def dataOf (xs : List Lk) : Bs := (xs.map (·.data)).flatten
theorem dataOf_app (a b : List Lk) : dataOf (a ++ b) = dataOf a ++ dataOf b := by simp [dataOf]
theorem dataOf_one (x : Lk) : dataOf [x] = x.data := by simp [dataOf]
theorem dataOf_len : ∀ {xs : List Lk}, (∀ x ∈ xs, LkOk x) → (dataOf xs).length ≤ 236 * xs.length
 | [], _ => by simp [dataOf]
 | x :: r, h => by
   have h1 := dataOf_len (xs := r) fun y hy => h y (List.mem_cons_of_mem _ hy)
   have h2 := (h x (List.mem_cons_self ..)).data
   simp only [dataOf, List.map_cons, List.flatten_cons, List.length_append, List.length_cons] at h1 ⊢
   omega
set_option maxHeartbeats 1000000 in
theorem Get_chain (h : St w (DeskS k g c D :: X)) {a : Int} (ha : -9223372036854775808 ≤ a ∧ a < 9223372036854775808) {R : Int → Int → Int → ByteArray → Int → World → Prop}
   (hE : ∀ w', (walkD D a).2.2 ≠ 0 → St w' (DeskS k g c D :: X) → R 0 0 0 sNil (walkD D a).2.2 w')
   (hR : ∀ x xs w', (walkD D a).1 = x :: xs → (walkD D a).2.2 = 0 → St w' (DeskS k g c D :: X) → R x.gen x.tag x.refs (tx (dataOf (x :: xs))) 0 w') : F.chain_Get (some (blk k)) a w R := by
 apply E.chain_Get
 unfold V.chain_Get
 try simp -zeta only [ldC, soC, brC, bkA, slC, stC, alC, drC]
 try simp (config := { zeta := false }) only [cnd_all]
 intro wa1
 replace h : St wa1 (Cs _ _ _ :: _) := h.new _ _
 clear_value wa1
 generalize w.heap.size = q at *
 refine walk_chain h.sw ha fun l pl w1 h1 => ⟨fun he => ?_, fun he => ?_⟩
 · have h1 := h1.drop.drop.sw
   refine ⟨h1.wr0 (by simp), ?_⟩
   intro wa2
   replace h1 : St wa2 _ := h1.set0 _
   clear_value wa2
   refine ⟨h1.wr (by simp), ?_⟩
   intro wa3
   replace h1 : St wa3 _ := h1.set 1 _
   clear_value wa3
   refine ⟨h1.wr (by simp), ?_⟩
   intro wa4
   replace h1 : St wa4 _ := h1.set 2 _
   clear_value wa4
   refine ⟨h1.wr (by simp), ?_⟩
   intro wa5
   replace h1 : St wa5 _ := h1.set 3 _
   clear_value wa5
   simp only [List.set_cons_zero, List.set_cons_succ] at h1
   refine ⟨_, h1.cell0, _, h1.cell 1, _, h1.cell 2, _, h1.cell 3, ?_⟩
   exact hE _ he h1.drop
 obtain ⟨f1, f2, f3, f4⟩ := walkD_facts he
 generalize (walkD D a).1 = xs at *
 generalize (walkD D a).2.1 = ps at *
 obtain ⟨x, r, rfl⟩ : ∃ x r, xs = x :: r := by
   rcases xs with _ | ⟨x, r⟩
   · exact absurd rfl f3
   · exact ⟨x, r, rfl⟩
 -- Row ELk :: Row EI :: DeskS :: Cs q :: X
 intro wa6
 replace h1 : St wa6 _ := h1.drew
 clear_value wa6
 obtain ⟨ad, had, hlt, c0, c1, c2, c3, c4, c5⟩ := Has.lk (h1.has (by decide)) (m := 0) (by simp)
 refine ⟨ad, had, by decide, by omega, _, c0, ad, had, by decide, by omega, _, c1, ad, had, by decide, by omega, _, c3, ?_⟩
 intro wa7
 replace h1 : St wa7 (Cs _ _ _ :: _) := h1.new _ _
 clear_value wa7
 obtain ⟨ad', had', hlt, c0, c1, c2, c3, c4, c5⟩ := Has.lk (h1.sw.has (by decide)) (m := 0) (by simp)
 rw [had] at had'
 injection had' with had'
 subst had'
 refine ⟨c3, c1, c0, ?_⟩
 refine ⟨h1.wr0 (by simp), ?_⟩
 intro wa8
 replace h1 : St wa8 _ := h1.set0 _
 clear_value wa8
 refine ⟨h1.wr (by simp), ?_⟩
 intro wa9
 replace h1 : St wa9 _ := h1.set 1 _
 clear_value wa9
 refine ⟨h1.wr (by simp), ?_⟩
 intro wa10
 replace h1 : St wa10 _ := h1.set 2 _
 clear_value wa10
 refine ⟨h1.wr (by simp), ?_⟩
 intro wa11
 replace h1 : St wa11 _ := h1.set 3 _
 clear_value wa11
 simp only [List.set_cons_zero, List.set_cons_succ] at h1
 generalize wa6.heap.size = z at *
 have hll : l.len = (x :: r).length := (h1.sw.has (by decide)).1
 refine ⟨Cnt (x :: r).length fun m w' => St w' (Cs z [.int .i64 x.gen, .int .i64 x.tag, .int .i64 x.refs, .string (tx (dataOf ((x :: r).take m)))] T.y_chain_Chain :: Row ELk T.y_chain_link l (x :: r) :: Row EI T.y_int pl ps :: DeskS k g c D :: Cs q [.int .i64 0, .int .i64 0, .int .i64 0, .string sNil] T.y_chain_Chain :: X),
   cntM (x :: r).length, Cnt.zero h1, ?_⟩
 rintro _ w2 ⟨m, rfl, hm, h2⟩
 refine ⟨fun hlt => ?_, fun hge => ?_⟩
 · have hlt : m < (x :: r).length := by omega
   obtain ⟨ad, had, hlt2, c0, c1, c2, c3, c4, c5⟩ := Has.lk (h2.sw.has (by decide)) hlt
   refine ⟨ad, had, by omega, by omega, _, c0, _, c1, _, c2, _, c3, _, c4, _, c5, ?_⟩
   intro wa12
   replace h2 : St wa12 (Cs _ _ _ :: _) := h2.new _ _
   clear_value wa12
   refine ⟨h2.wr0 (by simp), ?_⟩
   intro wa13
   replace h2 : St wa13 _ := h2.set0 _
   clear_value wa13
   refine ⟨h2.wr (by simp), ?_⟩
   intro wa14
   replace h2 : St wa14 _ := h2.set 1 _
   clear_value wa14
   refine ⟨h2.wr (by simp), ?_⟩
   intro wa15
   replace h2 : St wa15 _ := h2.set 2 _
   clear_value wa15
   refine ⟨h2.wr (by simp), ?_⟩
   intro wa16
   replace h2 : St wa16 _ := h2.set 3 _
   clear_value wa16
   refine ⟨h2.wr (by simp), ?_⟩
   intro wa17
   replace h2 : St wa17 _ := h2.set 4 _
   clear_value wa17
   refine ⟨h2.wr (by simp), ?_⟩
   intro wa18
   replace h2 : St wa18 _ := h2.set 5 _
   clear_value wa18
   simp only [List.set_cons_zero, List.set_cons_succ] at h2
   have hd := dataOf_len (xs := (x :: r).take m) fun y hy => f1 y (List.mem_of_mem_take hy)
   have hd2 := (f1 _ (List.getElem_mem hlt)).data
   refine ⟨_, h2.sw.cell 3, _, h2.cell 5, by rw [tx_size, tx_size]; simp at hd; omega, ?_⟩
   replace h2 := h2.drop
   refine ⟨h2.wr (by simp), ?_⟩
   intro wa19
   replace h2 : St wa19 _ := h2.set 3 _
   clear_value wa19
   refine Cnt.next hlt (by omega) ?_
   have e : tx (dataOf ((x :: r).take m)) ++ tx ((x :: r)[m].data) = tx (dataOf ((x :: r).take (m + 1))) := by
     rw [tx_app, List.take_succ_eq_append_getElem hlt, dataOf_app, dataOf_one]
   rw [e] at h2
   exact h2
 · have hmm : m = (x :: r).length := by omega
   subst hmm
   rw [List.take_length] at h2
   refine ⟨_, h2.cell0, _, h2.cell 1, _, h2.cell 2, _, h2.cell 3, ?_⟩
   have h3 := h2.up4
   refine ⟨h3.wr0 (by simp), ?_⟩
   intro wa20
   replace h3 : St wa20 _ := h3.set0 _
   clear_value wa20
   refine ⟨h3.wr (by simp), ?_⟩
   intro wa21
   replace h3 : St wa21 _ := h3.set 1 _
   clear_value wa21
   refine ⟨h3.wr (by simp), ?_⟩
   intro wa22
   replace h3 : St wa22 _ := h3.set 2 _
   clear_value wa22
   refine ⟨h3.wr (by simp), ?_⟩
   intro wa23
   replace h3 : St wa23 _ := h3.set 3 _
   clear_value wa23
   simp only [List.set_cons_zero, List.set_cons_succ] at h3
   refine ⟨_, h3.cell0, _, h3.cell 1, _, h3.cell 2, _, h3.cell 3, ?_⟩
   exact hR x r _ rfl he h3.drop.drop.drop.drop
theorem Drop_chain (h : St w (DeskS k g c D :: X)) {a : Int} (ha : -9223372036854775808 ≤ a ∧ a < 9223372036854775808) {R : Int → World → Prop}
   (hpr : ∀ z ∈ (walkD D a).2.1, -9223372036854775808 ≤ z ∧ z < 9223372036854775808)
   (hE : ∀ w', (walkD D a).2.2 ≠ 0 → St w' (DeskS k g c D :: X) → R (walkD D a).2.2 w')
   (hN : ∀ w', (walkD D a).2.2 = 0 → ¬ dropOk D.bs (walkD D a).2.1 → St w' (DeskS k g c D :: X) → R 15 w')
   (hR : ∀ w', (walkD D a).2.2 = 0 → dropOk D.bs (walkD D a).2.1 → St w' (DeskS k g c (dropD D (walkD D a).2.1) :: X) → R 0 w') : F.chain_Drop (some (blk k)) a w R := by
 apply E.chain_Drop
 unfold V.chain_Drop
 try simp -zeta only [ldC, soC, brC, bkA, slC, stC, alC, drC]
 try simp (config := { zeta := false }) only [cnd_all]
 refine walk_chain h ha fun l pl w1 h1 => ⟨fun he => hE w1 he h1.drop.drop, fun he => ?_⟩
 obtain ⟨f1, f2, f3, f4⟩ := walkD_facts he
 exact Drop_st h1.drop.sw (by omega) hpr (fun hn => hN w1 he hn h1.drop.drop) fun w2 hok h2 => hR w2 he hok h2.d2
end
end Go.Proofs.YtggachhkcmfijaaGreatDoor
