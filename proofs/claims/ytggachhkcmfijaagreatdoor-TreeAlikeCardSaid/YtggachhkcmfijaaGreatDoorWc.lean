/- wal: Commit, Open, also where the power goes. -/
import Derived.Test.YtggachhkcmfijaaGreatDoorWb
set_option linter.unusedVariables false
namespace Go.Proofs.YtggachhkcmfijaaGreatDoor
open Go Go.Vc Go.RowKit Go.Lib Go.Maps Go.Proofs
/-- what may lie there where the power went within a commit -/
def TornC (l : List Bs) (seq : Int) (ws : List Wr1) (l' : List Bs) : Prop :=
 (∃ ys : List Wr1, ys.Sublist (logN (nextT (keysW ws)) ws (nextT (keysW ws)).length) ∧ l' = setAll l ys) ∨
 (∃ ys : List Wr1, ys.Sublist [((0 : Int), headB ⟨seq + 1, true, nextT (keysW ws)⟩)] ∧ l' = setAll (setAll l (logN (nextT (keysW ws)) ws (nextT (keysW ws)).length)) ys) ∨
 TornW ((setAll l (logN (nextT (keysW ws)) ws (nextT (keysW ws)).length)).set 0 (headB ⟨seq + 1, true, nextT (keysW ws)⟩)) ((setAll l (logN (nextT (keysW ws)) ws (nextT (keysW ws)).length)).set 0 (headB ⟨seq + 1, true, nextT (keysW ws)⟩)) (homN (nextT (keysW ws)) ws (nextT (keysW ws)).length) (headB ⟨seq + 1, false, []⟩) l'
section
variable {w w' : World} {X : List As} {u g : Nat} {d : Ds} {s : WlS}
set_option maxHeartbeats 2000000 in
theorem Commit_st {seq commits : Int} {sl : Sl} {ws : List Wr1} (h : St w (WalS u g ⟨seq, false, commits⟩ :: DskS g d :: X)) (hoff : d.off = false) (hdw : d.ws = []) (hsf : d.safe = d.l) (hx : ∀ w', St w' X → Has EW w' sl ws) (hl : ws.length ≤ 1000000)
   (hn : 140 ≤ d.l.length) (hn2 : d.l.length ≤ 2000) (hs0 : 0 ≤ seq) (hs1 : seq < 1099511627776) (hc : 0 ≤ commits ∧ commits < 1000000000000) (hm : 0 ≤ d.many ∧ d.many < 999999999000)
   {R : Int → World → Prop} (hE : ∀ w', lastE (sizeD d) ws ≠ 0 → St w' (WalS u g ⟨seq, false, commits⟩ :: DskS g d :: X) → R (lastE (sizeD d) ws) w') (hN : ∀ w', ws = [] → St w' (WalS u g ⟨seq, false, commits⟩ :: DskS g d :: X) → R 0 w')
   (hR : ∀ w', lastE (sizeD d) ws = 0 → ws ≠ [] → St w' (WalS u g ⟨seq + 1, false, commits + 1⟩ :: DskS g (commitD d seq ws) :: X) → R 0 w')
   (hF : lastE (sizeD d) ws = 0 → ws ≠ [] → d.armed = true → ∀ seq' l' many w', TornC d.l seq ws l' → d.many ≤ many ∧ many ≤ d.many + 300 → St w' (WalS u g ⟨seq', true, commits⟩ :: DskS g (offD l' many) :: X) → R 14 w') : F.wal_Wal_Commit (some (blk u)) sl w R := by
 apply E.wal_Wal_Commit
 unfold V.wal_Wal_Commit
 try simp -zeta only [ldC, soC, brC, bkA, slC, stC, alC, drC]
 try simp (config := { zeta := false }) only [cnd_all, blk_add2, Nat.reduceAdd]
 refine Up_st h ⟨fun hu => (by cases hu), fun _ => last_st h hx hl (fun w1 hne h1 => ?_) fun b w1 hE0 h1 => ?_⟩
 · refine ⟨fun b w' => b = true ∧ w' = w1, ⟨fun _ => ⟨rfl, rfl⟩, fun h => absurd h hne⟩, ?_⟩
   rintro b w' ⟨rfl, rfl⟩
   exact ⟨fun _ => hE w' hne h1, fun h => (by cases h)⟩
 have hnil : (nextT (keysW ws)).length = 0 ↔ ws = [] := by
   constructor
   · intro hz
     cases ws with
     | nil => rfl
     | cons p r =>
       have : p.1 ∈ nextT (keysW (p :: r)) := by rw [(nextT_up _).2]; simp [keysW]
       rw [List.eq_nil_of_length_eq_zero hz] at this
       simp at this
   · rintro rfl
     exact Nat.le_zero.1 (nextT_len _)
 refine ⟨fun b w' => b = decide (ws = []) ∧ w' = w1, ⟨fun h => absurd rfl h, fun _ => (MapS.of h1).len ⟨?_, rfl⟩⟩, ?_⟩
 · rw [Bool.eq_iff_iff]
   simp only [beq_iff_eq, decide_eq_true_eq]
   rw [← hnil]; omega
 rintro v w' ⟨rfl, rfl⟩
 refine ⟨fun he => hN w' (of_decide_eq_true he) h1.drop, fun hne => ?_⟩
 have hne := of_decide_eq_false hne
 obtain ⟨hall, hlen⟩ := lastE_zero hE0
 have htok := fun i hi => targets_ok (i := i) hE0 hi
 have hup := (nextT_up (keysW ws)).1
 have htn0 : (nextT (keysW ws)).length ≠ 0 := fun h => hne (hnil.1 h)
 refine keys_st h1 hl fun l1 w2 h2 => ?_
 unfold TornC at hF
 have hcd : commitD d seq ws = flushD (wr1 (flushD (wrN (flushD (wr1 (flushD (wrN d (logN (nextT (keysW ws)) ws (nextT (keysW ws)).length))) (0, headB ⟨seq + 1, true, nextT (keysW ws)⟩))) (homN (nextT (keysW ws)) ws (nextT (keysW ws)).length))) (0, headB ⟨seq + 1, false, []⟩)) := rfl
 rw [hcd] at hR
 clear hcd hnil
 generalize hts : nextT (keysW ws) = ts at *
 have hsz : sizeD d = (d.l.length : Int) - 111 := rfl
 have htr : ∀ x ∈ ts, 0 ≤ x ∧ x < 2000 := fun x hx => by
   obtain ⟨i, hi, rfl⟩ := List.mem_iff_getElem.1 hx
   have := htok i hi
   have e : ts.getD i 0 = ts[i] := by simp [hi]
   rw [e] at this
   omega
 have hll : l1.len = ts.length := (h2.has (by decide)).1
 refine ⟨fun lg ho n w' => ∃ m : Nat, n = m ∧ m ≤ ts.length ∧ St w' (Row EW T.y_api_Write lg (logN ts ws m) :: Row EW T.y_api_Write ho (homN ts ws m) :: Row EI T.y_int l1 ts :: MapS b ws :: WalS u g ⟨seq, false, commits⟩ :: DskS g d :: X), fun _ _ n _ => ((ts.length : Int) - n).toNat,
   ⟨0, rfl, Nat.zero_le _, (h2.row0 EW T.y_api_Write).row0 EW T.y_api_Write⟩, ?_⟩
 rintro lg ho n w3 ⟨m, rfl, hm', h3⟩
 refine ⟨fun hlt => ?_, fun hge => ?_⟩
 · have hlt : m < ts.length := by omega
   obtain ⟨a, ha, hal, hc0⟩ := (h3.up2.has (by decide)).at (j := m) hlt
   have hc0 := hc0 0 _ rfl
   rw [addr_add0] at hc0
   have eg : ts.getD m 0 = ts[m] := by simp [hlt]
   have ht := htok m hlt
   rw [eg] at ht
   have e1 : w64 ((1 : Int) + (m : Int)) = 1 + (m : Int) := w64_id (by omega) (by omega)
   have e2 : w64 ((111 : Int) + ts[m]) = 111 + ts[m] := w64_id (by omega) (by omega)
   have e3 : w64 ((m : Int) + 1) = ((m + 1 : Nat) : Int) := w64_succ (by omega)
   refine ⟨a, ha, by omega, by omega, ts[m], hc0, (MapS.of h3.up3).look (by omega) ?_⟩
   rw [e1, e3]
   intro wa1
   replace h3 : St wa1 (Cs _ _ _ :: _) := h3.new _ _
   clear_value wa1
   refine St.app elt_wr h3.sw (sl := ⟨some (blk w3.heap.size), 1, 1⟩) (ys := [(1 + (m : Int), lastW ws ts[m])]) (h3.lit (xs := [(1 + (m : Int), lastW ws ts[m])]) rfl rfl 1) rfl (by simp [logN_len]; omega) (by simp [logN_len]; omega) fun lg' w5 h5 hl5 => ?_
   refine (MapS.of h5.up4).look (by omega) ?_
   rw [e2]
   intro wa2
   replace h5 : St wa2 (Cs _ _ _ :: _) := h5.new _ _
   clear_value wa2
   refine St.app elt_wr h5.up3 (sl := ⟨some (blk w5.heap.size), 1, 1⟩) (ys := [(111 + ts[m], lastW ws ts[m])]) (h5.lit (xs := [(111 + ts[m], lastW ws ts[m])]) rfl rfl 1) rfl (by simp [homN_len]; omega) (by simp [homN_len]; omega) fun ho' w7 h7 hl7 => ?_
   -- ho' :: lit :: lg' :: lit' :: l1 :: M :: Wal :: Dsk
   have h8 := h7.d2.d3.sw
   rw [← eg, ← logN_succ, ← homN_succ] at h8
   exact ⟨⟨m + 1, rfl, hlt, h8⟩, by show ((ts.length : Int) - ((m + 1 : Nat) : Int)).toNat < ((ts.length : Int) - (m : Int)).toNat; omega⟩
 have hmm : m = ts.length := by omega
 subst hmm
 have h4 := h3.up4.up5.sw
 have hlogl := logN_len ts ws ts.length
 have hhoml := homN_len ts ws ts.length
 obtain ⟨q1, q2, q3, q4, q5, q6⟩ := wrN_facts d (logN ts ws ts.length)
 have hv := valid_next (seq := seq + 1) (ts := ts) (by omega) (by omega) hup hlen (fun e => htn0 (by rw [e]; rfl)) htr
 -- behind the first two
 refine ⟨fun e w' => (e = 0 ∧ St w' (WalS u g ⟨seq + 1, false, commits⟩ :: DskS g (flushD (wr1 (flushD (wrN d (logN ts ws ts.length))) (0, headB ⟨seq + 1, true, ts⟩))) :: Row EW T.y_api_Write ho (homN ts ws ts.length) :: X)) ∨
   (e = 14 ∧ d.armed = true ∧ ∃ l' many, ((∃ ys : List Wr1, ys.Sublist (logN ts ws ts.length) ∧ l' = setAll d.l ys) ∨ (∃ ys : List Wr1, ys.Sublist [((0 : Int), headB ⟨seq + 1, true, ts⟩)] ∧ l' = setAll (setAll d.l (logN ts ws ts.length)) ys)) ∧ (d.many ≤ many ∧ many ≤ d.many + 300) ∧ St w' (WalS u g ⟨seq, false, commits⟩ :: DskS g (offD l' many) :: X)), ?_, ?_⟩
 · refine put_st h4 hoff hdw (xs := logN ts ws ts.length) (fun w' hw => hw.has (by decide)) (fun x hx => ?_) (by omega) (by omega) (fun w5 h5 => ⟨fun _ => ?_, fun h => absurd rfl h⟩) fun ha ys many w5 hys hm5 h5 => ⟨fun h => (by cases h), fun _ => .inr ⟨rfl, ha, _, many, .inl ⟨ys, hys, by rw [hsf]⟩, by omega, h5.d3.d3.d3.d3⟩⟩
   · simp only [logN, List.mem_map, List.mem_range] at hx
     obtain ⟨i, hi', rfl⟩ := hx
     have := htok i hi'
     exact ⟨by show (0 : Int) ≤ 1 + (i : Int); omega, by show 1 + (i : Int) < _; omega, this.2.2⟩
   obtain ⟨x, q⟩ := h5.ex
   -- Wal :: Dsk :: lg :: ho :: l1 :: M :: X
   refine ⟨_, q.cell 1, _, q.cell 2, x.1, q.cell 3, Next_head (St.ints h5.up4) (by omega) (by show -4611686018427387904 ≤ seq; omega) (by show seq < 4611686018427387904; omega) fun l5 w6 hO6 hbk6 hB6 => ?_⟩
   have h6 := St.rowOf h5 (En := EI) (fr_below hB6) (by rw [EI_all]; exact hO6) hbk6
   have en : nextT ts = ts := up_ext (nextT_up ts).1 hup (nextT_up ts).2
   rw [en] at h6
   have d4m : (flushD (wrN d (logN ts ws ts.length))).many = d.many + ts.length := by have := q4; rw [hlogl] at this; exact this
   refine putHead_st h6.dn2 (by show (wrN d _).off = false; rw [q5]; exact hoff) rfl (ts := ts) (fun w' hw => St.ints hw) (fun w' hw k hk => St.bkr hw hk) hv (by show 1 ≤ (wrN d _).l.length; rw [q1, setAll_len]; omega) (by omega) (fun w7 h7 => .inl ⟨rfl, h7.d3.d3.d4.d4⟩) fun ha ys many w7 hys hm7 h7 => .inr ⟨rfl, by rw [← q6]; exact ha, _, many, .inr ⟨ys, hys, rfl⟩, by omega, ?_⟩
   have e : (flushD (wrN d (logN ts ws ts.length))).safe = setAll d.l (logN ts ws ts.length) := q1
   rw [e] at h7
   exact h7.d3.d3.d3.d3.d3
 rintro e w5 hk5
 refine ⟨fun e w' => (e = 0 ∧ St w' (WalS u g ⟨seq + 1, false, commits⟩ :: DskS g (flushD (wr1 (flushD (wrN (flushD (wr1 (flushD (wrN d (logN ts ws ts.length))) (0, headB ⟨seq + 1, true, ts⟩))) (homN ts ws ts.length))) (0, headB ⟨seq + 1, false, []⟩))) :: X)) ∨
   (e = 14 ∧ d.armed = true ∧ ∃ seq' l' many, ((∃ ys : List Wr1, ys.Sublist (logN ts ws ts.length) ∧ l' = setAll d.l ys) ∨ (∃ ys : List Wr1, ys.Sublist [((0 : Int), headB ⟨seq + 1, true, ts⟩)] ∧ l' = setAll (setAll d.l (logN ts ws ts.length)) ys) ∨
     TornW ((setAll d.l (logN ts ws ts.length)).set 0 (headB ⟨seq + 1, true, ts⟩)) ((setAll d.l (logN ts ws ts.length)).set 0 (headB ⟨seq + 1, true, ts⟩)) (homN ts ws ts.length) (headB ⟨seq + 1, false, []⟩) l') ∧ (d.many ≤ many ∧ many ≤ d.many + 300) ∧ St w' (WalS u g ⟨seq', false, commits⟩ :: DskS g (offD l' many) :: X)), ⟨fun he => ?_, fun he => ?_⟩, ?_⟩
 · rcases hk5 with ⟨_, h5⟩ | ⟨h14, _⟩
   · have e6 : (flushD (wr1 (flushD (wrN d (logN ts ws ts.length))) (0, headB ⟨seq + 1, true, ts⟩))).l = (setAll d.l (logN ts ws ts.length)).set 0 (headB ⟨seq + 1, true, ts⟩) := by
       show ((wrN d _).l.set 0 _) = _
       rw [q1]
     have e7 : (flushD (wr1 (flushD (wrN d (logN ts ws ts.length))) (0, headB ⟨seq + 1, true, ts⟩))).safe = (setAll d.l (logN ts ws ts.length)).set 0 (headB ⟨seq + 1, true, ts⟩) := e6
     have e8 : (flushD (wr1 (flushD (wrN d (logN ts ws ts.length))) (0, headB ⟨seq + 1, true, ts⟩))).many = d.many + ts.length + 1 := by show (wrN d _).many + 1 = _; omega
     have e9 : (flushD (wr1 (flushD (wrN d (logN ts ws ts.length))) (0, headB ⟨seq + 1, true, ts⟩))).l.length = d.l.length := by rw [e6, List.length_set, setAll_len]
     refine write_st h5 (by show (wrN d _).off = false; rw [q5]; exact hoff) rfl (xs := homN ts ws ts.length) (fun w' hw => hw.has (by decide)) (fun x hx => ?_) (by omega) ⟨by show 0 ≤ seq + 1; omega, by show seq + 1 ≤ _; omega⟩ (by omega) (by omega) (fun w6 h6 => .inl ⟨rfl, h6.d3⟩) fun ha l many w6 ht hm6 h6 => .inr ⟨rfl, by rw [← q6]; exact ha, seq + 1, l, many, .inr (.inr (by rw [e6, e7] at ht; exact ht)), by omega, h6.d3⟩
     simp only [homN, List.mem_map, List.mem_range] at hx
     obtain ⟨i, hi', rfl⟩ := hx
     have := htok i hi'
     rw [e9]
     exact ⟨by show (0 : Int) ≤ 111 + ts.getD i 0; omega, by show 111 + ts.getD i 0 < _; omega, this.2.2⟩
   · omega
 · rcases hk5 with ⟨h0, _⟩ | ⟨h14, ha, l', many, ht, hm5, h5⟩
   · exact absurd h0 he
   · refine .inr ⟨h14, ha, seq, l', many, ?_, hm5, h5⟩
     rcases ht with ht | ht
     · exact .inl ht
     · exact .inr (.inl ht)
 rintro e1 w6 (⟨rfl, h6⟩ | ⟨rfl, ha, seq', l', many, ht, hm6, h6⟩)
 · obtain ⟨x, q⟩ := h6.ex
   refine ⟨fun h => absurd rfl h, fun _ => ⟨_, q.cell 5, q.wr (by simp), ?_⟩⟩
   rw [show w64 (commits + 1) = commits + 1 from w64_id (by omega) (by omega)]
   intro w7
   have q7 : St w7 _ := q.set 5 (.int .i64 (commits + 1))
   clear_value w7
   exact hR w7 hE0 hne (St.mk x q7)
 · obtain ⟨x, q⟩ := h6.ex
   refine ⟨fun _ => ⟨q.wr (by simp), ?_⟩, fun h => (by cases h)⟩
   intro w7
   have q7 : St w7 _ := q.set 4 (.bool true)
   clear_value w7
   exact hF hE0 hne ha seq' l' many w7 ht hm6 (St.mk x q7)
/-- a head that is none; one that is done -/
theorem OpenW_st (h : St w (DskS g d :: X)) (hoff : d.off = false) (hn : 140 ≤ d.l.length) (h0 : (d.l.getD 0 []).length ≤ 1000000000) (hfull : (readHead (d.l.getD 0 [])).2 = 0 → (readHead (d.l.getD 0 [])).1.full = false) {R : Option Addr → Int → World → Prop}
   (hB : ∀ w', (readHead (d.l.getD 0 [])).2 ≠ 0 → St w' (DskS g d :: X) → R none 25 w')
   (hR : ∀ u w', (readHead (d.l.getD 0 [])).2 = 0 → St w' (WalS u g ⟨(readHead (d.l.getD 0 [])).1.seq, false, 0⟩ :: DskS g d :: X) → R (some (blk u)) 0 w') : F.wal_Open (some (blk g)) w R := by
 apply E.wal_Open
 unfold V.wal_Open
 try simp -zeta only [ldC, soC, brC, bkA, slC, stC, alC, drC]
 try simp (config := { zeta := false }) only [cnd_all, blk_add2, Nat.reduceAdd]
 refine ReadD_st h ?_
 have em : mayD d 0 = 0 := by unfold mayD; rw [if_neg (by simp [hoff]), if_neg (by omega)]
 have e0 : (0 : Int).toNat = 0 := rfl
 rw [em, if_pos rfl, e0]
 refine ⟨fun h => absurd rfl h, fun _ => Read_head h0 fun tl w1 hO1 hbk1 hB1 => ?_⟩
 have h1 := St.rowOf h (En := EI) (fr_below hB1) (by rw [EI_all]; exact hO1) hbk1
 generalize readHead (d.l.getD 0 []) = rh at *
 intro wa1
 replace h1 : St wa1 (Cs _ _ _ :: _) := h1.new _ _
 clear_value wa1
 refine ⟨h1.wr0 (by simp), ?_⟩
 intro wa2
 replace h1 : St wa2 _ := h1.set0 _
 clear_value wa2
 refine ⟨h1.wr (by simp), ?_⟩
 intro wa3
 replace h1 : St wa3 _ := h1.set 1 _
 clear_value wa3
 refine ⟨h1.wr (by simp), ?_⟩
 intro wa4
 replace h1 : St wa4 _ := h1.set 2 _
 clear_value wa4
 simp only [List.set_cons_zero, List.set_cons_succ] at h1
 refine ⟨fun he => hB _ he h1.drop.drop, fun he => ⟨_, h1.cell0, _, h1.cell 1, tl, h1.cell 2, ?_⟩⟩
 intro wa5
 replace h1 : St wa5 (Cs _ _ _ :: _) := h1.new _ _
 clear_value wa5
 refine ⟨_, h1.sw.cell 1, fun _ => hR _ _ he (St.mk (tl, rh.1.full) h1.d2.d2), fun hf => by rw [hfull he] at hf; cases hf⟩
end
end Go.Proofs.YtggachhkcmfijaaGreatDoor
