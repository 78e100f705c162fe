/- wal: what a Wal is; put, putHead, write, last, also where the power goes. -/
import Derived.Test.YtggachhkcmfijaaGreatDoorDb
set_option linter.unusedVariables false
namespace Go.Proofs.YtggachhkcmfijaaGreatDoor
open Go Go.Vc Go.RowKit Go.Lib
structure WlS where
 seq : Int
 down : Bool
 commits : Int
abbrev wlCells (g : Nat) (l : Sl) (f : Bool) (s : WlS) : List Value := [.pointer (some (blk g)), .int .i64 s.seq, .bool f, slV l, .bool s.down, .int .i64 s.commits]
/-- a Wal -/
def WalS (u g : Nat) (s : WlS) : As := As.ex fun x : Sl × Bool => Cs u (wlCells g x.1 x.2 s) T.y_wal_Wal
/-- without power; all that it has is safe -/
def offD (l : List Bs) (many : Int) : Ds := ⟨l, l, [], many, true, false⟩
theorem fall_off (d : Ds) (ys : List Wr1) (many : Int) : fallD d ys many = offD (setAll d.safe ys) many := rfl
def sizeD (d : Ds) : Int := (d.l.length : Int) - 111
def headB (h : Hd) : Bs := (layHead h).1
theorem headB_eq {h : Hd} (hv : validH h = true) : layHead h = (headB h, 0) := by simp only [headB, layHead, hv, if_true]
theorem headB_len {h : Hd} (hv : validH h = true) : (headB h).length = 256 := by
 have e : layHead h = (sealS 256 (headBytes h), 0) := by simp only [layHead, hv, if_true]
 unfold headB
 rw [e]
 simp only
 rw [sealS_len (by decide)]
 rw [headBytes_len]
 simp only [validH, Bool.and_eq_true, decide_eq_true_eq] at hv
 omega
theorem valid_done {seq : Int} (h0 : 0 ≤ seq) (h1 : seq ≤ 1099511627776) : validH ⟨seq, false, []⟩ = true := by
 simp only [validH, List.length_nil, List.range_zero, List.all_nil, Bool.and_true, Bool.and_eq_true, decide_eq_true_eq]
 exact ⟨h0, h1, by decide, by simp⟩
section
variable {w w' : World} {X : List As} {u g : Nat} {d : Ds} {s : WlS}
theorem Up_st (h : St w (WalS u g s :: X)) {R : Bool → World → Prop} (hR : R (!s.down) w) : F.wal_Wal_Up (some (blk u)) w R := by
 apply E.wal_Wal_Up
 unfold V.wal_Wal_Up
 try simp -zeta only [ldC, soC, brC, bkA, slC, stC, alC, drC]
 try simp (config := { zeta := false }) only [cnd_all, blk_add2, Nat.reduceAdd]
 obtain ⟨x, q⟩ := h.ex
 exact ⟨s.down, q.cell 4, hR⟩
theorem DskS.lenB (h : St w (DskS g d :: X)) : d.l.length ≤ 1000000 := by
 obtain ⟨p, hp, _⟩ := DskS.open h
 exact hp.len
theorem SizeW_st (h : St w (WalS u g s :: DskS g d :: X)) {R : Int → World → Prop} (hR : R (sizeD d) w) : F.wal_Wal_Size (some (blk u)) w R := by
 apply E.wal_Wal_Size
 unfold V.wal_Wal_Size
 try simp -zeta only [ldC, soC, brC, bkA, slC, stC, alC, drC]
 try simp (config := { zeta := false }) only [cnd_all, blk_add2, Nat.reduceAdd]
 obtain ⟨x, q⟩ := h.ex
 have hl := DskS.lenB h.drop
 refine ⟨some (blk g), q.cell0, SizeD_st h.drop ?_⟩
 rw [w64_id (by omega) (by omega)]; exact hR
def readE (d : Ds) (down : Bool) (at_ : Int) : Int := if down then 14 else if at_ < 0 ∨ sizeD d ≤ at_ then 15 else if d.off then 14 else 0
theorem ReadW_st (h : St w (WalS u g s :: DskS g d :: X)) {at_ : Int} {R : ByteArray → Int → World → Prop}
   (hR : R (tx (if readE d s.down at_ = 0 then d.l.getD (111 + at_.toNat) [] else [])) (readE d s.down at_) w) : F.wal_Wal_Read (some (blk u)) at_ w R := by
 apply E.wal_Wal_Read
 unfold V.wal_Wal_Read
 try simp -zeta only [ldC, soC, brC, bkA, slC, stC, alC, drC]
 try simp (config := { zeta := false }) only [cnd_all, blk_add2, Nat.reduceAdd]
 have hl := DskS.lenB h.drop
 have hs : sizeD d = (d.l.length : Int) - 111 := rfl
 refine Up_st h ⟨fun hu => ?_, fun hu => ⟨fun hn => ?_, fun hn => SizeW_st h ⟨fun hb => ?_, fun hb => ?_⟩⟩⟩
 · have e : readE d s.down at_ = 14 := by unfold readE; rw [if_pos (by simpa using hu)]
   rw [e] at hR; exact hR
 all_goals
   have hu : s.down = false := by simpa using hu
 · have e : readE d s.down at_ = 15 := by unfold readE; rw [if_neg (by simp [hu]), if_pos (.inl hn)]
   rw [e] at hR; exact hR
 · have e : readE d s.down at_ = 15 := by unfold readE; rw [if_neg (by simp [hu]), if_pos (.inr hb)]
   rw [e] at hR; exact hR
 · obtain ⟨x, q⟩ := h.ex
   refine ⟨some (blk g), q.cell0, ?_⟩
   rw [w64_id (by omega) (by omega)]
   refine ReadD_st h.drop ?_
   have e : readE d s.down at_ = mayD d (111 + at_) := by
     unfold readE mayD
     rw [if_neg (by simp [hu]), if_neg (by omega)]
     by_cases ho : d.off = true
     · rw [if_pos ho, if_pos ho]
     · rw [if_neg ho, if_neg ho, if_neg (by omega)]
   have e2 : (111 + at_).toNat = 111 + at_.toNat := by omega
   rw [e2, ← e]; exact hR
/-- writes that are made safe at once; the power may go -/
theorem put_st (h : St w (WalS u g s :: DskS g d :: X)) (hoff : d.off = false) (hws : d.ws = []) {sl : Sl} {xs : List Wr1} (hx : ∀ w', St w' X → Has EW w' sl xs) (hok : OkW d.l.length xs) (hm : 0 ≤ d.many ∧ d.many + xs.length < 1000000000000) (hl : xs.length < 1000000000) {R : Int → World → Prop}
   (hR : ∀ w', St w' (WalS u g s :: DskS g (flushD (wrN d xs)) :: X) → R 0 w')
   (hF : d.armed = true → ∀ ys many w', ys.Sublist xs → d.many ≤ many ∧ many ≤ d.many + xs.length → St w' (WalS u g s :: DskS g (offD (setAll d.safe ys) many) :: X) → R 14 w') : F.wal_Wal_put (some (blk u)) sl w R := by
 apply E.wal_Wal_put
 unfold V.wal_Wal_put
 try simp -zeta only [ldC, soC, brC, bkA, slC, stC, alC, drC]
 try simp (config := { zeta := false }) only [cnd_all, blk_add2, Nat.reduceAdd]
 obtain ⟨x, q⟩ := h.ex
 obtain ⟨f1, f2, f3, f4, f5, f6⟩ := wrN_facts d xs
 refine ⟨some (blk g), q.cell0, WriteD_st (X := WalS u g s :: X) h.sw hoff (fun w' hw => hx w' hw.drop) hok hm (by rw [hws]; simpa using hl) (fun w1 h1 => ⟨fun h => absurd rfl h, fun _ => ?_⟩) fun ha ys many w1 hys hm1 h1 => ⟨fun _ => ?_, fun h => (by cases h)⟩⟩
 · obtain ⟨x1, q1⟩ := h1.sw.ex
   refine ⟨some (blk g), q1.cell0, FlushD_st h1 (by rw [f5]; exact hoff) (fun w2 h2 => hR w2 h2.sw) fun ha ys w2 hys h2 => ?_⟩
   rw [f6] at ha
   rw [f3, hws, List.nil_append] at hys
   rw [fall_off, f2] at h2
   exact hF ha ys _ w2 hys (by rw [f4]; omega) h2.sw
 · rw [hws, List.nil_append] at hys
   exact hF ha ys many w1 hys hm1 h1.sw
theorem putHead_st (h : St w (WalS u g s :: DskS g d :: X)) (hoff : d.off = false) (hws : d.ws = []) {seq : Int} {full : Bool} {tl : Sl} {ts : List Int} (hT : ∀ w', St w' X → Ints w' tl ts) (htl : ∀ w', St w' X → ∀ k, tl.bk k → k < w'.heap.size)
   (hv : validH ⟨seq, full, ts⟩ = true) (hn : 1 ≤ d.l.length) (hm : 0 ≤ d.many ∧ d.many + 1 < 1000000000000) {R : Int → World → Prop}
   (hR : ∀ w', St w' (WalS u g { s with seq := seq } :: DskS g (flushD (wr1 d (0, headB ⟨seq, full, ts⟩))) :: X) → R 0 w')
   (hF : d.armed = true → ∀ ys many w', ys.Sublist [((0 : Int), headB ⟨seq, full, ts⟩)] → d.many ≤ many ∧ many ≤ d.many + 1 → St w' (WalS u g s :: DskS g (offD (setAll d.safe ys) many) :: X) → R 14 w') : F.wal_Wal_putHead (some (blk u)) seq full tl w R := by
 apply E.wal_Wal_putHead
 unfold V.wal_Wal_putHead
 try simp -zeta only [ldC, soC, brC, bkA, slC, stC, alC, drC]
 try simp (config := { zeta := false }) only [cnd_all, blk_add2, Nat.reduceAdd]
 have hlen := headB_len hv
 intro wa1
 replace h : St wa1 (Cs _ _ _ :: _) := h.new _ _
 clear_value wa1
 generalize w.heap.size = z at *
 refine ⟨_, h.cell0, _, h.cell 1, tl, h.cell 2, Lay_head (hT _ h.drop.drop.drop) (htl _ h.drop.drop.drop) fun w2 hB2 => ?_⟩
 have h2 := h.below hB2
 rw [headB_eq hv]
 refine ⟨fun h => absurd rfl h, fun _ => ?_⟩
 intro wa2
 replace h2 : St wa2 (Cs _ _ _ :: _) := h2.new _ _
 clear_value wa2
 generalize w2.heap.size = y at *
 -- Cs y :: Cs z :: WalS :: DskS :: X
 refine put_st (X := Cs y [.int .i64 0, .string (tx (headB ⟨seq, full, ts⟩))] T.y_api_Write :: Cs z [.int .i64 seq, .bool full, slV tl] T.y_head_Head :: X) h2.up3.up3 hoff hws (xs := [(0, headB ⟨seq, full, ts⟩)]) (fun w' hw => hw.lit (xs := [((0 : Int), headB ⟨seq, full, ts⟩)]) rfl rfl 1) (fun x hx => by
   simp only [List.mem_cons, List.not_mem_nil, or_false] at hx
   subst hx
   exact ⟨Int.le_refl _, by show (0 : Int) < _; omega, hlen⟩) (by simpa using hm) (by simp) (fun w3 h3 => ⟨fun h => absurd rfl h, fun _ => ?_⟩) fun ha ys many w3 hys hm3 h3 => ⟨fun _ => hF ha ys many w3 hys (by simpa using hm3) (h3.d3.d3), fun h => (by cases h)⟩
 have q3 := h3.up3
 obtain ⟨x, q⟩ := (q3.sw).ex
 -- Cs u :: Cs z :: DskS :: Cs y :: X
 refine ⟨_, q3.cell0, _, q3.cell 1, tl, q3.cell 2, ?_⟩
 refine ⟨q.wr (by simp), ?_⟩
 intro wa3
 replace q : St wa3 _ := q.set 1 _
 clear_value wa3
 refine ⟨q.wr (by simp), ?_⟩
 intro wa4
 replace q : St wa4 _ := q.set 2 _
 clear_value wa4
 refine ⟨q.wr (by simp), ?_⟩
 intro wa5
 replace q : St wa5 _ := q.set 3 _
 clear_value wa5
 refine hR _ (St.mk (tl, full) (L := _) ?_)
 exact q.d2.d3
end
end Go.Proofs.YtggachhkcmfijaaGreatDoor

/- wal: write, last, Commit, also where the power goes. -/
set_option linter.unusedVariables false
namespace Go.Proofs.YtggachhkcmfijaaGreatDoor
open Go Go.Vc Go.RowKit Go.Lib Go.Maps Go.Proofs
def badW (n : Int) (x : Wr1) : Int := if x.1 < 0 ∨ n ≤ x.1 then 15 else if x.2.length ≠ 256 then 1 else 0
def lastE (n : Int) (ws : List Wr1) : Int :=
 match ws.find? (fun x => decide (badW n x ≠ 0)) with
 | some x => badW n x
 | none => if 110 < (nextT (keysW ws)).length then 21 else 0
theorem lastE_bad {n : Int} {ws : List Wr1} {m : Nat} {x : Wr1} (h : ∀ y ∈ ws.take m, badW n y = 0) (hx : ws[m]? = some x) (hb : badW n x ≠ 0) : lastE n ws = badW n x := by
 have e : ws.find? (fun x => decide (badW n x ≠ 0)) = some x := by
   have hlt := (List.getElem?_eq_some_iff.1 hx).1
   have hx' := (List.getElem?_eq_some_iff.1 hx).2
   rw [List.find?_eq_some_iff_append]
   refine ⟨by simpa using hb, ws.take m, ws.drop (m + 1), ?_, fun y hy => by simp [h y hy]⟩
   rw [← hx', ← List.drop_eq_getElem_cons hlt, List.take_append_drop]
 unfold lastE
 rw [e]
theorem lastE_zero {n : Int} {ws : List Wr1} (h : lastE n ws = 0) : (∀ x ∈ ws, 0 ≤ x.1 ∧ x.1 < n ∧ x.2.length = 256) ∧ (nextT (keysW ws)).length ≤ 110 := by
 unfold lastE at h
 split at h
 · rename_i x hf
   have := List.find?_some hf
   simp only [ne_eq, decide_eq_true_eq] at this
   exact absurd h this
 · rename_i hf
   rw [List.find?_eq_none] at hf
   refine ⟨fun x hx => ?_, by split at h <;> omega⟩
   have := hf x hx
   simp only [ne_eq, decide_eq_true_eq, Decidable.not_not] at this
   unfold badW at this
   split at this
   · simp at this
   · split at this
     · simp at this
     · omega
theorem targets_ok {n : Int} {ws : List Wr1} (h : lastE n ws = 0) {i : Nat} (hi : i < (nextT (keysW ws)).length) :
   0 ≤ (nextT (keysW ws)).getD i 0 ∧ (nextT (keysW ws)).getD i 0 < n ∧ (lastW ws ((nextT (keysW ws)).getD i 0)).length = 256 := by
 have hm : (nextT (keysW ws)).getD i 0 ∈ keysW ws := by
   rw [← (nextT_up _).2]
   have : (nextT (keysW ws)).getD i 0 = (nextT (keysW ws))[i] := by simp [hi]
   rw [this]; exact List.getElem_mem _
 have := (lastE_zero h).1 _ (lastW_mem ws _ hm)
 exact this
theorem valid_next {seq : Int} {ts : List Int} (h0 : 0 ≤ seq) (h1 : seq ≤ 1099511627776) (hup : Up ts) (hlen : ts.length ≤ 110) (hne : ts ≠ []) (hr : ∀ x ∈ ts, 0 ≤ x ∧ x < 2000) : validH ⟨seq, true, ts⟩ = true := by
 have hpos : 0 < ts.length := List.length_pos_iff.2 hne
 simp only [validH, Bool.and_eq_true, decide_eq_true_eq, List.all_eq_true, List.mem_range]
 refine ⟨h0, h1, hlen, by simp [hpos], fun i hi => ?_⟩
 unfold upTo
 have e : ts[i]? = some ts[i] := by simp [hi]
 rw [e]
 have hx := hr ts[i] (List.getElem_mem _)
 simp only [Bool.and_eq_true, Bool.or_eq_true, decide_eq_true_eq]
 refine ⟨hx.1, hx.2, ?_⟩
 by_cases h0 : i = 0
 · exact .inl h0
 · refine .inr ?_
   have e2 : ts.getD (i - 1) 0 = ts[i - 1] := by simp [show i - 1 < ts.length by omega]
   rw [e2]
   have hp : List.Pairwise (· < ·) ts := by first | exact hup | simpa [Up] using hup
   exact List.pairwise_iff_getElem.1 hp (i - 1) i (by omega) hi (by omega)
def logN (ts : List Int) (ws : List Wr1) (m : Nat) : List Wr1 := (List.range m).map fun (i : Nat) => (1 + (i : Int), lastW ws (ts.getD i 0))
def homN (ts : List Int) (ws : List Wr1) (m : Nat) : List Wr1 := (List.range m).map fun (i : Nat) => (111 + ts.getD i 0, lastW ws (ts.getD i 0))
theorem logN_succ (ts : List Int) (ws : List Wr1) (m : Nat) : logN ts ws (m + 1) = logN ts ws m ++ [(1 + (m : Int), lastW ws (ts.getD m 0))] := by simp [logN, List.range_succ]
theorem homN_succ (ts : List Int) (ws : List Wr1) (m : Nat) : homN ts ws (m + 1) = homN ts ws m ++ [(111 + ts.getD m 0, lastW ws (ts.getD m 0))] := by simp [homN, List.range_succ]
theorem logN_len (ts : List Int) (ws : List Wr1) (m : Nat) : (logN ts ws m).length = m := by simp [logN]
theorem homN_len (ts : List Int) (ws : List Wr1) (m : Nat) : (homN ts ws m).length = m := by simp [homN]
/-- the disk behind a commit -/
def commitD (d : Ds) (seq : Int) (ws : List Wr1) : Ds :=
 let ts := nextT (keysW ws)
 let d1 := flushD (wrN d (logN ts ws ts.length))
 let d2 := flushD (wr1 d1 (0, headB ⟨seq + 1, true, ts⟩))
 flushD (wr1 (flushD (wrN d2 (homN ts ws ts.length))) (0, headB ⟨seq + 1, false, []⟩))
section
variable {w w' : World} {X : List As} {u g : Nat} {d : Ds} {s : WlS}
/-- what may lie there where the power went while these were written, and the head -/
def TornW (safe l : List Bs) (xs : List Wr1) (h : Bs) (l' : List Bs) : Prop := (∃ ys : List Wr1, ys.Sublist xs ∧ l' = setAll safe ys) ∨ ∃ ys : List Wr1, ys.Sublist [((0 : Int), h)] ∧ l' = setAll (setAll l xs) ys
theorem write_st (h : St w (WalS u g s :: DskS g d :: X)) (hoff : d.off = false) (hws : d.ws = []) {sl : Sl} {xs : List Wr1} (hx : ∀ w', St w' X → Has EW w' sl xs) (hok : OkW d.l.length xs) (hn : 1 ≤ d.l.length) (hs : 0 ≤ s.seq ∧ s.seq ≤ 1099511627776) (hm : 0 ≤ d.many ∧ d.many + xs.length + 1 < 1000000000000) (hl : xs.length < 1000000000) {R : Int → World → Prop}
   (hR : ∀ w', St w' (WalS u g s :: DskS g (flushD (wr1 (flushD (wrN d xs)) (0, headB ⟨s.seq, false, []⟩))) :: X) → R 0 w')
   (hF : d.armed = true → ∀ l many w', TornW d.safe d.l xs (headB ⟨s.seq, false, []⟩) l → d.many ≤ many ∧ many ≤ d.many + xs.length + 1 → St w' (WalS u g s :: DskS g (offD l many) :: X) → R 14 w') : F.wal_Wal_write (some (blk u)) sl w R := by
 apply E.wal_Wal_write
 unfold V.wal_Wal_write
 try simp -zeta only [ldC, soC, brC, bkA, slC, stC, alC, drC]
 try simp (config := { zeta := false }) only [cnd_all, blk_add2, Nat.reduceAdd]
 obtain ⟨f1, f2, f3, f4, f5, f6⟩ := wrN_facts d xs
 refine put_st h hoff hws hx hok (by omega) hl (fun w1 h1 => ⟨fun h => absurd rfl h, fun _ => ?_⟩) fun ha ys many w1 hys hm1 h1 => ⟨fun _ => hF ha _ many w1 (.inl ⟨ys, hys, rfl⟩) (by omega) h1, fun h => (by cases h)⟩
 obtain ⟨x, q⟩ := h1.ex
 refine ⟨_, q.cell 1, _, q.cell 2, x.1, q.cell 3, Done_head fun w2 hB2 => ?_⟩
 refine putHead_st (h1.below hB2) (by show (wrN d xs).off = false; rw [f5]; exact hoff) rfl (ts := []) (fun w' _ => ⟨rfl, fun j v hj => by simp at hj⟩) (fun w' _ k hk => bk_nil hk) (valid_done hs.1 hs.2) (by show 1 ≤ (wrN d xs).l.length; rw [f1, setAll_len]; exact hn) (by show 0 ≤ (wrN d xs).many ∧ (wrN d xs).many + 1 < _; omega) (fun w3 h3 => hR w3 h3) fun ha ys many w3 hys hm3 h3 => ?_
 refine hF (by rw [← f6]; exact ha) _ many w3 (.inr ⟨ys, hys, rfl⟩) ?_ ?_
 · have : (flushD (wrN d xs)).many = d.many + xs.length := f4
   omega
 · have e : (flushD (wrN d xs)).safe = setAll d.l xs := f1
   rw [e] at h3; exact h3
theorem MapS.put {b : Nat} {ws : List Wr1} (h : St w (MapS b ws :: X)) (hl : ws.length ≤ 1000000) {x : Int} {v : Bs} (hx : -9223372036854775808 ≤ x ∧ x < 9223372036854775808) (hv : v.length ≤ 1000000) {R : World → Prop}
   (hR : ∀ w', St w' (MapS b (ws ++ [(x, v)]) :: X) → R w') : RunU Pg (Instr.mapUpdate T.y_map_int_string (.map (some b)) (.int .i64 x) (.string (tx v))) w R := by
 obtain ⟨S, ⟨hm, e⟩, _, hX⟩ := h.out
 subst e
 exact hm.put hl hx hv fun w' hm' hf => hR w' (hX (S' := (· = b)) ⟨hm', rfl⟩ hf fun k hk => .inl hk)
theorem MapS.made (h : St w X) : St (w.alloc (.map #[] 0)) (MapS w.heap.size [] :: X) :=
 h.add (S := (· = w.heap.size)) ⟨MapOf.made w, rfl⟩ (Fr.alloc no w _) (fun k hk => Nat.le_of_eq (Eq.symm hk))
theorem keys_st {b : Nat} {ws : List Wr1} (h : St w (MapS b ws :: X)) (hl : ws.length ≤ 1000000) {R : Sl → World → Prop} (hR : ∀ l w', St w' (Row EI T.y_int l (nextT (keysW ws)) :: MapS b ws :: X) → R l w') :
   F.maps_Keys_map_int_string_int_string (some b) w fun v w1 => F.slices_Sorted_int v w1 R :=
 KeysSorted_spec (MapS.of h) hl fun l w' hO hbk hB => hR l w' (St.rowOf h (fr_below hB) (by rw [EI_all]; exact hO) hbk)
theorem last_st (h : St w (WalS u g s :: DskS g d :: X)) {sl : Sl} {ws : List Wr1} (hx : ∀ w', St w' X → Has EW w' sl ws) (hl : ws.length ≤ 1000000) {R : Option Nat → Int → World → Prop}
   (hE : ∀ w', lastE (sizeD d) ws ≠ 0 → St w' (WalS u g s :: DskS g d :: X) → R none (lastE (sizeD d) ws) w')
   (hR : ∀ b w', lastE (sizeD d) ws = 0 → St w' (MapS b ws :: WalS u g s :: DskS g d :: X) → R (some b) 0 w') : F.wal_Wal_last (some (blk u)) sl w R := by
 apply E.wal_Wal_last
 unfold V.wal_Wal_last
 try simp -zeta only [ldC, soC, brC, bkA, slC, stC, alC, drC]
 try simp (config := { zeta := false }) only [cnd_all, blk_add2, Nat.reduceAdd]
 have hxl := (hx w h.drop.drop).1
 have hdl := DskS.lenB h.drop
 have hsd : sizeD d = (d.l.length : Int) - 111 := rfl
 intro w1
 have h1 : St w1 (MapS w.heap.size [] :: _) := MapS.made h
 clear_value w1
 generalize w.heap.size = b at *
 refine ⟨Cnt ws.length fun m w' => St w' (MapS b (ws.take m) :: WalS u g s :: DskS g d :: X) ∧ ∀ y ∈ ws.take m, badW (sizeD d) y = 0, cntM ws.length, Cnt.zero ⟨h1, by simp⟩, ?_⟩
 rintro _ w2 ⟨m, rfl, hm, h2, hall⟩
 refine ⟨fun hlt => ?_, fun hge => ?_⟩
 · have hlt : m < ws.length := by omega
   obtain ⟨ad, ha, hal, c0, c1⟩ := Has.wr (hx w2 h2.drop.drop.drop) hlt
   refine ⟨ad, ha, by omega, by omega, _, c0, _, c1, ?_⟩
   intro wa1
   replace h2 : St wa1 (Cs _ _ _ :: _) := h2.new _ _
   clear_value wa1
   refine ⟨h2.wr0 (by simp), ?_⟩
   intro wa2
   replace h2 : St wa2 _ := h2.set0 _
   clear_value wa2
   refine ⟨h2.wr (by simp), ?_⟩
   intro wa3
   replace h2 : St wa3 _ := h2.set 1 _
   clear_value wa3
   simp only [List.set_cons_zero, List.set_cons_succ] at h2
   generalize w2.heap.size = z at *
   have hgm : ws[m]? = some ws[m] := by simp [hlt]
   have bad : ∀ e w', badW (sizeD d) ws[m] = e → e ≠ 0 → St w' (WalS u g s :: DskS g d :: X) → R none e w' := fun e w' he h0 hw => by
     have e2 := lastE_bad hall hgm (by rw [he]; exact h0)
     have := hE w' (by rw [e2, he]; exact h0) hw
     rw [e2, he] at this; exact this
   refine ⟨fun v w' => v = decide (ws[m].1 < 0 ∨ sizeD d ≤ ws[m].1) ∧ St w' (Cs z [.int .i64 ws[m].1, .string (tx ws[m].2)] T.y_api_Write :: MapS b (ws.take m) :: WalS u g s :: DskS g d :: X), ?_, ?_⟩
   · intro wa4
     replace h2 : St wa4 _ := h2.drew
     clear_value wa4
     exact ⟨_, h2.cell0, fun hn => ⟨h2.cell0, by simp [hn], h2⟩, fun hn => ⟨_, h2.cell0, SizeW_st (h2.drop.drop) ⟨h2.cell0, h2.cell0, by simp [hn], h2⟩⟩⟩
   rintro v w5 ⟨rfl, h2⟩
   refine ⟨fun hv => bad 15 _ (by unfold badW; rw [if_pos (of_decide_eq_true hv)]) (by decide) h2.drop.drop, fun hv => ⟨_, h2.cell 1, fun hne => ?_, fun hne => ⟨_, h2.cell0, _, h2.cell 1, ?_⟩⟩⟩
   all_goals have hv := of_decide_eq_false hv
   · rw [tx_size] at hne
     exact bad 1 _ (by unfold badW; rw [if_neg (by omega), if_pos (by omega)]) (by decide) h2.drop.drop
   · rw [tx_size] at hne
     refine MapS.put h2.drop (by simp; omega) (by omega) (by omega) fun w3 h3 => Cnt.next hlt (by omega) ⟨?_, fun y hy => ?_⟩
     · rw [List.take_succ_eq_append_getElem hlt]; exact h3
     · rw [List.take_succ_eq_append_getElem hlt] at hy
       rcases List.mem_append.1 hy with hy | hy
       · exact hall y hy
       · simp only [List.mem_cons, List.not_mem_nil, or_false] at hy
         subst hy
         unfold badW; rw [if_neg (by omega), if_neg (by omega)]
 · have hmm : m = ws.length := by omega
   subst hmm
   rw [List.take_length] at h2 hall
   have e : ws.find? (fun x => decide (badW (sizeD d) x ≠ 0)) = none := by
     rw [List.find?_eq_none]
     intro x hx
     simp [hall x hx]
   refine (MapS.of h2).len ⟨fun hgt => ?_, fun hgt => ?_⟩
   · have e2 : lastE (sizeD d) ws = 21 := by unfold lastE; rw [e]; simp only; rw [if_pos (by omega)]
     have := hE w2 (by rw [e2]; decide) h2.drop
     rw [e2] at this; exact this
   · have e2 : lastE (sizeD d) ws = 0 := by unfold lastE; rw [e]; simp only; rw [if_neg (by omega)]
     exact hR b w2 e2 h2
end
end Go.Proofs.YtggachhkcmfijaaGreatDoor
