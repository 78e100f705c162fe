/- desk: what a desk is, over a disk whose power may go; its calls. -/
import Derived.Test.YtggachhkcmfijaaGreatDoorShelg
import Derived.LaidEqlPtr
set_option linter.unusedVariables false
namespace Go.Proofs.YtggachhkcmfijaaGreatDoor
open Go Go.Vc Go.RowKit Go.Lib Go.Maps Go.Proofs
/-- what a desk has: the disk, the number of the head, how many commits and syncs, which sectors would be in use, what is on it -/
structure DkV where
 d : Ds
 seq : Int
 commits : Int
 syncs : Int
 bs : List Bool
 ws : List Wr1
theorem layRoom_len' (bs : List Bool) (h : bs.length ≤ 1900) : (layRoom bs).length = 256 := by
 unfold layRoom
 exact sealS_len (by decide) (by rw [roomBytes_len]; omega)
/-- a desk that may be; c bounds what was done -/
structure DOk (c : Nat) (D : DkV) : Prop where
 q : Quiet D.d D.seq
 len : D.bs.length + 111 = D.d.l.length
 u0 : D.bs.getD 0 false = true
 u1 : D.bs.getD 1 false = true
 ws : ∀ x ∈ D.ws, 0 ≤ x.1 ∧ x.1 < (D.bs.length : Int) ∧ x.1 ≠ 1 ∧ x.2.length = 256
 wl : D.ws.length ≤ c
 seq : 0 ≤ D.seq ∧ D.seq ≤ c
 com : 0 ≤ D.commits ∧ D.commits ≤ c
 syn : 0 ≤ D.syncs ∧ D.syncs ≤ c
 many : D.d.many ≤ 1000 * c
theorem lastE_ok {n : Int} {ws : List Wr1} (h : ∀ x ∈ ws, 0 ≤ x.1 ∧ x.1 < n ∧ x.2.length = 256) (hl : (nextT (keysW ws)).length ≤ 110) : lastE n ws = 0 := by
 have e : ws.find? (fun x => decide (badW n x ≠ 0)) = none := by
   rw [List.find?_eq_none]
   intro x hx
   have := h x hx
   have : badW n x = 0 := by unfold badW; rw [if_neg (by omega), if_neg (by omega)]
   simp [this]
 unfold lastE
 rw [e]
 simp only
 rw [if_neg (by omega)]
def bs0 (n : Nat) : List Bool := usedL n [0, 1]
def fmtW (n : Nat) : List Wr1 := [(0, zeroS), (1, layRoom (bs0 n))]
def fmtD (d : Ds) (seq : Int) (n : Nat) : DkV := ⟨commitD d seq (fmtW n), seq + 1, 1, 0, bs0 n, []⟩
theorem bs0_len (n : Nat) : (bs0 n).length = n := usedL_len n _
theorem fmt_lastE {d : Ds} {seq : Int} (hq : Quiet d seq) : lastE (sizeD d) (fmtW (d.l.length - 111)) = 0 := by
 have hlo := hq.lo
 have hhi := hq.hi
 refine lastE_ok (fun x hx => ?_) (Nat.le_trans (nextT_len _) (by show 2 ≤ 110; decide))
 have hs : sizeD d = (d.l.length : Int) - 111 := rfl
 simp only [fmtW, List.mem_cons, List.not_mem_nil, or_false] at hx
 rcases hx with rfl | rfl
 · exact ⟨by decide, by show (0 : Int) < _; omega, zeroS_len⟩
 · exact ⟨by show (0 : Int) ≤ 1; decide, by show (1 : Int) < _; omega, layRoom_len' _ (by rw [bs0_len]; omega)⟩
theorem fmt_len2 (n : Nat) : (nextT (keysW (fmtW n))).length ≤ 2 := Nat.le_trans (nextT_len _) (Nat.le_refl _)
theorem fmt_ok {d : Ds} {seq : Int} (hq : Quiet d seq) (hs : 0 ≤ seq ∧ seq ≤ 1000) (hm : d.many ≤ 1000) : DOk 1001 (fmtD d seq (d.l.length - 111)) := by
 have hlo := hq.lo
 have hE := fmt_lastE hq
 obtain ⟨q1, q2, q3, q4⟩ := commit_facts hq hs.1 (by omega) hE
 have hn := bs0_len (d.l.length - 111)
 have hg : ∀ i, i < 2 → (bs0 (d.l.length - 111)).getD i false = true := fun i hi => by
   unfold bs0
   rw [usedL_get _ _ (by simp) (by omega)]
   have : (i : Int) = 0 ∨ (i : Int) = 1 := by omega
   rcases this with h | h <;> simp [h]
 have hl2 := fmt_len2 (d.l.length - 111)
 refine ⟨q1, by show (bs0 _).length + 111 = (commitD _ _ _).l.length; rw [q2, hn]; omega, hg 0 (by decide), hg 1 (by decide), fun x hx => (by cases hx), Nat.zero_le _, ⟨by show 0 ≤ seq + 1; omega, by show seq + 1 ≤ _; omega⟩, ⟨by show (0 : Int) ≤ 1; decide, by show (1 : Int) ≤ 1001; decide⟩, ⟨by show (0 : Int) ≤ 0; decide, by show (0 : Int) ≤ 1001; decide⟩, ?_⟩
 show (commitD _ _ _).many ≤ _
 rw [q3]; omega
section
variable {c : Nat} {D : DkV}
theorem DOk.mono {c' : Nat} (h : DOk c D) (hc : c ≤ c') : DOk c' D :=
 ⟨h.q, h.len, h.u0, h.u1, h.ws, Nat.le_trans h.wl hc, ⟨h.seq.1, by have := h.seq.2; omega⟩, ⟨h.com.1, by have := h.com.2; omega⟩, ⟨h.syn.1, by have := h.syn.2; omega⟩, by have := h.many; omega⟩
theorem free_false {bs : List Bool} (h : freeAt bs < bs.length) : bs.getD (freeAt bs) false = false := by
 have h2 : (!(bs[freeAt bs])) = true := List.findIdx_getElem (w := h)
 have e : bs.getD (freeAt bs) false = bs[freeAt bs] := by simp [h]
 rw [e]
 cases hb : bs[freeAt bs] with
 | false => rfl
 | true => rw [hb] at h2; cases h2
theorem free_ge2 (h : DOk c D) (hlt : freeAt D.bs < D.bs.length) : 2 ≤ freeAt D.bs := by
 have hlo := h.q.lo
 have hlen := h.len
 have hf := free_false hlt
 have n0 : ¬ freeAt D.bs = 0 := fun e => by
   have h0 := h.u0
   rw [← e, hf] at h0
   cases h0
 have n1 : ¬ freeAt D.bs = 1 := fun e => by
   have h0 := h.u1
   rw [← e, hf] at h0
   cases h0
 omega
theorem DOk.new (h : DOk c D) (hlt : freeAt D.bs < D.bs.length) {data : Bs} (hd : data.length = 256) : DOk (c + 1) { D with bs := D.bs.set (freeAt D.bs) true, ws := D.ws ++ [((freeAt D.bs : Int), data)] } := by
 have h2 := free_ge2 h hlt
 have g : ∀ i, i < 2 → (D.bs.set (freeAt D.bs) true).getD i false = D.bs.getD i false := fun i hi => by
   simp only [List.getD_eq_getElem?_getD]
   rw [List.getElem?_set_ne (by omega)]
 refine ⟨h.q, by show (D.bs.set _ _).length + 111 = _; rw [List.length_set]; exact h.len, by show (D.bs.set _ _).getD 0 false = _; rw [g 0 (by decide)]; exact h.u0, by show (D.bs.set _ _).getD 1 false = _; rw [g 1 (by decide)]; exact h.u1, fun x hx => ?_, by show (D.ws ++ _).length ≤ _; have := h.wl; simp; omega,
   ⟨h.seq.1, by show D.seq ≤ _; have := h.seq.2; omega⟩, ⟨h.com.1, by show D.commits ≤ _; have := h.com.2; omega⟩, ⟨h.syn.1, by show D.syncs ≤ _; have := h.syn.2; omega⟩, by show D.d.many ≤ _; have := h.many; omega⟩
 show _ ∧ x.1 < ((D.bs.set _ _).length : Int) ∧ _
 rw [List.length_set]
 rcases List.mem_append.1 hx with hx | hx
 · exact h.ws x hx
 · simp only [List.mem_cons, List.not_mem_nil, or_false] at hx
   subst hx
   exact ⟨by show (0 : Int) ≤ _; omega, by show ((freeAt D.bs : Nat) : Int) < _; omega, by show ((freeAt D.bs : Nat) : Int) ≠ 1; omega, hd⟩
theorem MapOf.lookok {w : World} {b : Nat} {ws : List Wr1} (h : MapOf w b ws) {x : Int} (hx : -9223372036854775808 ≤ x ∧ x < 9223372036854775808) {R : ByteArray → Bool → World → Prop} (hR : R (tx (lastW ws x)) (decide (x ∈ keysW ws)) w) :
   RunT Pg (Instr.lookup T.y_map_int_string (.map (some b)) (.int .i64 x) true) [.one .str, .one .bool] w R := by
 obtain ⟨D, n, ho, hn, hh, hat⟩ := h
 have hz : (zeroValue T.y_string).run Pg w = .ok (.string sNil) w := run_zeroT (by kernel_rfl) w
 have hzd : plainElem (H := Unit) Pg T.y_string (.string sNil) = some (.lit (.string []), []) := plainElem_string und_str' (s := sNil) (by decide)
 obtain ⟨v, ps, hrun, hv⟩ := ho.look_ok Kint und_mis hz hzd (keyOf_int_mk und_int' (intWf hx))
 rw [hat x] at hv
 obtain ⟨s, rfl, hs, _⟩ := plainElem_string_inv und_str' hv
 simp only [Prod.mk.injEq, DataW.lit.injEq, Lit.string.injEq] at hs
 have e : s = tx (lastW ws x) := by
   rw [hs.1]
   rfl
 subst e
 have e2 : Maps.has D (.int .i64 x) = decide (x ∈ keysW ws) := by
   rw [Bool.eq_iff_iff, hh x]; simp
 rw [e2] at hrun
 exact ⟨_, _, w, hrun, hR⟩
end
theorem up_pw {l : List Int} : Up l ↔ List.Pairwise (· < ·) l := by
 first
   | exact Iff.rfl
   | simp [Up]
section
variable {c : Nat} {D : DkV}
theorem DOk.bsl (h : DOk c D) : 29 ≤ D.bs.length ∧ D.bs.length ≤ 1889 := by
 have := h.len; have := h.q.lo; have := h.q.hi
 omega
end
/-- a Room -/
def RoomS (r : Nat) (bs : List Bool) : As where
 p := fun w S => Go.Proofs.YtggachhkcmfijaaGreatDoor.Room w r S bs
 lt := fun h k hk => h.lt hk
 keep := fun h hf => h.keep hf (fun j hj hn => hn hj)
abbrev dkC (u r b : Nat) (s : Int) : List Value := [.pointer (some (blk u)), .pointer (some (blk r)), .map (some b), .int .i64 s, .int .i64 0]
/-- a Wal and its disk -/
def WDS (u g : Nat) (D : DkV) : As := As.all [WalS u g ⟨D.seq, false, D.commits⟩, DskS g D.d]
/-- a desk -/
def DeskS (k g c : Nat) (D : DkV) : As := As.ex fun p : Nat × Nat × Nat => As.wh (DOk c D) (As.all [Cs k (dkC p.1 p.2.1 p.2.2 D.syncs) T.y_desk_Desk, RoomS p.2.1 D.bs, MapS p.2.2 D.ws, WDS p.1 g D])
section
variable {w w' : World} {X : List As} {k g c : Nat} {D : DkV}
theorem WDS.split {u : Nat} (h : St w (WDS u g D :: X)) : St w (WalS u g ⟨D.seq, false, D.commits⟩ :: DskS g D.d :: X) := h.unfold
theorem WDS.put {u : Nat} (h : St w (WalS u g ⟨D.seq, false, D.commits⟩ :: DskS g D.d :: X)) : St w (WDS u g D :: X) := St.fold _ h
theorem WDS.to {u : Nat} {D' : DkV} (hd : D'.d = D.d) (hs : D'.seq = D.seq) (hc : D'.commits = D.commits) (h : St w (WDS u g D :: X)) : St w (WDS u g D' :: X) := by
 unfold WDS at h ⊢
 rw [hs, hc, hd]
 exact h
theorem DeskS.parts (h : St w (DeskS k g c D :: X)) : DOk c D ∧ ∃ u r b, St w (Cs k (dkC u r b D.syncs) T.y_desk_Desk :: RoomS r D.bs :: MapS b D.ws :: WDS u g D :: X) := by
 obtain ⟨⟨u, r, b⟩, h⟩ := St.ex h
 obtain ⟨hk, h⟩ := h.wh
 exact ⟨hk, u, r, b, h.unfold⟩
theorem DeskS.join {u r b : Nat} (hk : DOk c D) (h : St w (Cs k (dkC u r b D.syncs) T.y_desk_Desk :: RoomS r D.bs :: MapS b D.ws :: WDS u g D :: X)) : St w (DeskS k g c D :: X) :=
 St.mk (u, r, b) (St.whmk hk (St.fold _ h))
theorem DeskS.ok (h : St w (DeskS k g c D :: X)) : DOk c D := (DeskS.parts h).1
theorem DeskS.mono (h : St w (DeskS k g c D :: X)) {c' : Nat} (hc : c ≤ c') : St w (DeskS k g c' D :: X) := by
 obtain ⟨hk, u, r, b, q⟩ := DeskS.parts h
 exact DeskS.join (hk.mono hc) q
/-- the sector at a place, as it would be -/
def getD (D : DkV) (a : Int) : Bs := if a ∈ keysW D.ws then lastW D.ws a else if 0 ≤ a ∧ a < (D.bs.length : Int) then homeAt D.d a.toNat else []
def getE (D : DkV) (a : Int) : Int := if a ∈ keysW D.ws then 0 else if 0 ≤ a ∧ a < (D.bs.length : Int) then 0 else 15
def newD' (D : DkV) (data : Bs) : DkV := { D with bs := D.bs.set (freeAt D.bs) true, ws := D.ws ++ [((freeAt D.bs : Int), data)] }
def backD (D M : DkV) : DkV := { D with bs := M.bs, ws := M.ws }
/-! ### Rooms -/
theorem Used_st {r : Nat} {bs : List Bool} (h : St w (RoomS r bs :: X)) {at_ : Int} {R : Bool → World → Prop} (hR : R (usedB bs at_) w) : F.room_Room_Used (some (blk r)) at_ w R := by
 obtain ⟨S, hr⟩ := h.hd
 exact Used_room hr hR
theorem Take_st {r : Nat} {bs : List Bool} (h : St w (RoomS r bs :: X)) (hn : bs.length ≤ 1000000) {R : Int → Int → World → Prop} (hF : freeAt bs = bs.length → R 0 20 w)
   (hR : ∀ w', freeAt bs < bs.length → St w' (RoomS r (bs.set (freeAt bs) true) :: X) → R (freeAt bs : Int) 0 w') : F.room_Room_Take (some (blk r)) w R := by
 obtain ⟨S, hr, hlt, hX⟩ := h.out
 exact Take_room hr hn hF fun w1 hl hr1 hF1 => hR w1 hl (hX (A' := RoomS r _) hr1 hF1 fun j hj => .inl hj)
theorem Copy_st {r : Nat} {bs : List Bool} (h : St w (RoomS r bs :: X)) (hn : bs.length ≤ 1000000) {R : Option Addr → World → Prop} (hR : ∀ r' w', St w' (RoomS r' bs :: RoomS r bs :: X) → R (some (blk r')) w') : F.room_Room_Copy (some (blk r)) w R := by
 obtain ⟨S, hr⟩ := h.hd
 exact Copy_room hr hn fun r' fp' w' hr' hn' hB => hR r' w' (h.add (A := RoomS r' bs) hr' (fr_below hB) hn')
theorem LayR_st {r : Nat} {bs : List Bool} (h : St w (RoomS r bs :: X)) (h1 : 1 ≤ bs.length) (hn : bs.length ≤ 1900) {R : ByteArray → Int → World → Prop} (hR : ∀ w', St w' (RoomS r bs :: X) → R (tx (layRoom bs)) 0 w') : F.room_Room_Lay (some (blk r)) w R := by
 obtain ⟨S, hr⟩ := h.hd
 exact Lay_room hr h1 hn fun w' hB => hR w' (h.below hB)
/-! ### Calls -/
theorem Bad_p {u r b : Nat} {s : Int} (h : St w (Cs k (dkC u r b s) T.y_desk_Desk :: X)) {R : Int → World → Prop} (hR : R 0 w) : F.desk_Desk_Bad (some (blk k)) w R := by
 apply E.desk_Desk_Bad
 unfold V.desk_Desk_Bad
 try simp -zeta only [ldC, soC, brC, bkA, slC, stC, alC, drC]
 exact ⟨fun h => by simp at h, fun _ => ⟨blk k, rfl, 0, h.cell 4, hR⟩⟩
theorem Get_st (h : St w (DeskS k g c D :: X)) {a : Int} (hx : -9223372036854775808 ≤ a ∧ a < 9223372036854775808) {R : ByteArray → Int → World → Prop} (hR : R (tx (getD D a)) (getE D a) w) : F.desk_Desk_Get (some (blk k)) a w R := by
 apply E.desk_Desk_Get
 unfold V.desk_Desk_Get
 try simp -zeta only [ldC, soC, brC, bkA, slC, stC, alC, drC]
 try simp (config := { zeta := false }) only [cnd_all, blk_add2, Nat.reduceAdd]
 obtain ⟨hk, u, r, b, q⟩ := DeskS.parts h
 have hhi := hk.q.hi
 have hlen := hk.len
 unfold getD getE at hR
 refine Bad_p q ⟨fun h => absurd rfl h, fun _ => ⟨some b, q.cell 2, (MapS.of q.up2).lookok hx ⟨fun hb => ?_, fun hb => ⟨some (blk u), q.cell0, ReadW_st (WDS.split q.up3) ?_⟩⟩⟩⟩
 · have hb := of_decide_eq_true hb
   rw [if_pos hb, if_pos hb] at hR; exact hR
 · have hb := of_decide_eq_false hb
   rw [if_neg hb, if_neg hb] at hR
   have hs : sizeD D.d = (D.d.l.length : Int) - 111 := rfl
   by_cases hr : 0 ≤ a ∧ a < (D.bs.length : Int)
   · rw [if_pos hr, if_pos hr] at hR
     have e : readE D.d false a = 0 := by unfold readE; rw [if_neg (by decide), if_neg (by omega), if_neg (by simp [hk.q.off])]
     simp only [e, if_true]
     exact hR
   · rw [if_neg hr, if_neg hr] at hR
     have e : readE D.d false a = 15 := by unfold readE; rw [if_neg (by decide), if_pos (by omega)]
     simp only [e]
     exact hR
theorem New_st (h : St w (DeskS k g c D :: X)) (hc : c ≤ 1000000) {data : Bs} (hdl : data.length ≤ 1000000000) {R : Int → Int → World → Prop}
   (hA : data.length ≠ 256 → R 0 1 w) (hF : data.length = 256 → freeAt D.bs = D.bs.length → R 0 20 w)
   (hR : ∀ w', data.length = 256 → freeAt D.bs < D.bs.length → St w' (DeskS k g (c + 1) (newD' D data) :: X) → R (freeAt D.bs) 0 w') : F.desk_Desk_New (some (blk k)) (tx data) w R := by
 apply E.desk_Desk_New
 unfold V.desk_Desk_New
 try simp -zeta only [ldC, soC, brC, bkA, slC, stC, alC, drC]
 try simp (config := { zeta := false }) only [cnd_all, blk_add2, Nat.reduceAdd]
 obtain ⟨hk, u, r, b, q⟩ := DeskS.parts h
 have hbl := hk.bsl
 have hwl := hk.wl
 refine Bad_p q ⟨fun h => absurd rfl h, fun _ => ⟨fun hne => hA (by omega), fun hne => ?_⟩⟩
 have hne : data.length = 256 := by omega
 refine ⟨some (blk r), q.cell 1, Take_st q.sw (by omega) (fun hf => ⟨fun _ => hF hne hf, fun h => absurd h (by decide)⟩) fun w1 hlt h1 => ⟨fun h => absurd rfl h, fun _ => ?_⟩⟩
 intro wa1
 replace h1 : St wa1 _ := h1.drew
 clear_value wa1
 refine ⟨some b, h1.sw.cell 2, clone_st h1 (by omega) fun w2 h2 => ⟨h2.sw.cell 2, MapS.put h2.up2 (by omega) (by omega) (by omega) fun w3 h3 => ?_⟩⟩
 exact hR w3 hne hlt (DeskS.join (D := newD' D data) (hk.new hlt hne) h3.sw.up2)
theorem mclone_st {b : Nat} {ws : List Wr1} (h : St w X) (hm : MapOf w b ws) {R : Option Nat → World → Prop} (hR : ∀ b' w', St w' (MapS b' ws :: X) → Below w.heap.size w w' → R (some b') w') : F.maps_Clone_map_int_string_int_string (some b) w R := by
 obtain ⟨M, n, ho, h2, h3, h4⟩ := hm
 refine Calls.mono (AnyW.maps_Clone_owns Tryz.mclone T.y_int _ b n M w ho) fun e w' hx => ?_
 obtain ⟨rfl, ho', _, hB⟩ := hx
 exact ⟨_, rfl, hR _ w' (h.add (S := (· = w.heap.size)) ⟨⟨M, n, ho', h2, h3, h4⟩, rfl⟩ (fr_below hB) (fun j hj => Nat.le_of_eq (Eq.symm hj))) hB⟩
set_option maxHeartbeats 1000000 in
theorem Mark_st (h : St w (DeskS k g c D :: X)) {R : Option Addr → Option Addr → Option Nat → Int → World → Prop}
   (hR : ∀ r b w', St w' (RoomS r D.bs :: MapS b D.ws :: DeskS k g c D :: X) → R (some (blk k)) (some (blk r)) (some b) D.syncs w') : F.desk_Desk_Mark (some (blk k)) w R := by
 apply E.desk_Desk_Mark
 unfold V.desk_Desk_Mark
 try simp -zeta only [ldC, soC, brC, bkA, slC, stC, alC, drC]
 try simp (config := { zeta := false }) only [cnd_all, blk_add2, Nat.reduceAdd]
 obtain ⟨hk, u, r, b, q⟩ := DeskS.parts h
 have hbl := hk.bsl
 intro wa1
 replace q : St wa1 (Cs _ _ _ :: _) := q.new _ _
 clear_value wa1
 intro wa2
 replace q : St wa2 _ := q.drew
 clear_value wa2
 refine ⟨some (blk r), q.sw.cell 1, some b, q.sw.cell 2, D.syncs, q.sw.cell 3, Copy_st q.up2 (by omega) fun r3 w3 q3 => ?_⟩
 refine ⟨q3.up3.cell 3, q3.up3.cell 2, mclone_st q3 (MapS.of q3.up4) fun b4 w4 q4 hB4 => ?_⟩
 have q5 := q4.up3
 refine ⟨q4.up4.cell 3, ?_⟩
 refine ⟨q5.wr0 (by simp), ?_⟩
 intro wa3
 replace q5 : St wa3 _ := q5.set0 _
 clear_value wa3
 refine ⟨q5.wr (by simp), ?_⟩
 intro wa4
 replace q5 : St wa4 _ := q5.set 1 _
 clear_value wa4
 refine ⟨q5.wr (by simp), ?_⟩
 intro wa5
 replace q5 : St wa5 _ := q5.set 2 _
 clear_value wa5
 refine ⟨q5.wr (by simp), ?_⟩
 intro wa6
 replace q5 : St wa6 _ := q5.set 3 _
 clear_value wa6
 simp only [List.set_cons_zero, List.set_cons_succ] at q5
 refine ⟨_, q5.cell0, _, q5.cell 1, _, q5.cell 2, _, q5.cell 3, ?_⟩
 have q6 := q5.drop.up5.up5.up5.up5.sw
 exact hR r3 b4 _ ((DeskS.join hk q6).dn2.sw)
theorem back_ok {c c' : Nat} {M : DkV} (hk : DOk c D) (hm : DOk c' M) (hl : M.bs.length = D.bs.length) : DOk (max c c') (backD D M) := by
 have h1 := hk.mono (Nat.le_max_left c c')
 have h2 := hm.mono (Nat.le_max_right c c')
 exact ⟨h1.q, by show M.bs.length + 111 = _; rw [hl]; exact h1.len, h2.u0, h2.u1, h2.ws, h2.wl, h1.seq, h1.com, h1.syn, h1.many⟩
theorem runT_eq_ptr {t e : TypeId} {j : TypeInfo} (hp : Pg.underlying t = some (.pointer e)) (hte : Pg.info? e = some j) {x y : Operand} (a : Addr) {R : Bool → World → Prop} (hR : R true w) :
   RunT Pg (do eqGuard .eql t x y (.pointer (some a)) (.pointer (some a)); binOp .eql t (.pointer (some a)) (.pointer (some a))) [.one .bool] w R := by
 refine ⟨true, w, ?_, hR⟩
 have h := run_eql_ptr_same w a hp hte
 change (do eqGuard .eql t x y (.pointer (some a)) (.pointer (some a)); binOp .eql t (.pointer (some a)) (.pointer (some a))).run Pg w = .ok (.bool true) w
 simp only [eqGuard]
 simpa using h
theorem info_desk : ∃ i, Pg.info? T.y_desk_Desk = some i := by
 have h : (Pg.info? T.y_desk_Desk).isSome = true := by kernel_rfl
 exact Option.isSome_iff_exists.1 h
set_option maxHeartbeats 1000000 in
theorem Back_st {r' b' : Nat} {M : DkV} {c' : Nat} (h : St w (DeskS k g c D :: RoomS r' M.bs :: MapS b' M.ws :: X)) (hm : DOk c' M) (hl : M.bs.length = D.bs.length) (hs : M.syncs = D.syncs) {R : World → Prop}
   (hR : ∀ w', St w' (DeskS k g (max c c') (backD D M) :: RoomS r' M.bs :: MapS b' M.ws :: X) → R w') : F.desk_Desk_Back (some (blk k)) (some (blk k)) (some (blk r')) (some b') M.syncs w R := by
 apply E.desk_Desk_Back
 unfold V.desk_Desk_Back
 try simp -zeta only [ldC, soC, brC, bkA, slC, stC, alC, drC]
 try simp (config := { zeta := false }) only [cnd_all, blk_add2, Nat.reduceAdd]
 have hbl := hm.bsl
 obtain ⟨i, hi⟩ := info_desk
 obtain ⟨hk, u, r, b, q⟩ := DeskS.parts h
 intro wa1
 replace q : St wa1 (Cs _ _ _ :: _) := q.new _ _
 clear_value wa1
 intro wa2
 replace q : St wa2 _ := q.drew
 clear_value wa2
 refine ⟨some (blk k), q.cell0, runT_eq_ptr (e := T.y_desk_Desk) (by kernel_rfl) hi _ ⟨fun _ => ⟨M.syncs, q.cell 3, D.syncs, q.sw.cell 3, fun _ => ?_, fun hn => absurd hs hn⟩, fun hn => by simp at hn⟩⟩
 intro wa3
 replace q : St wa3 _ := q.drew
 clear_value wa3
 refine ⟨some (blk r'), q.cell 1, some b', q.cell 2, Copy_st q.up5 (by omega) fun r4 w4 h4 => ?_⟩
 refine ⟨h4.up2.cell 2, mclone_st h4 (MapS.of h4.drop.up6) fun b5 w5 h5 hB5 => ?_⟩
 have h6 := h5.up4
 refine ⟨h6.wr (by simp), ?_⟩
 intro wa4
 replace h6 : St wa4 _ := h6.set 1 _
 clear_value wa4
 refine ⟨h6.wr (by simp), ?_⟩
 intro wa5
 replace h6 : St wa5 _ := h6.set 2 _
 clear_value wa5
 have h7 := h6.up4.drop.up4.drop.up4.drop.up4.dn3.sw.up2.sw
 exact hR _ (DeskS.join (D := backD D M) (back_ok hk hm hl) (u := u) (r := r4) (b := b5) h7.up2.sw.dn2)
theorem mdrop_run {b : Nat} {ws : List Wr1} (hm : MapOf w b ws) {x : Int} (hx : -9223372036854775808 ≤ x ∧ x < 9223372036854775808) {R : World → Prop}
   (hR : ∀ w', MapOf w' b (ws.filter fun p => decide (p.1 ≠ x)) → Fr (· = b) w w' → R w') : RunT Pg (Builtin.delete_ #[T.y_map_int_string, T.y_int] T.y_t0 #[.map (some b), .int .i64 x]) [] w R := by
 obtain ⟨M, n, ho, hn, hh, hat⟩ := hm
 obtain ⟨w', hrun, ho', ht⟩ := ho.drop Kint und_mis (keyOf_int_mk und_int' (intWf hx)) T.y_t0
 have hlw : ∀ (ws : List Wr1) (y : Int), y ≠ x → lastW (ws.filter fun p => decide (p.1 ≠ x)) y = lastW ws y := by
   refine fun ws y hy => snoc_ind (P := fun ws => lastW (ws.filter fun p => decide (p.1 ≠ x)) y = lastW ws y) rfl (fun l a ih => ?_) ws
   rw [List.filter_append, lastW_app]
   by_cases ha : a.1 = x
   · have e : [a].filter (fun p => decide (p.1 ≠ x)) = [] := by simp [ha]
     rw [e, List.append_nil, ih, if_neg (fun h => hy (h.symm.trans ha))]
   · have e : [a].filter (fun p => decide (p.1 ≠ x)) = [a] := by simp [ha]
     rw [e, lastW_app, ih]
 have hnone : ∀ ws : List Wr1, lastW (ws.filter fun p => decide (p.1 ≠ x)) x = [] := fun ws => by
   refine snoc_ind (P := fun ws => lastW (ws.filter fun p => decide (p.1 ≠ x)) x = []) rfl (fun l a ih => ?_) ws
   rw [List.filter_append]
   by_cases ha : a.1 = x
   · have e : [a].filter (fun p => decide (p.1 ≠ x)) = [] := by simp [ha]
     rw [e, List.append_nil, ih]
   · have e : [a].filter (fun p => decide (p.1 ≠ x)) = [a] := by simp [ha]
     rw [e, lastW_app, if_neg ha, ih]
 have hkey : ∀ y : Int, y ∈ keysW (ws.filter fun p => decide (p.1 ≠ x)) ↔ y ∈ keysW ws ∧ y ≠ x := fun y => by
   simp only [keysW, List.mem_map, List.mem_filter, decide_eq_true_eq]
   constructor
   · rintro ⟨p, ⟨h1, h2⟩, rfl⟩; exact ⟨⟨p, h1, rfl⟩, h2⟩
   · rintro ⟨⟨p, h1, rfl⟩, h2⟩; exact ⟨p, ⟨h1, h2⟩, rfl⟩
 have hs : Maps.size (M.del (.int .i64 x)) ≤ (ws.filter fun p => decide (p.1 ≠ x)).length := by
   have h1 := MapOf.size (ws := ws.filter fun p => decide (p.1 ≠ x)) ho' (fun y => by
     by_cases hy : y = x
     · subst hy; rw [has_del_same, hkey]; simp
     · rw [has_del_other (by simpa using hy), hh, hkey]; simp [hy])
   rw [h1]
   have := nextT_len (keysW (ws.filter fun p => decide (p.1 ≠ x)))
   simpa [keysW] using this
 obtain ⟨es, clock, hb, hfit, hsz, hD⟩ := ho'
 refine ⟨w', hrun, hR w' ⟨_, (ws.filter fun p => decide (p.1 ≠ x)).length, ⟨es, clock, hb, hfit, ?_, hD⟩, Nat.le_refl _, fun y => ?_, fun y => ?_⟩ (Fr.grown (S := (· = b)) ht.grown fun k hk => (Option.some.inj hk).symm)⟩
 · rw [hD] at hs
   have e1 : Maps.size (DataW.map ((es.toList.map (WideElems.rg Pg T.y_int (plainElem (H := Unit) Pg T.y_string))).foldr DataW.insert [])) = es.size := by simp [Maps.size, DataW.length_sorted]
   omega
 · by_cases hy : y = x
   · subst hy; rw [has_del_same, hkey]; simp
   · rw [has_del_other (by simpa using hy), hh, hkey]; simp [hy]
 · by_cases hy : y = x
   · subst hy; rw [atKey_del_same, hnone]
   · rw [atKey_del_other (by simpa using hy), hat, hlw _ _ hy]
theorem mdrop_st {b : Nat} {ws : List Wr1} (h : St w (MapS b ws :: X)) {x : Int} (hx : -9223372036854775808 ≤ x ∧ x < 9223372036854775808) {R : World → Prop}
   (hR : ∀ w', St w' (MapS b (ws.filter fun p => decide (p.1 ≠ x)) :: X) → R w') : RunT Pg (Builtin.delete_ #[T.y_map_int_string, T.y_int] T.y_t0 #[.map (some b), .int .i64 x]) [] w R := by
 obtain ⟨S, ⟨hm, e⟩, hlt, hX⟩ := h.out
 subst e
 exact mdrop_run hm hx fun w' hm' hF => hR w' (hX (A' := MapS b _) ⟨hm', rfl⟩ hF fun j hj => .inl hj)
theorem Contains_ints {sl : Sl} {zs : List Int} (hT : Ints w sl zs) (hz : zs.length ≤ 1000000) {x : Int} {R : Bool → World → Prop} (hR : R (decide (x ∈ zs)) w) : F.slices_Contains_sl_int_int sl x w R := by
 apply E.slices_Contains_sl_int_int
 unfold V.slices_Contains_sl_int_int
 try simp -zeta only [ldC, soC, brC, bkA, slC, stC, alC, drC]
 apply E.slices_Index_sl_int_int
 unfold V.slices_Index_sl_int_int
 try simp -zeta only [ldC, soC, brC, bkA, slC, stC, alC, drC]
 have hl := hT.1
 refine ⟨Cnt zs.length fun m w' => w' = w ∧ ∀ y ∈ zs.take m, y ≠ x, cntM zs.length, Cnt.zero ⟨rfl, by simp⟩, ?_⟩
 rintro _ w1 ⟨m, rfl, hm, rfl, hall⟩
 refine ⟨fun hlt => ?_, fun hge => ?_⟩
 · have hlt : m < zs.length := by have := of_decide_eq_true hlt; omega
   obtain ⟨a, ha, hc⟩ := hT.2 m zs[m] (by simp [hlt])
   refine ⟨a, ha, by omega, by omega, zs[m], by simpa using hc, fun he => ?_, fun he => Cnt.next hlt (by omega) ⟨rfl, fun y hy => ?_⟩⟩
   · have he : x = zs[m] := by simpa using he
     have e1 : decide (x ∈ zs) = true := by rw [decide_eq_true_eq, he]; exact List.getElem_mem _
     have e2 : decide (((m : Nat) : Int) ≥ 0) = true := by simp
     rw [e1] at hR
     first | exact (by rw [e2]; exact hR) | exact hR
   · rw [List.take_succ_eq_append_getElem hlt] at hy
     rcases List.mem_append.1 hy with hy | hy
     · exact hall y hy
     · simp only [List.mem_cons, List.not_mem_nil, or_false] at hy
       subst hy
       have : ¬ x = zs[m] := by simpa using he
       exact fun h => this h.symm
 · have hmm : m = zs.length := by have := of_decide_eq_false hge; omega
   subst hmm
   rw [List.take_length] at hall
   have e1 : decide (x ∈ zs) = false := by rw [decide_eq_false_iff_not]; exact fun hx => hall x hx rfl
   rw [e1] at hR
   exact hR
end
/-- these may be given back -/
def dropOk (bs : List Bool) (zs : List Int) : Prop := ∀ i (h : i < zs.length), zs[i] ≠ 0 ∧ zs[i] ≠ 1 ∧ usedB bs zs[i] = true ∧ zs[i] ∉ zs.take i
def dropD (D : DkV) (zs : List Int) : DkV := { D with bs := giveL D.bs zs, ws := D.ws.filter fun p => decide (p.1 ∉ zs) }
section
variable {w w' : World} {X : List As} {k g c : Nat} {D : DkV}
theorem giveL_keeps {bs : List Bool} {i : Nat} : ∀ {zs : List Int}, (∀ z ∈ zs, z ≠ (i : Int)) → (giveL bs zs).getD i false = bs.getD i false := by
 refine fun {zs} => snoc_ind (P := fun zs => (∀ z ∈ zs, z ≠ (i : Int)) → (giveL bs zs).getD i false = bs.getD i false) (fun _ => rfl) (fun l x ih h => ?_) zs
 have ih := ih fun z hz => h z (List.mem_append_left _ hz)
 have hx := h x (by simp)
 rw [giveL_app]
 split
 · rename_i hu
   simp only [usedB, Bool.and_eq_true, decide_eq_true_eq] at hu
   have : x.toNat ≠ i := by omega
   rw [← ih]
   simp only [List.getD_eq_getElem?_getD]
   rw [List.getElem?_set_ne this]
 · exact ih
theorem DOk.drop (hk : DOk c D) {zs : List Int} (h0 : ∀ z ∈ zs, z ≠ 0 ∧ z ≠ 1) : DOk c (dropD D zs) := by
 refine ⟨hk.q, by show (giveL _ _).length + 111 = _; rw [giveL_len]; exact hk.len, ?_, ?_, fun x hx => ?_, Nat.le_trans (List.length_filter_le _ _) hk.wl, hk.seq, hk.com, hk.syn, hk.many⟩
 · show (giveL D.bs zs).getD 0 false = true
   rw [giveL_keeps fun z hz => (h0 z hz).1]; exact hk.u0
 · show (giveL D.bs zs).getD 1 false = true
   rw [giveL_keeps fun z hz => (h0 z hz).2]; exact hk.u1
 · have h := hk.ws x (List.mem_filter.1 hx).1
   exact ⟨h.1, by show x.1 < ((giveL D.bs zs).length : Int); rw [giveL_len]; exact h.2.1, h.2.2⟩
theorem Give_st {r : Nat} {bs : List Bool} (h : St w (RoomS r bs :: X)) (hn : bs.length ≤ 1000000) {sl : Sl} {zs : List Int} (hx : ∀ w', St w' X → Ints w' sl zs) (hz : zs.length ≤ 1000000) {R : Int → World → Prop}
   (hR : ∀ n w', St w' (RoomS r (giveL bs zs) :: X) → R n w') : F.room_Room_Give (some (blk r)) sl w R := by
 apply E.room_Room_Give
 unfold V.room_Room_Give
 try simp -zeta only [ldC, soC, brC, bkA, slC, stC, alC, drC]
 have hzl := (hx w h.drop).1
 refine ⟨fun c n w' => ∃ m : Nat, n = m ∧ 0 ≤ c ∧ c ≤ m ∧ m ≤ zs.length ∧ St w' (RoomS r (giveL bs (zs.take m)) :: X), fun _ n _ => (zs.length - n).toNat,
   ⟨0, rfl, Int.le_refl _, Int.le_refl _, Nat.zero_le _, h⟩, ?_⟩
 rintro c n w1 ⟨m, rfl, hc0, hcm, hm, h1⟩
 refine ⟨fun hlt => ?_, fun hge => ?_⟩
 · have hlt : m < zs.length := by have := of_decide_eq_true hlt; omega
   have e1 : w64 ((m : Int) + 1) = ((m + 1 : Nat) : Int) := by rw [w64_id (by omega) (by omega)]; omega
   have e2 : w64 (c + 1) = c + 1 := w64_id (by omega) (by omega)
   have hme : ((zs.length : Int) - ((m + 1 : Nat) : Int)).toNat < ((zs.length : Int) - (m : Int)).toNat := by omega
   obtain ⟨a, ha, hc⟩ := (hx _ h1.drop).2 m zs[m] (by simp [hlt])
   refine ⟨a, ha, by omega, by omega, zs[m], by simpa using hc, Used_st h1 ⟨fun hb => ?_, fun hb => ?_⟩⟩
   · obtain ⟨S, ⟨L, hr, e⟩, hlt2, hX⟩ := h1.out
     subst e
     have hgl := giveL_len bs (zs.take m)
     have hb' := hb
     simp only [usedB, Bool.and_eq_true, decide_eq_true_eq] at hb'
     have hi : zs[m].toNat < (giveL bs (zs.take m)).length := by omega
     obtain ⟨a1, ha1, _⟩ := hr.at hi
     obtain ⟨q1, q2, q3⟩ := hr.set (i := zs[m].toNat) hi false ha1
     have hll := hr.len
     refine ⟨blk r, rfl, L, hr.c0, a1, ha1, hb'.1, by omega, q1, ?_⟩
     rw [e1, e2]
     refine ⟨⟨m + 1, rfl, by omega, by omega, hlt, ?_⟩, hme⟩
     rw [List.take_succ_eq_append_getElem hlt, giveL_app, if_pos hb]
     exact hX (A' := RoomS r _) ⟨L, q2, rfl⟩ q3 fun j hj => .inl hj
   · rw [e1]
     refine ⟨⟨m + 1, rfl, hc0, by omega, hlt, ?_⟩, hme⟩
     rw [List.take_succ_eq_append_getElem hlt, giveL_app, if_neg (by rw [hb]; decide)]; exact h1
 · have hmm : m = zs.length := by have := of_decide_eq_false hge; omega
   subst hmm
   rw [List.take_length] at h1
   exact hR c w1 h1
set_option maxHeartbeats 1000000 in
theorem Drop_in (h : St w (DeskS k g c D :: X)) {sl : Sl} {zs : List Int} (hx : ∀ w', St w' X → Ints w' sl zs) (hcap : sl.len ≤ sl.cap) (hz : zs.length ≤ 1000000) {R : Int → World → Prop}
   (hE : ¬ dropOk D.bs zs → R 15 w) (hR : ∀ w', dropOk D.bs zs → St w' (DeskS k g c (dropD D zs) :: X) → R 0 w') : F.desk_Desk_Drop (some (blk k)) sl w R := by
 apply E.desk_Desk_Drop
 unfold V.desk_Desk_Drop
 try simp -zeta only [ldC, soC, brC, bkA, slC, stC, alC, drC]
 have hT := hx w h.drop
 have hl := hT.1
 obtain ⟨hk, u, r, b, hP⟩ := DeskS.parts h
 have hbl := hk.bsl
 refine Bad_p hP ⟨fun h => by simp at h, fun _ => ⟨Cnt zs.length fun m w' => w' = w ∧ ∀ i (h : i < m) (h2 : i < zs.length), zs[i] ≠ 0 ∧ zs[i] ≠ 1 ∧ usedB D.bs zs[i] = true ∧ zs[i] ∉ zs.take i, cntM zs.length, Cnt.zero ⟨rfl, fun i h => absurd h (Nat.not_lt_zero _)⟩, ?_⟩⟩
 rintro _ w1 ⟨m, rfl, hm, rfl, hall⟩
 refine ⟨fun hlt => ?_, fun hge => ?_⟩
 · have hlt : m < zs.length := by have := of_decide_eq_true hlt; omega
   obtain ⟨a, ha, hc⟩ := hT.2 m zs[m] (by simp [hlt])
   have bad : ¬ (zs[m] ≠ 0 ∧ zs[m] ≠ 1 ∧ usedB D.bs zs[m] = true ∧ zs[m] ∉ zs.take m) → R 15 w1 := fun hn => hE fun hok => hn (hok m hlt)
   refine ⟨a, ha, by omega, by omega, zs[m], by simpa using hc, fun h0 => bad fun hh => hh.1 (by simpa using h0), fun h0 => ⟨fun h1 => bad fun hh => hh.2.1 (by simpa using h1), fun h1 => ⟨blk k, rfl, some (blk r), by rw [hP.cell]; rfl, Used_st hP.sw ⟨fun hu => bad fun hh => by rw [hh.2.2.1] at hu; simp at hu, fun hu => ⟨by omega, by omega, ?_⟩⟩⟩⟩⟩
   rw [slA0]
   refine Contains_ints (zs := zs.take m) ⟨by simp; omega, fun j v hj => ?_⟩ (by simp; omega) ⟨fun hb => bad fun hh => hh.2.2.2 (by simpa using hb), fun hb => Cnt.next hlt (by omega) ⟨rfl, fun i hi h2 => ?_⟩⟩
   · rw [List.getElem?_take] at hj
     split at hj
     · exact hT.2 j v hj
     · cases hj
   · rcases Nat.lt_succ_iff_lt_or_eq.1 hi with h' | h'
     · exact hall i h' h2
     · subst h'
       exact ⟨by simpa using h0, by simpa using h1, by simpa using hu, by simpa using hb⟩
 · have hmm : m = zs.length := by have := of_decide_eq_false hge; omega
   subst hmm
   refine ⟨blk k, rfl, some (blk r), by rw [hP.cell]; rfl, Give_st hP.sw (by omega) (fun w' hw => hx w' hw.drop.drop.drop) hz fun n w2 h2 => ?_⟩
   -- room, desk's block, map, wal
   have h3 := h2.up2
   refine ⟨Cnt zs.length fun m w' => St w' (MapS b (D.ws.filter fun p => decide (p.1 ∉ zs.take m)) :: RoomS r (giveL D.bs zs) :: Cs k (dkC u r b D.syncs) T.y_desk_Desk :: WDS u g D :: X), cntM zs.length, Cnt.zero (by rw [show (D.ws.filter fun p => decide (p.1 ∉ zs.take 0)) = D.ws from by simp]; exact h3), ?_⟩
   rintro _ w3 ⟨m, rfl, hm, h4⟩
   refine ⟨fun hlt => ?_, fun hge => ?_⟩
   · have hlt : m < zs.length := by have := of_decide_eq_true hlt; omega
     obtain ⟨a, ha, hc⟩ := (hx _ h4.drop.drop.drop.drop).2 m zs[m] (by simp [hlt])
     have hzr : -9223372036854775808 ≤ zs[m] ∧ zs[m] < 9223372036854775808 := by
       have := (hall m hlt hlt).2.2.1
       simp only [usedB, Bool.and_eq_true, decide_eq_true_eq] at this
       omega
     refine ⟨a, ha, by omega, by omega, zs[m], by simpa using hc, blk k, rfl, some b, by rw [h4.up2.cell]; rfl, mdrop_st h4 hzr fun w4 h5 => Cnt.next hlt (by omega) ?_⟩
     have e : (D.ws.filter fun p => decide (p.1 ∉ zs.take (m + 1))) = (D.ws.filter fun p => decide (p.1 ∉ zs.take m)).filter fun p => decide (p.1 ≠ zs[m]) := by
       rw [List.filter_filter, List.take_succ_eq_append_getElem hlt]
       congr 1
       funext p
       rw [Bool.eq_iff_iff]
       simp only [decide_eq_true_eq, Bool.and_eq_true, List.mem_append, List.mem_singleton, not_or, ne_eq]
       exact and_comm
     rw [e]; exact h5
   · have hmm : m = zs.length := by have := of_decide_eq_false hge; omega
     subst hmm
     rw [List.take_length] at h4
     have hdo : dropOk D.bs zs := fun i hi => hall i hi hi
     have hok : DOk c (dropD D zs) := hk.drop fun z hz => by
       obtain ⟨i, hi, rfl⟩ := List.mem_iff_getElem.1 hz
       exact ⟨(hall i hi hi).1, (hall i hi hi).2.1⟩
     refine hR w3 hdo (DeskS.join (u := u) (r := r) (b := b) hok ?_)
     have h6 : St w3 (Cs k (dkC u r b D.syncs) T.y_desk_Desk :: RoomS r (giveL D.bs zs) :: MapS b (D.ws.filter fun p => decide (p.1 ∉ zs)) :: WDS u g D :: X) := (h4.sw).up2
     exact ((WDS.to (D' := dropD D zs) rfl rfl rfl (h6.up3)).dn3)
theorem Drop_st {sl : Sl} {zs : List Int} {t : TypeId} (h : St w (DeskS k g c D :: Row EI t sl zs :: X)) (hz : zs.length ≤ 1000000) (hzr : ∀ z ∈ zs, -9223372036854775808 ≤ z ∧ z < 9223372036854775808) {R : Int → World → Prop}
   (hE : ¬ dropOk D.bs zs → R 15 w) (hR : ∀ w', dropOk D.bs zs → St w' (DeskS k g c (dropD D zs) :: Row EI t sl zs :: X) → R 0 w') : F.desk_Desk_Drop (some (blk k)) sl w R :=
 Drop_in h (fun w' hw => St.ints hw) (Own.cap_ge h.sw.own) hz hE hR
end
end Go.Proofs.YtggachhkcmfijaaGreatDoor
