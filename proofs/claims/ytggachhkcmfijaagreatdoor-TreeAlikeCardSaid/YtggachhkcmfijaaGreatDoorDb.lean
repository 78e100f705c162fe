/- disk: what a disk is; what its calls do, also where the power goes at one of them. -/
import Derived.Test.YtggachhkcmfijaaGreatDoorSq
set_option linter.unusedVariables false
namespace Go.Proofs.YtggachhkcmfijaaGreatDoor
open Go Go.Vc Go.RowKit Go.Lib
def EW : Enc Wr1 := ⟨fun x => [.int .i64 x.1, .string (tx x.2)], 2, fun _ => rfl, fun _ u hu => by simp only [List.mem_cons, List.not_mem_nil, or_false] at hu; rcases hu with rfl | rfl <;> rfl⟩
theorem elt_wr : Elt Pg T.y_sl_api_Write T.y_api_Write 2 24 := ⟨und_wr, by obtain ⟨i, hi, hz, h1, h2⟩ := info_wr; exact ⟨i, _, hi, hz, h1, h2, rfl⟩, by decide⟩
/-- what a disk holds -/
structure Ds where
 l : List Bs
 safe : List Bs
 ws : List Wr1
 many : Int
 off : Bool
 armed : Bool
structure DkP where
 L : Sl
 S : Sl
 W : Sl
 K : Sl
 left : Int
 keep : List Int
abbrev dkCells (p : DkP) (d : Ds) : List Value := [slV p.L, slV p.S, slV p.W, .int .i64 d.many, .bool d.off, .bool d.armed, .int .i64 p.left, slV p.K]
structure DkOk (p : DkP) (d : Ds) : Prop where
 keep : p.keep.length ≤ 1000000000
 ws : ∀ x ∈ d.ws, 0 ≤ x.1 ∧ x.1 < (d.safe.length : Int)
 safe : d.safe.length = d.l.length
 len : d.l.length ≤ 1000000
 wl : d.ws.length ≤ 1000000000000
def dkAs (g : Nat) (d : Ds) (p : DkP) : List As := [Cs g (dkCells p d) T.y_disk_Disk, Row ET T.y_string p.L d.l, Row ET T.y_string p.S d.safe, Row EW T.y_api_Write p.W d.ws, Row EI T.y_int p.K p.keep]
/-- a disk -/
def DskS (g : Nat) (d : Ds) : As := As.ex fun p => As.wh (DkOk p d) (As.all (dkAs g d p))
theorem snoc_ind {α : Type} {P : List α → Prop} (h0 : P []) (hs : ∀ l a, P l → P (l ++ [a])) (l : List α) : P l := by
 have : ∀ r : List α, P r.reverse := fun r => by
   induction r with
   | nil => exact h0
   | cons a r ih => rw [List.reverse_cons]; exact hs _ a ih
 have h := this l.reverse
 rwa [List.reverse_reverse] at h
theorem lastW_mem : ∀ (ws : List Wr1) (x : Int), x ∈ keysW ws → (x, lastW ws x) ∈ ws := by
 refine snoc_ind (fun x hx => by simp [keysW] at hx) fun ws p ih => ?_
 · intro x hx
   rw [lastW_app]
   by_cases h : p.1 = x
   · rw [if_pos h]
     subst h
     simp
   · rw [if_neg h]
     have : x ∈ keysW ws := by
       simp only [keysW, List.map_append, List.map_cons, List.map_nil, List.mem_append, List.mem_cons, List.not_mem_nil, or_false] at hx ⊢
       rcases hx with hx | hx
       · exact hx
       · exact absurd hx.symm h
     exact List.mem_append.2 (.inl (ih x this))
def setAll (l : List Bs) (xs : List Wr1) : List Bs := xs.foldl (fun l x => l.set x.1.toNat x.2) l
theorem setAll_len : ∀ (xs : List Wr1) (l : List Bs), (setAll l xs).length = l.length
 | [], l => rfl
 | x :: r, l => by show (setAll (l.set _ _) r).length = _; rw [setAll_len r]; simp
theorem setAll_app (l : List Bs) (a b : List Wr1) : setAll l (a ++ b) = setAll (setAll l a) b := by simp [setAll, List.foldl_append]
/-- one write more -/
def wr1 (d : Ds) (x : Wr1) : Ds := { d with l := d.l.set x.1.toNat x.2, ws := d.ws ++ [x], many := d.many + 1 }
def wrN (d : Ds) (xs : List Wr1) : Ds := xs.foldl wr1 d
theorem wrN_app (d : Ds) (xs ys : List Wr1) : wrN d (xs ++ ys) = wrN (wrN d xs) ys := by simp [wrN, List.foldl_append]
theorem wrN_facts (d : Ds) : ∀ xs : List Wr1, (wrN d xs).l = setAll d.l xs ∧ (wrN d xs).safe = d.safe ∧ (wrN d xs).ws = d.ws ++ xs ∧ (wrN d xs).many = d.many + xs.length ∧ (wrN d xs).off = d.off ∧ (wrN d xs).armed = d.armed
 := fun xs => by
   refine snoc_ind (P := fun xs => (wrN d xs).l = setAll d.l xs ∧ (wrN d xs).safe = d.safe ∧ (wrN d xs).ws = d.ws ++ xs ∧ (wrN d xs).many = d.many + xs.length ∧ (wrN d xs).off = d.off ∧ (wrN d xs).armed = d.armed) (by simp [wrN, setAll]) (fun l x ih => ?_) xs
   obtain ⟨h1, h2, h3, h4, h5, h6⟩ := ih
   rw [wrN_app, setAll_app, ← h1]
   refine ⟨rfl, h2, ?_, ?_, h5, h6⟩
   · show (wrN d l).ws ++ [x] = _
     rw [h3]; simp
   · show (wrN d l).many + 1 = _
     rw [h4]; simp; omega
def flushD (d : Ds) : Ds := { d with safe := d.l, ws := [] }
/-- the power has gone: these have been kept -/
def fallD (d : Ds) (ys : List Wr1) (many : Int) : Ds := ⟨setAll d.safe ys, setAll d.safe ys, [], many, true, false⟩
def OkW (n : Nat) (xs : List Wr1) : Prop := ∀ x ∈ xs, 0 ≤ x.1 ∧ x.1 < (n : Int) ∧ x.2.length = 256
def newD (n : Nat) : Ds := ⟨List.replicate n zeroS, List.replicate n zeroS, [], 0, false, false⟩
section
variable {w w' : World} {X : List As} {g : Nat} {d : Ds}
theorem DskS.open (h : St w (DskS g d :: X)) : ∃ p, DkOk p d ∧ St w (Cs g (dkCells p d) T.y_disk_Disk :: Row ET T.y_string p.L d.l :: Row ET T.y_string p.S d.safe :: Row EW T.y_api_Write p.W d.ws :: Row EI T.y_int p.K p.keep :: X) := by
 obtain ⟨p, h⟩ := h.ex
 obtain ⟨hp, h⟩ := h.wh
 exact ⟨p, hp, h.unfold⟩
theorem DskS.mk (p : DkP) (hp : DkOk p d) (h : St w (Cs g (dkCells p d) T.y_disk_Disk :: Row ET T.y_string p.L d.l :: Row ET T.y_string p.S d.safe :: Row EW T.y_api_Write p.W d.ws :: Row EI T.y_int p.K p.keep :: X)) : St w (DskS g d :: X) :=
 St.mk p (St.whmk hp (St.fold (dkAs g d p) h))
theorem St.setR {α : Type} {En : Enc α} {t : TypeId} {l : Sl} {xs : List α} (h1 : En.n = 1) (h : St w (Row En t l xs :: X)) {k : Nat} (hk : k < xs.length) (y : α) {v : Value} (hv : En.cells y = [v]) {a : Addr} (ha : l.a = some a) :
   Wr w (a.add (k * 1)) ∧ St (w.setCell (a.add (k * 1)) v) (Row En t l (xs.set k y) :: X) := by
 obtain ⟨S, ⟨hO, e⟩, hlt, hX⟩ := h.out
 subst e
 rw [h1] at hO
 have hl := En.all_len xs
 rw [h1, Nat.mul_one] at hl
 obtain ⟨q1, q2, q3⟩ := Own.set1 hO (k := k) (by rw [hl]; exact hk) v ha
 rw [Nat.mul_one]
 refine ⟨q1, hX ⟨?_, rfl⟩ q3 (fun j hj => .inl hj)⟩
 rw [h1]
 have e : (En.all xs).set k v = En.all (xs.set k y) := by
   have hs : ∀ (xs : List α) (k : Nat), k < xs.length → (En.all xs).set k v = En.all (xs.set k y) := by
     intro xs
     induction xs with
     | nil => intro k hk; simp at hk
     | cons x r ih =>
       intro k hk
       have hx : ∃ u, En.cells x = [u] := by
         have := En.len x
         rw [h1] at this
         rcases hc : En.cells x with _ | ⟨u, _ | ⟨u', r'⟩⟩
         · rw [hc] at this; cases this
         · exact ⟨u, rfl⟩
         · rw [hc] at this; simp at this
       obtain ⟨u, hu⟩ := hx
       have e1 : En.all (x :: r) = u :: En.all r := by simp [Enc.all, hu]
       rcases k with _ | k
       · rw [e1]
         simp [Enc.all, hv]
       · rw [e1, List.set_cons_succ, List.set_cons_succ, ih k (by simpa using hk)]
         simp [Enc.all, hu]
   exact hs xs k hk
 rw [← e]; exact q2
theorem CloneS_st {L : Sl} {t : TypeId} {ts : List Bs} {Z : List As} (h : St w (Row ET t L ts :: Z)) (hb : ts.length ≤ 1000000000) {R : Sl → World → Prop}
   (hR : ∀ l w', St w' (Row ET T.y_string l ts :: Row ET t L ts :: Z) → R l w') : F.slices_Clone_sl_string_string L w R := by
 have hT : Texts w L ts := by
   have hh := h.has (by decide)
   exact ⟨hh.1, fun j v hj => by
     obtain ⟨a, ha, hc⟩ := hh.2 j v hj
     exact ⟨a, ha, hc 0 _ rfl⟩⟩
 exact CloneS_spec hT hb fun l w' hO hbk hB => hR l w' (St.rowOf h (fr_below hB) (by rw [ET_all]; exact hO) hbk)
theorem On_st (h : St w (DskS g d :: X)) {R : Bool → World → Prop} (hR : R (!d.off) w) : F.disk_Disk_On (some (blk g)) w R := by
 apply E.disk_Disk_On
 unfold V.disk_Disk_On
 try simp -zeta only [ldC, soC, brC, bkA, slC, stC, alC, drC]
 try simp (config := { zeta := false }) only [cnd_all, Nat.reduceAdd]
 obtain ⟨p, hp, q⟩ := DskS.open h
 exact ⟨d.off, q.cell 4, hR⟩
theorem SizeD_st (h : St w (DskS g d :: X)) {R : Int → World → Prop} (hR : R (d.l.length : Int) w) : F.disk_Disk_Size (some (blk g)) w R := by
 apply E.disk_Disk_Size
 unfold V.disk_Disk_Size
 try simp -zeta only [ldC, soC, brC, bkA, slC, stC, alC, drC]
 try simp (config := { zeta := false }) only [cnd_all, Nat.reduceAdd]
 obtain ⟨p, hp, q⟩ := DskS.open h
 have hl := (q.sw.has (by decide)).1
 refine ⟨p.L, q.cell0, ?_⟩
 rw [hl]; exact hR
def mayD (d : Ds) (at_ : Int) : Int := if d.off then 14 else if at_ < 0 ∨ (d.l.length : Int) ≤ at_ then 15 else 0
theorem may_st (h : St w (DskS g d :: X)) {at_ : Int} {R : Int → World → Prop} (hR : R (mayD d at_) w) : F.disk_Disk_may (some (blk g)) at_ w R := by
 apply E.disk_Disk_may
 unfold V.disk_Disk_may
 try simp -zeta only [ldC, soC, brC, bkA, slC, stC, alC, drC]
 try simp (config := { zeta := false }) only [cnd_all, Nat.reduceAdd]
 obtain ⟨p, hp, q⟩ := DskS.open h
 have hl := (q.sw.has (by decide)).1
 unfold mayD at hR
 refine On_st h ⟨fun ho => ?_, fun ho => ⟨fun hn => ?_, fun hn => ⟨p.L, q.cell0, fun hb => ?_, fun hb => ?_⟩⟩⟩
 · have ho : d.off = true := by simpa using ho
   rw [if_pos ho] at hR; exact hR
 all_goals
   have ho : d.off = false := by simpa using ho
   rw [if_neg (by simp [ho])] at hR
 · rw [if_pos (.inl hn)] at hR; exact hR
 · rw [if_pos (.inr (by omega))] at hR; exact hR
 · rw [if_neg (by omega)] at hR; exact hR
theorem ReadD_st (h : St w (DskS g d :: X)) {at_ : Int} {R : ByteArray → Int → World → Prop} (hR : R (tx (if mayD d at_ = 0 then d.l.getD at_.toNat [] else [])) (mayD d at_) w) : F.disk_Disk_Read (some (blk g)) at_ w R := by
 apply E.disk_Disk_Read
 unfold V.disk_Disk_Read
 try simp -zeta only [ldC, soC, brC, bkA, slC, stC, alC, drC]
 try simp (config := { zeta := false }) only [cnd_all, Nat.reduceAdd]
 refine may_st h ⟨fun hne => ?_, fun heq => ?_⟩
 · rw [if_neg hne] at hR; exact hR
 rw [heq, if_pos rfl] at hR
 have hr : 0 ≤ at_ ∧ at_ < (d.l.length : Int) := by
   unfold mayD at heq
   split at heq
   · simp at heq
   · split at heq
     · simp at heq
     · omega
 obtain ⟨p, hp, q⟩ := DskS.open h
 obtain ⟨a, ha, hlt, hc⟩ := (q.sw.has (by decide)).at (j := at_.toNat) (by omega)
 have hc := hc 0 _ rfl
 rw [addr_add0] at hc
 refine ⟨p.L, q.cell0, a, ha, hr.1, by omega, _, hc, ?_⟩
 have e : d.l.getD at_.toNat [] = d.l[at_.toNat]'(by omega) := by simp [show at_.toNat < d.l.length by omega]
 rw [e] at hR; exact hR
theorem goes_st (h : St w (DskS g d :: X)) {R : Bool → World → Prop} (h0 : R false w) (h1 : d.armed = true → ∀ w', St w' (DskS g d :: X) → R false w') (h2 : d.armed = true → ∀ w', St w' (DskS g d :: X) → R true w') : F.disk_Disk_goes (some (blk g)) w R := by
 apply E.disk_Disk_goes
 unfold V.disk_Disk_goes
 try simp -zeta only [ldC, soC, brC, bkA, slC, stC, alC, drC]
 try simp (config := { zeta := false }) only [cnd_all, Nat.reduceAdd]
 obtain ⟨p, hp, q⟩ := DskS.open h
 refine ⟨d.armed, q.cell 5, fun _ => h0, fun ha => ⟨p.left, q.cell 6, q.wr (by simp [dkCells]), ?_⟩⟩
 intro w1
 have q1 : St w1 _ := q.set 6 (.int .i64 (w64 (p.left - 1)))
 clear_value w1
 have h' : St w1 (DskS g d :: X) := DskS.mk { p with left := w64 (p.left - 1) } ⟨hp.keep, hp.ws, hp.safe, hp.len, hp.wl⟩ q1
 refine ⟨w64 (p.left - 1), by rw [q1.cell]; rfl, ?_⟩
 by_cases hn : w64 (p.left - 1) < 0
 · rw [decide_eq_true hn]; exact h2 ha w1 h'
 · rw [decide_eq_false hn]; exact h1 ha w1 h'
theorem setAll_in {l : List Bs} {ys : List Wr1} : (setAll l ys).length = l.length := setAll_len ys l
set_option maxHeartbeats 1000000 in
/-- the power goes -/
theorem Crash_in {p : DkP} (hp : DkOk p d) (q : St w (Cs g (dkCells p d) T.y_disk_Disk :: Row ET T.y_string p.L d.l :: Row ET T.y_string p.S d.safe :: Row EW T.y_api_Write p.W d.ws :: Row EI T.y_int p.K p.keep :: X)) (hoff : d.off = false) {kl : Sl} {ks : List Int} (hk : ∀ w', St w' (Row EI T.y_int p.K p.keep :: X) → Ints w' kl ks) {R : Int → World → Prop}
   (hR : ∀ n ys w', ys.Sublist d.ws → St w' (DskS g (fallD d ys d.many) :: X) → R n w') : F.disk_Disk_Crash (some (blk g)) kl w R := by
 apply E.disk_Disk_Crash
 unfold V.disk_Disk_Crash
 try simp -zeta only [ldC, soC, brC, bkA, slC, stC, alC, drC]
 try simp (config := { zeta := false }) only [cnd_all, Nat.reduceAdd]
 have hpw := hp.ws
 have hx := hp.wl
 have hW := (q.up3.has (by decide)).1
 have hSl := hp.safe
 have hll := hp.len
 have hon : F.disk_Disk_On (some (blk g)) w fun b w1 => b = true ∧ w1 = w := by
   apply E.disk_Disk_On
   unfold V.disk_Disk_On
   try simp -zeta only [ldC, soC, brC, bkA, slC, stC, alC, drC]
   try simp (config := { zeta := false }) only [cnd_all, Nat.reduceAdd]
   exact ⟨d.off, q.cell 4, by simp [hoff]⟩
 refine F.disk_Disk_On_mono hon fun b w1 hb => ?_
 obtain ⟨rfl, rfl⟩ := hb
 refine ⟨fun h => (by cases h), fun _ => ⟨p.W, q.cell 2, ?_⟩⟩
 refine ⟨fun lost n w' => ∃ m : Nat, n = m ∧ m ≤ d.ws.length ∧ 0 ≤ lost ∧ lost ≤ m ∧ ∃ ys : List Wr1, ys.Sublist (d.ws.take m) ∧ St w' (Cs g (dkCells p d) T.y_disk_Disk :: Row ET T.y_string p.L d.l :: Row ET T.y_string p.S (setAll d.safe ys) :: Row EW T.y_api_Write p.W d.ws :: Row EI T.y_int p.K p.keep :: X),
   fun _ n _ => ((d.ws.length : Int) - n).toNat, ⟨0, rfl, Nat.zero_le _, Int.le_refl _, Int.le_refl _, [], by simp, q⟩, ?_⟩
 rintro lost n w2 ⟨m, rfl, hm, hl0, hlm, ys, hys, q2⟩
 refine ⟨fun hlt => ?_, fun hge => ?_⟩
 · have hlt : m < d.ws.length := by omega
   have e1 : w64 ((m : Int) + 1) = ((m + 1 : Nat) : Int) := w64_succ (by omega)
   have e2 : w64 (lost + 1) = lost + 1 := w64_id (by omega) (by omega)
   have hme : ((d.ws.length : Int) - ((m + 1 : Nat) : Int)).toNat < ((d.ws.length : Int) - (m : Int)).toNat := by omega
   obtain ⟨a, ha, hal, hc⟩ := (q2.up3.has (by decide)).at (j := m) hlt
   have hc0 := hc 0 _ rfl
   rw [addr_add0] at hc0
   have htk : d.ws.take (m + 1) = d.ws.take m ++ [d.ws[m]] := List.take_succ_eq_append_getElem hlt
   have hin := hpw d.ws[m] (List.getElem_mem hlt)
   refine ⟨a, ha, by omega, by omega, _, hc0, _, hc 1 _ rfl, ?_⟩
   intro wa1
   replace q2 : St wa1 (Cs _ _ _ :: _) := q2.new _ _
   clear_value wa1
   refine ⟨q2.wr0 (by simp), ?_⟩
   intro wa2
   replace q2 : St wa2 _ := q2.set0 _
   clear_value wa2
   refine ⟨q2.wr (by simp), ?_⟩
   intro wa3
   replace q2 : St wa3 _ := q2.set 1 _
   clear_value wa3
   simp only [List.set_cons_zero, List.set_cons_succ] at q2
   -- a write that is lost
   have lost1 : ∀ w', St w' (Cs g (dkCells p d) T.y_disk_Disk :: Row ET T.y_string p.L d.l :: Row ET T.y_string p.S (setAll d.safe ys) :: Row EW T.y_api_Write p.W d.ws :: Row EI T.y_int p.K p.keep :: X) →
       (∃ m' : Nat, w64 ((m : Int) + 1) = m' ∧ m' ≤ d.ws.length ∧ 0 ≤ w64 (lost + 1) ∧ w64 (lost + 1) ≤ m' ∧ ∃ ys : List Wr1, ys.Sublist (d.ws.take m') ∧ St w' (Cs g (dkCells p d) T.y_disk_Disk :: Row ET T.y_string p.L d.l :: Row ET T.y_string p.S (setAll d.safe ys) :: Row EW T.y_api_Write p.W d.ws :: Row EI T.y_int p.K p.keep :: X)) ∧ ((d.ws.length : Int) - w64 ((m : Int) + 1)).toNat < ((d.ws.length : Int) - (m : Int)).toNat := fun w' q' => by
     rw [e1, e2]
     exact ⟨⟨m + 1, rfl, hlt, by omega, by omega, ys, by rw [htk]; exact hys.trans (List.sublist_append_left _ _), q'⟩, hme⟩
   refine ⟨fun hlk => ?_, fun _ => lost1 _ q2.drop⟩
   obtain ⟨b, hb, hbc⟩ := (hk _ q2.drop.drop.drop.drop.drop).2 m (ks.getD m 0) (by
     have := (hk _ q2.drop.drop.drop.drop.drop).1
     have h5 : m < ks.length := by omega
     simp [h5])
   refine ⟨b, hb, by omega, hlk, _, by simpa using hbc, fun _ => ?_, fun _ => lost1 _ q2.drop⟩
   intro wa4
   replace q2 : St wa4 _ := q2.drew
   clear_value wa4
   have q3 := q2.sw
   refine ⟨p.S, q3.cell 1, _, q2.cell0, _, q2.cell 1, ?_⟩
   have hsl : (setAll d.safe ys).length = d.safe.length := setAll_in
   obtain ⟨a3, ha3, hlt3, _⟩ := (q2.up3.has (by decide)).at (j := d.ws[m].1.toNat) (by rw [hsl]; omega)
   have q4 := q2.drop.up2
   obtain ⟨k1, k2⟩ := St.setR rfl q4 (k := d.ws[m].1.toNat) (by rw [hsl]; omega) d.ws[m].2 rfl ha3
   refine ⟨a3, ha3, hin.1, by omega, k1, ?_⟩
   intro w3
   have q5 : St w3 _ := k2
   clear_value w3
   rw [e1]
   refine ⟨⟨m + 1, rfl, hlt, hl0, by omega, ys ++ [d.ws[m]], by rw [htk]; exact hys.append (List.Sublist.refl _), ?_⟩, hme⟩
   rw [setAll_app]
   exact q5.up2.up2
 · have hmm : m = d.ws.length := by omega
   subst hmm
   rw [List.take_length] at hys
   refine ⟨p.S, q2.cell 1, CloneS_st q2.up2 (by rw [setAll_in]; omega) fun L2 w3 q3 => ?_⟩
   -- L2 :: S :: Cs :: L :: W :: Z
   have q3 := q3.up2
   refine ⟨q3.wr0 (by simp), ?_⟩
   intro wa5
   replace q3 : St wa5 _ := q3.set0 _
   clear_value wa5
   refine ⟨q3.wr (by simp), ?_⟩
   intro wa6
   replace q3 : St wa6 _ := q3.set 2 _
   clear_value wa6
   refine ⟨q3.wr (by simp), ?_⟩
   intro wa7
   replace q3 : St wa7 _ := q3.set 4 _
   clear_value wa7
   refine ⟨q3.wr (by simp), ?_⟩
   intro wa8
   replace q3 : St wa8 _ := q3.set 5 _
   clear_value wa8
   refine ⟨q3.wr (by simp), ?_⟩
   intro wa9
   replace q3 : St wa9 _ := q3.set 7 _
   clear_value wa9
   refine hR lost ys _ hys (DskS.mk ⟨L2, p.S, ⟨none, 0, 0⟩, ⟨none, 0, 0⟩, p.left, []⟩ ⟨by simp, by simp [fallD], rfl, by show (setAll d.safe ys).length ≤ _; rw [setAll_in]; omega, by simp [fallD]⟩ ?_)
   have q6 := q3.up3.drop.up3.drop.up3.drop
   exact (((q6.row0 EI T.y_int).dn3).row0 EW T.y_api_Write).dn3
theorem wr1_ok {p : DkP} (hp : DkOk p d) {x : Wr1} (h0 : 0 ≤ x.1) (h1 : x.1 < (d.l.length : Int)) (hl : d.ws.length < 1000000000000) : DkOk p (wr1 d x) := by
 have hs := hp.safe
 refine ⟨hp.keep, fun y hy => ?_, by show d.safe.length = (d.l.set _ _).length; rw [List.length_set]; exact hp.safe, by show (d.l.set _ _).length ≤ _; rw [List.length_set]; exact hp.len, by show (d.ws ++ [x]).length ≤ _; simp; omega⟩
 rcases List.mem_append.1 hy with hy | hy
 · exact hp.ws y hy
 · simp only [List.mem_cons, List.not_mem_nil, or_false] at hy
   subst hy
   exact ⟨h0, by show y.1 < (d.safe.length : Int); omega⟩
set_option maxHeartbeats 1000000 in
theorem write1_st (h : St w (DskS g d :: X)) (hoff : d.off = false) {a : Int} {data : Bs} (h0 : 0 ≤ a) (hl : a < (d.l.length : Int)) (hd : data.length = 256) (hm : 0 ≤ d.many ∧ d.many < 1000000000000) (hws : d.ws.length < 1000000000000) {R : Int → World → Prop}
   (hR : ∀ w', St w' (DskS g (wr1 d (a, data)) :: X) → R 0 w')
   (hF : d.armed = true → ∀ ys w', ys.Sublist (d.ws ++ [(a, data)]) → St w' (DskS g (fallD d ys (d.many + 1)) :: X) → R 14 w') : F.disk_Disk_write (some (blk g)) a (tx data) w R := by
 apply E.disk_Disk_write
 unfold V.disk_Disk_write
 try simp -zeta only [ldC, soC, brC, bkA, slC, stC, alC, drC]
 try simp (config := { zeta := false }) only [cnd_all, Nat.reduceAdd]
 intro wa1
 replace h : St wa1 (Cs _ _ _ :: _) := h.new _ _
 clear_value wa1
 generalize w.heap.size = z at *
 refine ⟨_, h.cell0, may_st h.sw ?_⟩
 have e : mayD d a = 0 := by unfold mayD; rw [if_neg (by simp [hoff]), if_neg (by omega)]
 rw [e]
 refine ⟨fun h => absurd rfl h, fun _ => ⟨_, h.cell 1, fun hne => absurd (by rw [tx_size, hd]; rfl) hne, fun _ => ⟨_, h.cell 1, clone_st h (by omega) fun w1 h1 => ?_⟩⟩⟩
 refine ⟨h1.wr (by simp), ?_⟩
 intro w2
 have h2 : St w2 (Cs z [.int .i64 a, .string (tx data)] T.y_api_Write :: _) := h1.set 1 (.string (tx data))
 clear_value w2
 intro wa2
 replace h2 : St wa2 _ := h2.drew
 clear_value wa2
 obtain ⟨p, hp, q⟩ := DskS.open h2.sw
 -- Cs g :: L :: S :: W :: K :: Cs z :: X
 obtain ⟨ad, had, hlt, _⟩ := (q.sw.has (by decide)).at (j := a.toNat) (by omega)
 have hlL := (q.sw.has (by decide)).1
 refine ⟨p.L, q.cell0, _, h2.cell0, _, h2.cell 1, ad, had, h0, by omega, ?_⟩
 obtain ⟨k1, k2⟩ := St.setR rfl q.sw (k := a.toNat) (by omega) data rfl had
 refine ⟨k1, ?_⟩
 intro w4
 have q4 : St w4 _ := k2
 clear_value w4
 intro wa3
 replace q4 : St wa3 _ := q4.drew
 clear_value wa3
 have q5 := q4.sw
 have z5 := q5.up5
 refine ⟨p.W, q5.cell 2, _, z5.cell0, _, z5.cell 1, ?_⟩
 intro wa4
 have q6 : St wa4 (Cs _ _ _ :: _) := q5.new _ _
 clear_value wa4
 generalize wa3.heap.size = y at *
 refine ⟨q6.sw.cell 2, ?_⟩
 have hW := (q6.up4.has (by decide)).1
 refine St.app elt_wr q6.up4 (sl := ⟨some (blk y), 1, 1⟩) (ys := [(a, data)]) (q6.lit (xs := [(a, data)]) rfl rfl 1) rfl (by simp; omega) (by simp; omega) fun l2 w8 h8 hl8 => ?_
 -- W' :: Cs y :: Cs g :: L :: S :: K :: Cs z :: X
 have h9 := h8.d2.sw
 refine ⟨h9.wr (by simp), ?_⟩
 intro wa5
 replace h9 : St wa5 _ := h9.set 2 _
 clear_value wa5
 refine ⟨_, h9.cell 3, ?_⟩
 have em : w64 (d.many + 1) = d.many + 1 := w64_id (by omega) (by omega)
 rw [em]
 refine ⟨h9.wr (by simp), ?_⟩
 intro wa6
 replace h9 : St wa6 _ := h9.set 3 _
 clear_value wa6
 -- Cs g :: W' :: L :: S :: K :: Cs z :: X
 have h10 : St _ (DskS g (wr1 d (a, data)) :: Cs z [.int .i64 a, .string (tx data)] T.y_api_Write :: X) := DskS.mk { p with W := l2 } (by have a := wr1_ok (x := (a, data)) hp h0 hl hws; exact ⟨a.keep, a.ws, a.safe, a.len, a.wl⟩) h9.sw.dn3
 refine goes_st h10 ⟨fun h => (by cases h), fun _ => hR _ h10.d2⟩ (fun _ w' h' => ⟨fun h => (by cases h), fun _ => hR _ h'.d2⟩) fun ha w' h' => ⟨fun _ => ?_, fun h => (by cases h)⟩
 obtain ⟨p', hp', q'⟩ := DskS.open h'.d2
 refine ⟨p'.K, q'.cell 7, Crash_in hp' q' hoff (fun w' hw => St.ints hw) fun n ys w'' hys h'' => ?_⟩
 exact hF ha ys w'' hys h''
theorem Has.wr {l : Sl} {xs : List Wr1} (h : Has EW w l xs) {m : Nat} (hm : m < xs.length) : ∃ ad, l.a = some ad ∧ m < l.len ∧ w.cell? (ad.add (m * 2)) = some (.int .i64 xs[m].1) ∧ w.cell? ((ad.add (m * 2)).add 1) = some (.string (tx xs[m].2)) := by
 obtain ⟨ad, ha, hl, hc⟩ := h.at hm
 have h0 := hc 0 _ rfl
 rw [addr_add0] at h0
 exact ⟨ad, ha, hl, h0, hc 1 _ rfl⟩
/-- writes, in order; the power may go at one of them -/
theorem WriteD_st (h : St w (DskS g d :: X)) (hoff : d.off = false) {sl : Sl} {xs : List Wr1} (hx : ∀ w', St w' X → Has EW w' sl xs) (hok : OkW d.l.length xs) (hm : 0 ≤ d.many ∧ d.many + xs.length < 1000000000000) (hws : d.ws.length + xs.length < 1000000000) {R : Int → World → Prop}
   (hR : ∀ w', St w' (DskS g (wrN d xs) :: X) → R 0 w')
   (hF : d.armed = true → ∀ ys many w', ys.Sublist (d.ws ++ xs) → d.many ≤ many ∧ many ≤ d.many + xs.length → St w' (DskS g (fallD d ys many) :: X) → R 14 w') : F.disk_Disk_Write (some (blk g)) sl w R := by
 apply E.disk_Disk_Write
 unfold V.disk_Disk_Write
 try simp -zeta only [ldC, soC, brC, bkA, slC, stC, alC, drC]
 try simp (config := { zeta := false }) only [cnd_all, Nat.reduceAdd]
 have hlen := (hx w h.drop).1
 refine On_st h ⟨fun ho => (by rw [hoff] at ho; cases ho), fun _ => ?_⟩
 refine ⟨Cnt xs.length fun m w' => St w' (DskS g (wrN d (xs.take m)) :: X), cntM xs.length, Cnt.zero (by simpa [wrN] using h), ?_⟩
 rintro _ w1 ⟨m, rfl, hm', h1⟩
 obtain ⟨f1, f2, f3, f4, f5, f6⟩ := wrN_facts d (xs.take m)
 refine ⟨fun hlt => ?_, fun hge => ?_⟩
 · have hlt : m < xs.length := by omega
   obtain ⟨ad, ha, hal, c0, c1⟩ := Has.wr (hx w1 h1.drop) hlt
   have htk : xs.take (m + 1) = xs.take m ++ [xs[m]] := List.take_succ_eq_append_getElem hlt
   have hin := hok xs[m] (List.getElem_mem hlt)
   have hml : (xs.take m).length = m := by simp; omega
   refine ⟨ad, ha, by omega, by omega, _, c0, _, c1, ?_⟩
   intro wa1
   replace h1 : St wa1 (Cs _ _ _ :: _) := h1.new _ _
   clear_value wa1
   refine ⟨h1.wr0 (by simp), ?_⟩
   intro wa2
   replace h1 : St wa2 _ := h1.set0 _
   clear_value wa2
   refine ⟨h1.wr (by simp), ?_⟩
   intro wa3
   replace h1 : St wa3 _ := h1.set 1 _
   clear_value wa3
   simp only [List.set_cons_zero, List.set_cons_succ] at h1
   refine ⟨_, h1.cell0, _, h1.cell 1, ?_⟩
   refine write1_st h1.drop (by rw [f5]; exact hoff) hin.1 (by rw [f1, setAll_len]; exact hin.2.1) hin.2.2 (by rw [f4, hml]; omega) (by rw [f3, List.length_append, hml]; omega) (fun w' h' => ⟨fun h => absurd rfl h, fun _ => Cnt.next hlt (by omega) ?_⟩) fun ha ys w' hys h' => ⟨fun _ => ?_, fun h => (by cases h)⟩
   · rw [htk, wrN_app]; exact h'
   · refine hF (by rw [← f6]; exact ha) ys (d.many + m + 1) w' ?_ (by omega) ?_
     · rw [f3] at hys
       refine hys.trans ?_
       have e : d.ws ++ xs.take m ++ [(xs[m].1, xs[m].2)] = d.ws ++ xs.take (m + 1) := by rw [htk, List.append_assoc]
       rw [e]
       exact List.Sublist.append (List.Sublist.refl _) (List.take_sublist _ _)
     · have e : fallD (wrN d (xs.take m)) ys ((wrN d (xs.take m)).many + 1) = fallD d ys (d.many + m + 1) := by
         unfold fallD
         rw [f2, f4, hml]
       rw [e] at h'; exact h'
 · have hmm : m = xs.length := by omega
   subst hmm
   rw [List.take_length] at h1
   exact hR w1 h1
theorem FlushD_st (h : St w (DskS g d :: X)) (hoff : d.off = false) {R : Int → World → Prop} (hR : ∀ w', St w' (DskS g (flushD d) :: X) → R 0 w')
   (hF : d.armed = true → ∀ ys w', ys.Sublist d.ws → St w' (DskS g (fallD d ys d.many) :: X) → R 14 w') : F.disk_Disk_Flush (some (blk g)) w R := by
 apply E.disk_Disk_Flush
 unfold V.disk_Disk_Flush
 try simp -zeta only [ldC, soC, brC, bkA, slC, stC, alC, drC]
 try simp (config := { zeta := false }) only [cnd_all, Nat.reduceAdd]
 have calm : ∀ w1, St w1 (DskS g d :: X) → ∃ l1 : Sl, w1.cell? (blk g) = some (.slice l1.a l1.len l1.cap) ∧ F.slices_Clone_sl_string_string l1 w1 fun l2 w3 => Wr w3 ((blk g).add 1) ∧ (let w4 := w3.setCell ((blk g).add 1) (.slice l2.a l2.len l2.cap); Wr w4 ((blk g).add 2) ∧ (let w5 := w4.setCell ((blk g).add 2) (.slice none 0 0); R 0 w5)) := fun w1 h1 => by
   obtain ⟨p, hp, q⟩ := DskS.open h1
   have hll := hp.len
   refine ⟨p.L, q.cell0, CloneS_st q.sw (by omega) fun l2 w3 q3 => ?_⟩
   have q3 := q3.up2
   refine ⟨q3.wr (by simp), ?_⟩
   intro wa1
   replace q3 : St wa1 _ := q3.set 1 _
   clear_value wa1
   refine ⟨q3.wr (by simp), ?_⟩
   intro wa2
   replace q3 : St wa2 _ := q3.set 2 _
   clear_value wa2
   -- Cs :: l2 :: L :: S :: W :: K :: X
   refine hR _ (DskS.mk ⟨p.L, l2, ⟨none, 0, 0⟩, p.K, p.left, p.keep⟩ ⟨hp.keep, by simp [flushD], rfl, hp.len, by simp [flushD]⟩ ?_)
   exact ((q3.up3.drop.up3.drop).row0 EW T.y_api_Write).dn3.up2.sw
 refine On_st h ⟨fun ho => (by rw [hoff] at ho; cases ho), fun _ => goes_st h ⟨fun h => (by cases h), fun _ => calm w h⟩ (fun _ w1 h1 => ⟨fun h => (by cases h), fun _ => calm w1 h1⟩) fun ha w1 h1 => ⟨fun _ => ?_, fun h => (by cases h)⟩⟩
 obtain ⟨p, hp, q⟩ := DskS.open h1
 exact ⟨p.K, q.cell 7, Crash_in hp q hoff (fun w' hw => St.ints hw) fun n ys w' hys h' => hF ha ys w' hys h'⟩
theorem newdisk_st (h : St w X) {n : Nat} (h1 : 140 ≤ n) (h2 : n ≤ 2000) {R : Option Addr → Int → World → Prop} (hR : ∀ g w', St w' (DskS g (newD n) :: X) → R (some (blk g)) 0 w') : F.disk_New (n : Int) w R := by
 apply E.disk_New
 unfold V.disk_New
 try simp -zeta only [ldC, soC, brC, bkA, slC, stC, alC, drC]
 try simp (config := { zeta := false }) only [cnd_all, Nat.reduceAdd]
 refine ⟨fun h => by omega, fun _ => ⟨fun h => by omega, fun _ => strings_Repeat_spec (n := 256) (by decide) fun w1 hB1 => ?_⟩⟩
 have q1 := h.below hB1
 intro w2
 have q2 : St w2 (Cs w1.heap.size [.string (tx zeroS)] T.y_string :: _) := q1.new _ _
 clear_value w2
 refine RepeatS_spec q2.bl (by omega) (by omega) fun L w3 hO3 hbk3 hB3 => ?_
 have q3 : St w3 (Row ET T.y_string L (List.replicate n zeroS) :: X) := (St.rowOf q2 (fr_below hB3) (by rw [ET_all]; exact hO3) hbk3).d2
 refine CloneS_st q3 (by simp; omega) fun S w4 q4 => ?_
 intro wa1
 replace q4 : St wa1 (Cs _ _ _ :: _) := q4.new _ _
 clear_value wa1
 refine hR _ _ (DskS.mk ⟨L, S, ⟨none, 0, 0⟩, ⟨none, 0, 0⟩, 0, []⟩ ⟨by simp, by simp [newD], rfl, by simp [newD]; omega, by simp [newD]⟩ ?_)
 -- Cs :: S :: L :: X
 exact ((((q4.up2.sw).row0 EI T.y_int).dn3).row0 EW T.y_api_Write).dn3
end
end Go.Proofs.YtggachhkcmfijaaGreatDoor
