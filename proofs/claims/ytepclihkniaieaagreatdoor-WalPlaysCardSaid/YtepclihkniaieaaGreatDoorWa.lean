/- wal: what a Wal is; put, putHead, write, last, also where the power goes. -/
import Derived.Test.YtepclihkniaieaaGreatDoorDb
set_option linter.unusedVariables false
namespace Go.Proofs.YtepclihkniaieaaGreatDoor
open Go Go.Vc Go.RowKit Go.Lib

structure WlS where
  seq : Int
  down : Bool
  commits : Int
abbrev wlCells (g : Nat) (l : Sl) (f : Bool) (s : WlS) : List Value := [.pointer (some (blk g)), .int .i64 s.seq, .bool f, slV l, .bool s.down, .int .i64 s.commits]
def Wl (w : World) (u g : Nat) (s : WlS) : Prop := ∃ l f, w.heap[u]? = some (.cells ⟨wlCells g l f s⟩ T.y_wal_Wal (0, 0))
/-- a Wal -/
def WalS (u g : Nat) (s : WlS) : As := As.ex fun x : Sl × Bool => Cs u (wlCells g x.1 x.2 s) T.y_wal_Wal
/-- without power; all that it has is safe -/
def offD (l : List Bs) (many : Int) : Ds := ⟨l, l, [], many, true, false⟩
theorem fall_off (d : Ds) (ys : List Wr1) (many : Int) : fallD d ys many = offD (setAll d.safe ys) many := rfl
def sizeD (d : Ds) : Int := (d.l.length : Int) - 111

def headB (h : Hd) : Bs := (layHead h).1
theorem headB_eq {h : Hd} (hv : validH h = true) : layHead h = (headB h, 0) := by simp only [headB, layHead, hv, if_true]
theorem headB_len {h : Hd} (hv : validH h = true) : (headB h).length = 256 := by
  have e : layHead h = (sealS 256 (headBytes h), 0) := by simp only [layHead, hv, if_true]
  unfold headB
  rw [e]
  simp only
  rw [sealS_len (by decide)]
  rw [headBytes_len]
  simp only [validH, Bool.and_eq_true, decide_eq_true_eq] at hv
  omega
theorem valid_done {seq : Int} (h0 : 0 ≤ seq) (h1 : seq ≤ 1099511627776) : validH ⟨seq, false, []⟩ = true := by
  simp only [validH, List.length_nil, List.range_zero, List.all_nil, Bool.and_true, Bool.and_eq_true, decide_eq_true_eq]
  exact ⟨h0, h1, by decide, by simp⟩

section
variable {w w' : World} {X : List As} {u g : Nat} {d : Ds} {s : WlS}
theorem Up_st (h : St w (WalS u g s :: X)) {R : Bool → World → Prop} (hR : R (!s.down) w) : F.wal_Wal_Up (some (blk u)) w R := by
  apply E.wal_Wal_Up
  unfold V.wal_Wal_Up
  try simp (config := { zeta := false }) only [cnd_all, Nat.reduceAdd]
  obtain ⟨x, q⟩ := h.ex
  exact ⟨s.down, q.cell 4, hR⟩
theorem Seq_st (h : St w (WalS u g s :: X)) {R : Int → World → Prop} (hR : R s.seq w) : F.wal_Wal_Seq (some (blk u)) w R := by
  apply E.wal_Wal_Seq
  unfold V.wal_Wal_Seq
  try simp (config := { zeta := false }) only [cnd_all, Nat.reduceAdd]
  obtain ⟨x, q⟩ := h.ex
  exact ⟨s.seq, q.cell 1, hR⟩
theorem Commits_st (h : St w (WalS u g s :: X)) {R : Int → World → Prop} (hR : R s.commits w) : F.wal_Wal_Commits (some (blk u)) w R := by
  apply E.wal_Wal_Commits
  unfold V.wal_Wal_Commits
  try simp (config := { zeta := false }) only [cnd_all, Nat.reduceAdd]
  obtain ⟨x, q⟩ := h.ex
  exact ⟨s.commits, q.cell 5, hR⟩
theorem DskS.lenB (h : St w (DskS g d :: X)) : d.l.length ≤ 1000000 := by
  obtain ⟨p, hp, _⟩ := DskS.open h
  exact hp.len
theorem SizeW_st (h : St w (WalS u g s :: DskS g d :: X)) {R : Int → World → Prop} (hR : R (sizeD d) w) : F.wal_Wal_Size (some (blk u)) w R := by
  apply E.wal_Wal_Size
  unfold V.wal_Wal_Size
  try simp (config := { zeta := false }) only [cnd_all, Nat.reduceAdd]
  obtain ⟨x, q⟩ := h.ex
  have hl := DskS.lenB h.drop
  refine ⟨some (blk g), q.cell0, SizeD_st h.drop ?_⟩
  rw [w64_id (by omega) (by omega)]; exact hR
def readE (d : Ds) (down : Bool) (at_ : Int) : Int := if down then 14 else if at_ < 0 ∨ sizeD d ≤ at_ then 15 else if d.off then 14 else 0
theorem ReadW_st (h : St w (WalS u g s :: DskS g d :: X)) {at_ : Int} {R : ByteArray → Int → World → Prop}
    (hR : R (tx (if readE d s.down at_ = 0 then d.l.getD (111 + at_.toNat) [] else [])) (readE d s.down at_) w) : F.wal_Wal_Read (some (blk u)) at_ w R := by
  apply E.wal_Wal_Read
  unfold V.wal_Wal_Read
  try simp (config := { zeta := false }) only [cnd_all, Nat.reduceAdd]
  have hl := DskS.lenB h.drop
  have hs : sizeD d = (d.l.length : Int) - 111 := rfl
  refine Up_st h ⟨fun hu => ?_, fun hu => ⟨fun hn => ?_, fun hn => SizeW_st h ⟨fun hb => ?_, fun hb => ?_⟩⟩⟩
  · have e : readE d s.down at_ = 14 := by unfold readE; rw [if_pos (by simpa using hu)]
    rw [e] at hR; exact hR
  all_goals
    have hu : s.down = false := by simpa using hu
  · have e : readE d s.down at_ = 15 := by unfold readE; rw [if_neg (by simp [hu]), if_pos (.inl hn)]
    rw [e] at hR; exact hR
  · have e : readE d s.down at_ = 15 := by unfold readE; rw [if_neg (by simp [hu]), if_pos (.inr hb)]
    rw [e] at hR; exact hR
  · obtain ⟨x, q⟩ := h.ex
    refine ⟨some (blk g), q.cell0, ?_⟩
    rw [w64_id (by omega) (by omega)]
    refine ReadD_st h.drop ?_
    have e : readE d s.down at_ = mayD d (111 + at_) := by
      unfold readE mayD
      rw [if_neg (by simp [hu]), if_neg (by omega)]
      by_cases ho : d.off = true
      · rw [if_pos ho, if_pos ho]
      · rw [if_neg ho, if_neg ho, if_neg (by omega)]
    have e2 : (111 + at_).toNat = 111 + at_.toNat := by omega
    rw [e2, ← e]; exact hR

/-- writes that are made safe at once; the power may go -/
theorem put_st (h : St w (WalS u g s :: DskS g d :: X)) (hoff : d.off = false) (hws : d.ws = []) {sl : Sl} {xs : List Wr1} (hx : ∀ w', St w' X → Has EW w' sl xs) (hok : OkW d.l.length xs) (hm : 0 ≤ d.many ∧ d.many + xs.length < 1000000000000) (hl : xs.length < 1000000000) {R : Int → World → Prop}
    (hR : ∀ w', St w' (WalS u g s :: DskS g (flushD (wrN d xs)) :: X) → R 0 w')
    (hF : d.armed = true → ∀ ys many w', ys.Sublist xs → d.many ≤ many ∧ many ≤ d.many + xs.length → St w' (WalS u g s :: DskS g (offD (setAll d.safe ys) many) :: X) → R 14 w') : F.wal_Wal_put (some (blk u)) sl w R := by
  apply E.wal_Wal_put
  unfold V.wal_Wal_put
  try simp (config := { zeta := false }) only [cnd_all, Nat.reduceAdd]
  obtain ⟨x, q⟩ := h.ex
  obtain ⟨f1, f2, f3, f4, f5, f6⟩ := wrN_facts d xs
  refine ⟨some (blk g), q.cell0, WriteD_st (X := WalS u g s :: X) h.sw hoff (fun w' hw => hx w' hw.drop) hok hm (by rw [hws]; simpa using hl) (fun w1 h1 => ⟨fun h => absurd rfl h, fun _ => ?_⟩) fun ha ys many w1 hys hm1 h1 => ⟨fun _ => ?_, fun h => (by cases h)⟩⟩
  · obtain ⟨x1, q1⟩ := h1.sw.ex
    refine ⟨some (blk g), q1.cell0, FlushD_st h1 (by rw [f5]; exact hoff) (fun w2 h2 => hR w2 h2.sw) fun ha ys w2 hys h2 => ?_⟩
    rw [f6] at ha
    rw [f3, hws, List.nil_append] at hys
    rw [fall_off, f2] at h2
    exact hF ha ys _ w2 hys (by rw [f4]; omega) h2.sw
  · rw [hws, List.nil_append] at hys
    exact hF ha ys many w1 hys hm1 h1.sw

theorem putHead_st (h : St w (WalS u g s :: DskS g d :: X)) (hoff : d.off = false) (hws : d.ws = []) {seq : Int} {full : Bool} {tl : Sl} {ts : List Int} (hT : ∀ w', St w' X → Ints w' tl ts) (htl : ∀ w', St w' X → ∀ k, tl.bk k → k < w'.heap.size)
    (hv : validH ⟨seq, full, ts⟩ = true) (hn : 1 ≤ d.l.length) (hm : 0 ≤ d.many ∧ d.many + 1 < 1000000000000) {R : Int → World → Prop}
    (hR : ∀ w', St w' (WalS u g { s with seq := seq } :: DskS g (flushD (wr1 d (0, headB ⟨seq, full, ts⟩))) :: X) → R 0 w')
    (hF : d.armed = true → ∀ ys many w', ys.Sublist [((0 : Int), headB ⟨seq, full, ts⟩)] → d.many ≤ many ∧ many ≤ d.many + 1 → St w' (WalS u g s :: DskS g (offD (setAll d.safe ys) many) :: X) → R 14 w') : F.wal_Wal_putHead (some (blk u)) seq full tl w R := by
  apply E.wal_Wal_putHead
  unfold V.wal_Wal_putHead
  try simp (config := { zeta := false }) only [cnd_all, Nat.reduceAdd]
  have hlen := headB_len hv
  intro wa1
  replace h : St wa1 (Cs _ _ _ :: _) := h.new _ _
  clear_value wa1
  generalize w.heap.size = z at *
  refine ⟨_, h.cell0, _, h.cell 1, tl, h.cell 2, Lay_head (hT _ h.drop.drop.drop) (htl _ h.drop.drop.drop) fun w2 hB2 => ?_⟩
  have h2 := h.below hB2
  rw [headB_eq hv]
  refine ⟨fun h => absurd rfl h, fun _ => ?_⟩
  intro wa2
  replace h2 : St wa2 (Cs _ _ _ :: _) := h2.new _ _
  clear_value wa2
  generalize w2.heap.size = y at *
  -- Cs y :: Cs z :: WalS :: DskS :: X
  refine put_st (X := Cs y [.int .i64 0, .string (tx (headB ⟨seq, full, ts⟩))] T.y_api_Write :: Cs z [.int .i64 seq, .bool full, slV tl] T.y_head_Head :: X) h2.up3.up3 hoff hws (xs := [(0, headB ⟨seq, full, ts⟩)]) (fun w' hw => hw.lit (xs := [((0 : Int), headB ⟨seq, full, ts⟩)]) rfl rfl 1) (fun x hx => by
    simp only [List.mem_cons, List.not_mem_nil, or_false] at hx
    subst hx
    exact ⟨Int.le_refl _, by show (0 : Int) < _; omega, hlen⟩) (by simpa using hm) (by simp) (fun w3 h3 => ⟨fun h => absurd rfl h, fun _ => ?_⟩) fun ha ys many w3 hys hm3 h3 => ⟨fun _ => hF ha ys many w3 hys (by simpa using hm3) (h3.d3.d3), fun h => (by cases h)⟩
  have q3 := h3.up3
  obtain ⟨x, q⟩ := (q3.sw).ex
  -- Cs u :: Cs z :: DskS :: Cs y :: X
  refine ⟨_, q3.cell0, _, q3.cell 1, tl, q3.cell 2, ?_⟩
  refine ⟨q.wr (by simp), ?_⟩
  intro wa3
  replace q : St wa3 _ := q.set 1 _
  clear_value wa3
  refine ⟨q.wr (by simp), ?_⟩
  intro wa4
  replace q : St wa4 _ := q.set 2 _
  clear_value wa4
  refine ⟨q.wr (by simp), ?_⟩
  intro wa5
  replace q : St wa5 _ := q.set 3 _
  clear_value wa5
  refine hR _ (St.mk (tl, full) (L := _) ?_)
  exact q.d2.d3
end
end Go.Proofs.YtepclihkniaieaaGreatDoor
