/- wal: put, putHead, write, Size, Up, Read, last; nothing is armed. -/
import Derived.Test.YtmokmbhhnbcelaaGreatDoorDm
set_option linter.unusedVariables false
namespace Go.Proofs.YtmokmbhhnbcelaaGreatDoor
open Go Go.Vc Go.RowKit Go.Lib

/-- what owned fp owns fp' now, and nothing else has turned -/
structure Gr (fp fp' : Nat → Prop) (w w' : World) : Prop where
  fr : Fr fp w w'
  new : ∀ k, fp' k → fp k ∨ w.heap.size ≤ k

theorem Gr.refl (fp : Nat → Prop) (w : World) : Gr fp fp w w := ⟨Fr.refl _ _, fun _ h => .inl h⟩
theorem Gr.trans {a b c : Nat → Prop} {w w1 w2 : World} (h : Gr a b w w1) (k : Gr b c w1 w2) : Gr a c w w2 :=
  ⟨h.fr.trans k.fr fun i hi hb => (h.new i hb).resolve_right (by omega), fun i hc => by
    rcases k.new i hc with hb | hb
    · exact h.new i hb
    · exact .inr (Nat.le_trans h.fr.size hb)⟩
theorem Gr.below {fp : Nat → Prop} {w w' : World} (h : Below w.heap.size w w') : Gr fp fp w w' := ⟨(fr_below h).mono fun _ _ hk => hk.elim, fun _ hk => .inl hk⟩
theorem Gr.more {a b : Nat → Prop} {w w' : World} (h : Gr a b w w') (c : Nat → Prop) : Gr (fun k => a k ∨ c k) (fun k => b k ∨ c k) w w' :=
  ⟨h.fr.mono fun _ _ hk => .inl hk, fun k hk => by
    rcases hk with hk | hk
    · rcases h.new k hk with h2 | h2
      · exact .inl (.inl h2)
      · exact .inr h2
    · exact .inl (.inr hk)⟩
theorem Gr.of {a : Nat → Prop} {w w' : World} (h : Fr a w w') : Gr a a w w' := ⟨h, fun _ hk => .inl hk⟩
theorem Gr.size {a b : Nat → Prop} {w w' : World} (h : Gr a b w w') : w.heap.size ≤ w'.heap.size := h.fr.size
theorem Gr.out {a b : Nat → Prop} {w w' : World} (h : Gr a b w w') {k : Nat} (hk : k < w.heap.size) (hn : ¬ a k) : ¬ b k := fun hb => by
  rcases h.new k hb with h2 | h2
  · exact hn h2
  · omega

/-- a disk whose blocks are fp -/
def Dsk (w : World) (g : Nat) (fp : Nat → Prop) (d : Ds) : Prop := ∃ L S Wn, Dk w g L S Wn d ∧ fp = fpD g L S Wn
theorem Dsk.keep {w w' : World} {g : Nat} {fp : Nat → Prop} {d : Ds} (h : Dsk w g fp d) {Z : Nat → Prop} (hf : Fr Z w w') (hz : ∀ k, fp k → ¬ Z k) : Dsk w' g fp d := by
  obtain ⟨L, S, Wn, hk, rfl⟩ := h
  exact ⟨L, S, Wn, hk.keep hf hz, rfl⟩
theorem Dsk.below {w w' : World} {g : Nat} {fp : Nat → Prop} {d : Ds} (h : Dsk w g fp d) (hB : Below w.heap.size w w') : Dsk w' g fp d := h.keep (fr_below hB) (fun _ _ => id)
theorem Dsk.lt {w : World} {g : Nat} {fp : Nat → Prop} {d : Ds} (h : Dsk w g fp d) {k : Nat} (hk : fp k) : k < w.heap.size := by
  obtain ⟨L, S, Wn, h, rfl⟩ := h
  exact h.lt hk
theorem Dsk.has {w : World} {g : Nat} {fp : Nat → Prop} {d : Ds} (h : Dsk w g fp d) : fp g := by
  obtain ⟨L, S, Wn, h, rfl⟩ := h
  exact .inl rfl
theorem Dsk.apart {w : World} {g : Nat} {fp : Nat → Prop} {d : Ds} (h : Dsk w g fp d) {k : Nat} {cs : Array Value} {t : TypeId} (hk : w.heap[k]? = some (.cells cs t (0, 0))) (h1 : t ≠ T.y_disk_Disk) (h2 : t ≠ T.y_string) (h3 : t ≠ T.y_api_Write) : ¬ fp k := by
  obtain ⟨L, S, Wn, h, rfl⟩ := h
  intro hf
  rcases hf with rfl | hf | hf | hf
  · exact typ_ne hk h.obj h1
  · obtain ⟨_, ht⟩ := Own.typ h.ol hf; exact typ_ne hk ht h2
  · obtain ⟨_, ht⟩ := Own.typ h.os hf; exact typ_ne hk ht h2
  · obtain ⟨_, ht⟩ := Own.typ h.ow hf; exact typ_ne hk ht h3

def flushD (d : Ds) : Ds := { d with safe := d.l, ws := [] }

/-- a Wal's own block -/
structure WlS where
  seq : Int
  down : Bool
  commits : Int
def wlCells (g : Nat) (l : Sl) (f : Bool) (s : WlS) : List Value := [.pointer (some (blk g)), .int .i64 s.seq, .bool f, slV l, .bool s.down, .int .i64 s.commits]
def Wl (w : World) (u g : Nat) (s : WlS) : Prop := ∃ l f, w.heap[u]? = some (.cells ⟨wlCells g l f s⟩ T.y_wal_Wal (0, 0))
theorem Wl.keep {w w' : World} {u g : Nat} {s : WlS} (h : Wl w u g s) {Z : Nat → Prop} (hf : Fr Z w w') (hz : ¬ Z u) : Wl w' u g s := by
  obtain ⟨l, f, h⟩ := h
  exact ⟨l, f, hf.heap h hz⟩
theorem Wl.below {w w' : World} {u g : Nat} {s : WlS} (h : Wl w u g s) (hB : Below w.heap.size w w') : Wl w' u g s := h.keep (fr_below hB) id
theorem Wl.lt {w : World} {u g : Nat} {s : WlS} (h : Wl w u g s) : u < w.heap.size := by
  obtain ⟨l, f, h⟩ := h; exact heap_lt h
theorem Wl.apart {w : World} {u g g' : Nat} {s : WlS} {fp : Nat → Prop} {d : Ds} (h : Wl w u g s) (hd : Dsk w g' fp d) : ¬ fp u := by
  obtain ⟨l, f, h⟩ := h
  exact hd.apart h (by decide) (by decide) (by decide)

section
variable {w : World} {u g : Nat} {s : WlS} {fp : Nat → Prop} {d : Ds}
theorem Wl.c0 (h : Wl w u g s) : w.cell? (blk u) = some (.pointer (some (blk g))) := by obtain ⟨l, f, h⟩ := h; rw [blk_cell0 h]; rfl
theorem Wl.c4 (h : Wl w u g s) : w.cell? ((blk u).add 4) = some (.bool s.down) := by obtain ⟨l, f, h⟩ := h; rw [blk_cell h]; rfl
theorem Wl.c5 (h : Wl w u g s) : w.cell? ((blk u).add 5) = some (.int .i64 s.commits) := by obtain ⟨l, f, h⟩ := h; rw [blk_cell h]; rfl
theorem Wl.c1 (h : Wl w u g s) : w.cell? ((blk u).add 1) = some (.int .i64 s.seq) := by obtain ⟨l, f, h⟩ := h; rw [blk_cell h]; rfl
theorem Wl.c23 (h : Wl w u g s) : ∃ (b : Bool) (l : Sl), w.cell? (((blk u).add 1).add 1) = some (.bool b) ∧ w.cell? (((blk u).add 1).add 2) = some (.slice l.a l.len l.cap) := by
  obtain ⟨l, f, h⟩ := h
  refine ⟨f, l, ?_, ?_⟩
  · rw [add_add, blk_cell h]; rfl
  · rw [add_add, blk_cell h]; rfl

theorem Up_wal (h : Wl w u g s) {R : Bool → World → Prop} (hR : R (!s.down) w) : F.wal_Wal_Up (some (blk u)) w R := by
  apply E.wal_Wal_Up
  unfold V.wal_Wal_Up
  exact ⟨fun _ => ⟨blk u, rfl, s.down, h.c4, hR⟩, fun h => by simp at h⟩

def sizeD (d : Ds) : Int := (d.l.length : Int) - 111

theorem Size_wal (h : Wl w u g s) (hd : Dsk w g fp d) (hn : d.l.length ≤ 1000000) {R : Int → World → Prop} (hR : R (sizeD d) w) : F.wal_Wal_Size (some (blk u)) w R := by
  apply E.wal_Wal_Size
  unfold V.wal_Wal_Size
  obtain ⟨L, S, Wn, hk, rfl⟩ := hd
  refine ⟨fun h => by simp at h, fun _ => ⟨blk u, rfl, some (blk g), h.c0, Size_disk hk ?_⟩⟩
  rw [w64_id (by omega) (by omega)]
  exact hR

def readE (d : Ds) (down : Bool) (at_ : Int) : Int := if down then 14 else if at_ < 0 ∨ sizeD d ≤ at_ then 15 else if d.off then 14 else 0

theorem Read_wal (h : Wl w u g s) (hd : Dsk w g fp d) (hn : d.l.length ≤ 1000000) {at_ : Int} {R : ByteArray → Int → World → Prop}
    (hR : R (tx (if readE d s.down at_ = 0 then d.l.getD (111 + at_.toNat) [] else [])) (readE d s.down at_) w) : F.wal_Wal_Read (some (blk u)) at_ w R := by
  apply E.wal_Wal_Read
  unfold V.wal_Wal_Read
  refine ⟨fun h => by simp at h, fun _ => Up_wal h ⟨fun hu => ?_, fun hu => ?_⟩⟩
  · have hu : s.down = true := by simpa using hu
    simp only [readE, hu, if_true] at hR
    exact hR
  have hu : s.down = false := by simpa using hu
  rw [hu] at hR
  refine ⟨fun hlt => ?_, fun hlt => Size_wal h hd hn ⟨fun hge => ?_, fun hge => ⟨blk u, rfl, some (blk g), h.c0, ?_⟩⟩⟩
  · have hlt := of_decide_eq_true hlt
    have e : readE d false at_ = 15 := by unfold readE; rw [if_neg (by decide), if_pos (.inl hlt)]
    rw [e] at hR; exact hR
  · have hge := of_decide_eq_true hge
    have e : readE d false at_ = 15 := by unfold readE; rw [if_neg (by decide), if_pos (.inr hge)]
    rw [e] at hR; exact hR
  · have hlt := of_decide_eq_false hlt
    have hge := of_decide_eq_false hge
    have hs : sizeD d = (d.l.length : Int) - 111 := rfl
    obtain ⟨L, S, Wn, hk, rfl⟩ := hd
    rw [w64_id (by omega) (by omega)]
    refine Read_disk hk ?_
    have e : readE d false at_ = mayD d (111 + at_) := by
      unfold readE mayD
      rw [if_neg (by decide), if_neg (by omega)]
      by_cases ho : d.off = true
      · rw [if_pos ho, if_pos ho]
      · rw [if_neg ho, if_neg ho, if_neg (by omega)]
    rw [e] at hR
    have e2 : (111 + at_).toNat = 111 + at_.toNat := by omega
    rw [e2]; exact hR

/-- writes that are made safe at once -/
theorem put_wal {sl : Sl} {xs : List Wr1} (h : Wl w u g s) (hd : Dsk w g fp d) (hoff : d.off = false) (hx : Wrs w sl xs) (hsl : ∀ k, sl.bk k → k < w.heap.size ∧ ¬ fp k) (hok : OkW d.l.length xs) (hn : d.l.length ≤ 1000000) (hm0 : 0 ≤ d.many) (hm : d.many + xs.length < 1000000000000) (hws : d.ws.length + xs.length ≤ 1000000000)
    {R : Int → World → Prop} (hR : ∀ fp' w', Dsk w' g fp' (flushD (wrN d xs)) → Gr fp fp' w w' → Wl w' u g s → R 0 w') : F.wal_Wal_put (some (blk u)) sl w R := by
  apply E.wal_Wal_put
  unfold V.wal_Wal_put
  have hu := h.apart hd
  obtain ⟨L, S, Wn, hk, rfl⟩ := hd
  refine ⟨blk u, rfl, some (blk g), h.c0, Write_disk hk hoff hx hsl hok hm0 hm hws fun Wn1 w1 h1 hb1 hF1 => ⟨fun h => by simp at h, fun _ => ?_⟩⟩
  have hw1 := h.keep hF1 hu
  obtain ⟨f1, f2, f3, f4, f5⟩ := wrN_facts d xs
  refine ⟨blk u, rfl, some (blk g), hw1.c0, Flush_disk h1 (by rw [f2]; exact hoff) (by rw [f1]; exact hn) fun S2 w2 h2 hb2 hF2 => ?_⟩
  have hug : ¬ u = g := fun e => hu (.inl e)
  have s1 := hF1.size
  refine hR _ w2 ⟨L, S2, ⟨none, 0, 0⟩, h2, rfl⟩ ⟨hF1.trans hF2 fun i _ hi => .inl hi, fun k hk => ?_⟩ (hw1.keep hF2 hug)
  rcases hk with hk | hk | hk | hk
  · exact .inl (.inl hk)
  · exact .inl (.inr (.inl hk))
  · exact .inr (by have := hb2 k hk; omega)
  · exact bk_nil hk

def headB (h : Hd) : Bs := (layHead h).1
theorem headB_len {h : Hd} (hv : validH h = true) : (headB h).length = 256 := by
  have e : layHead h = (sealS 256 (headBytes h), 0) := by simp only [layHead, hv, if_true]
  unfold headB
  rw [e]
  simp only
  rw [sealS_len (by decide)]
  rw [headBytes_len]
  simp only [validH, Bool.and_eq_true, decide_eq_true_eq] at hv
  omega

theorem putHead_wal {seq : Int} {full : Bool} {tl : Sl} {ts : List Int} (h : Wl w u g s) (hd : Dsk w g fp d) (hoff : d.off = false) (hT : Ints w tl ts) (htl : ∀ k, tl.bk k → k < w.heap.size) (hv : validH ⟨seq, full, ts⟩ = true) (hn : d.l.length ≤ 1000000) (hn1 : 1 ≤ d.l.length) (hm0 : 0 ≤ d.many) (hm : d.many + 1 < 1000000000000) (hws : d.ws.length + 1 ≤ 1000000000)
    {R : Int → World → Prop} (hR : ∀ fp' w', Dsk w' g fp' (flushD (wr1 d (0, headB ⟨seq, full, ts⟩))) → Gr (fun k => fp k ∨ k = u) (fun k => fp' k ∨ k = u) w w' → Wl w' u g { s with seq := seq } → R 0 w') : F.wal_Wal_putHead (some (blk u)) seq full tl w R := by
  apply E.wal_Wal_putHead
  unfold V.wal_Wal_putHead
  intro w1
  have h1 : w1.heap[w.heap.size]? = some (.cells ⟨[.int .i64 seq, .bool full, .slice tl.a tl.len tl.cap]⟩ T.y_head_Head (0, 0)) := heap_new w _
  have hB1 : Below w.heap.size w w1 := below_fr (Fr.alloc no w _)
  have hz1 : w1.heap.size = w.heap.size + 1 := by simp [w1]
  clear_value w1
  obtain ⟨c0, c1, c2⟩ := head3 h1
  have hlen := headB_len hv
  have e : layHead ⟨seq, full, ts⟩ = (headB ⟨seq, full, ts⟩, 0) := by simp only [headB, layHead, hv, if_true]
  refine ⟨seq, c0, full, c1, tl, c2, Lay_head (hT.below hB1) (fun k hk => by have := htl k hk; omega) fun w2 hB2 => ?_⟩
  rw [e]
  refine ⟨fun h => by simp at h, fun _ => ?_⟩
  intro w3
  have h3 : w3.heap[w2.heap.size]? = some (.cells ⟨wrCells [(0, headB ⟨seq, full, ts⟩)]⟩ T.y_api_Write (0, 0)) := heap_new w2 _
  have hF3 : Fr no w2 w3 := Fr.alloc no w2 _
  have hz3 : w3.heap.size = w2.heap.size + 1 := by simp [w3]
  clear_value w3
  have s2 := hB2.size
  have hB13 := hB2.trans ((below_fr hF3).mono s2)
  have hB03 := hB1.trans (hB13.mono (by omega))
  have d3 := hd.below hB03
  have u3 := h.below hB03
  have hd3 := (fr_below hB13).heap h1 id
  refine put_wal u3 d3 hoff (Wrs.row (ws := [(0, headB ⟨seq, full, ts⟩)]) h3 1 1 rfl) (fun k hk => by
    obtain ⟨a, ha, rfl⟩ := hk
    injection ha with ha
    subst ha
    exact ⟨heap_lt h3, fun hf => by have := hd.lt hf; have : (blk w2.heap.size).block = w2.heap.size := rfl; omega⟩) (fun x hx => by
      simp only [List.mem_cons, List.not_mem_nil, or_false] at hx
      subst hx
      exact ⟨Int.le_refl _, by show (0 : Int) < _; omega, hlen⟩) hn hm0 (by simpa using hm) (by simpa using hws) fun fp' w4 h4 hG4 hu4 => ⟨fun h => by simp at h, fun _ => ?_⟩
  have hh4 := hG4.fr.heap hd3 (fun hf => by have := hd.lt hf; omega)
  obtain ⟨k0, k1, k2⟩ := head3 hh4
  obtain ⟨l4, f4, o4⟩ := hu4
  refine ⟨seq, k0, full, k1, tl, k2, blk u, rfl, blk_wr o4 (by simp [wlCells]), ?_⟩
  intro w5
  have o5 : w5.heap[u]? = some (.cells ⟨wlCells g l4 f4 { s with seq := seq }⟩ T.y_wal_Wal (0, 0)) := by have := blk_set o4 1 (.int .i64 seq); exact this
  have f5 : Fr (· = u) w4 w5 := fr_set w4 u 1 _
  clear_value w5
  refine ⟨by rw [add_add]; exact blk_wr o5 (by simp [wlCells]), ?_⟩
  rw [add_add]
  intro w6
  have o6 : w6.heap[u]? = some (.cells ⟨wlCells g l4 full { s with seq := seq }⟩ T.y_wal_Wal (0, 0)) := by have := blk_set o5 2 (.bool full); exact this
  have f6 : Fr (· = u) w5 w6 := fr_set w5 u 2 _
  clear_value w6
  refine ⟨by rw [add_add]; exact blk_wr o6 (by simp [wlCells]), ?_⟩
  rw [add_add]
  intro w7
  have o7 : w7.heap[u]? = some (.cells ⟨wlCells g tl full { s with seq := seq }⟩ T.y_wal_Wal (0, 0)) := by have := blk_set o6 3 (.slice tl.a tl.len tl.cap); exact this
  have f7 : Fr (· = u) w6 w7 := fr_set w6 u 3 _
  clear_value w7
  have f47 : Fr (· = u) w4 w7 := (f5.trans (S' := (· = u)) f6 fun _ _ h => h).trans (S' := (· = u)) f7 fun _ _ h => h
  have hnu : ¬ fp' u := hG4.out u3.lt (u3.apart d3)
  refine hR fp' w7 (h4.keep f47 (fun k hk he => hnu (by have : k = u := he; exact this ▸ hk))) ?_ ⟨tl, full, o7⟩
  exact ((Gr.below (fp := fun k => fp k ∨ k = u) hB03).trans (hG4.more (· = u))).trans (Gr.of (f47.mono fun _ _ h => .inr h))

theorem write_wal {sl : Sl} {xs : List Wr1} (h : Wl w u g s) (hd : Dsk w g fp d) (hoff : d.off = false) (hx : Wrs w sl xs) (hsl : ∀ k, sl.bk k → k < w.heap.size ∧ ¬ fp k) (hok : OkW d.l.length xs) (hn : d.l.length ≤ 1000000) (hn1 : 1 ≤ d.l.length) (hs : 0 ≤ s.seq ∧ s.seq ≤ 1099511627776) (hm0 : 0 ≤ d.many) (hm : d.many + xs.length + 1 < 1000000000000) (hws : d.ws.length + xs.length ≤ 1000000000)
    {R : Int → World → Prop} (hR : ∀ fp' w', Dsk w' g fp' (flushD (wr1 (flushD (wrN d xs)) (0, headB ⟨s.seq, false, []⟩))) → Gr (fun k => fp k ∨ k = u) (fun k => fp' k ∨ k = u) w w' → Wl w' u g s → R 0 w') : F.wal_Wal_write (some (blk u)) sl w R := by
  apply E.wal_Wal_write
  unfold V.wal_Wal_write
  refine put_wal h hd hoff hx hsl hok hn hm0 (by omega) hws fun fp1 w1 h1 hG1 hu1 => ⟨fun h => by simp at h, fun _ => ?_⟩
  obtain ⟨b, l, c2, c3⟩ := hu1.c23
  obtain ⟨f1, f2, f3, f4, f5⟩ := wrN_facts d xs
  refine ⟨blk u, rfl, s.seq, hu1.c1, b, c2, l, c3, Done_head fun w2 hB2 => ?_⟩
  have hv : validH ⟨s.seq, false, []⟩ = true := by
    simp only [validH, List.length_nil, List.range_zero, List.all_nil, Bool.and_true, Bool.and_eq_true, decide_eq_true_eq]
    exact ⟨hs.1, hs.2, by decide, by simp⟩
  refine putHead_wal (ts := []) (hu1.below hB2) (h1.below hB2) (by show (wrN d xs).off = false; rw [f2]; exact hoff) ⟨rfl, fun j v hj => by simp at hj⟩ (fun k hk => bk_nil hk) hv (by show (wrN d xs).l.length ≤ 1000000; rw [f1]; exact hn) (by show 1 ≤ (wrN d xs).l.length; rw [f1]; exact hn1) (by show 0 ≤ (wrN d xs).many; rw [f3]; omega) (by show (wrN d xs).many + 1 < 1000000000000; rw [f3]; omega) (by show 0 + 1 ≤ 1000000000; decide) fun fp3 w3 h3 hG3 hu3 => ?_
  exact hR fp3 w3 h3 (((hG1.more (· = u)).trans (Gr.below hB2)).trans hG3) hu3

def badW (n : Int) (x : Wr1) : Int := if x.1 < 0 ∨ n ≤ x.1 then 15 else if x.2.length ≠ 256 then 1 else 0
def lastE (n : Int) (ws : List Wr1) : Int :=
  match ws.find? (fun x => decide (badW n x ≠ 0)) with
  | some x => badW n x
  | none => if 110 < (nextT (keysW ws)).length then 21 else 0

theorem lastE_bad {n : Int} {ws : List Wr1} {m : Nat} {x : Wr1} (h : ∀ y ∈ ws.take m, badW n y = 0) (hx : ws[m]? = some x) (hb : badW n x ≠ 0) : lastE n ws = badW n x := by
  have e : ws.find? (fun x => decide (badW n x ≠ 0)) = some x := by
    have hlt := (List.getElem?_eq_some_iff.1 hx).1
    have hx' := (List.getElem?_eq_some_iff.1 hx).2
    rw [List.find?_eq_some_iff_append]
    refine ⟨by simpa using hb, ws.take m, ws.drop (m + 1), ?_, fun y hy => by simp [h y hy]⟩
    rw [← hx', ← List.drop_eq_getElem_cons hlt, List.take_append_drop]
  unfold lastE
  rw [e]

set_option maxHeartbeats 1000000 in
theorem last_wal {sl : Sl} {ws : List Wr1} (h : Wl w u g s) (hd : Dsk w g fp d) (hn : d.l.length ≤ 1000000) (hx : Wrs w sl ws) (hsl : ∀ k, sl.bk k → k < w.heap.size) (hl : ws.length ≤ 1000000)
    {R : Option Nat → Int → World → Prop} (hR : ∀ m w', (lastE (sizeD d) ws = 0 → ∃ b, m = some b ∧ MapOf w' b ws ∧ w.heap.size ≤ b) → Below w.heap.size w w' → R m (lastE (sizeD d) ws) w') : F.wal_Wal_last (some (blk u)) sl w R := by
  apply E.wal_Wal_last
  unfold V.wal_Wal_last
  intro w1
  have hM1 : MapOf w1 w.heap.size [] := MapOf.made w
  have hB1 : Below w.heap.size w w1 := below_fr (Fr.alloc no w _)
  clear_value w1
  have hxl := hx.1
  refine ⟨fun n w' => ∃ m : Nat, n = m ∧ m ≤ ws.length ∧ MapOf w' w.heap.size (ws.take m) ∧ Below w.heap.size w w' ∧ ∀ y ∈ ws.take m, badW (sizeD d) y = 0, fun n _ => (ws.length - n).toNat, ⟨0, rfl, Nat.zero_le _, hM1, hB1, by simp⟩, ?_⟩
  rintro n w2 ⟨m, rfl, hm, hM2, hB2, hok⟩
  refine ⟨fun hlt => ?_, fun hge => ?_⟩
  · have hlt : m < ws.length := by have := of_decide_eq_true hlt; omega
    obtain ⟨a, ha, hc, hcd⟩ := (hx.keep (fr_below hB2) (fun _ _ => id)).2 m ws[m] (by simp [hlt])
    refine ⟨a, ha, by omega, by omega, ws[m].1, by simpa using hc, tx ws[m].2, by simpa using hcd, ?_⟩
    intro w3
    have h3 : w3.heap[w2.heap.size]? = some (.cells ⟨[.int .i64 0, .string sNil]⟩ T.y_api_Write (0, 0)) := heap_new w2 _
    have hF3 : Fr no w2 w3 := Fr.alloc no w2 _
    clear_value w3
    refine ⟨blk_wr0 h3 (by simp), ?_⟩
    intro w4
    have h4 : w4.heap[w2.heap.size]? = some (.cells ⟨[.int .i64 ws[m].1, .string sNil]⟩ T.y_api_Write (0, 0)) := by have := blk_set0 h3 (.int .i64 ws[m].1); simpa using this
    have hF4 : Fr (· = w2.heap.size) w3 w4 := fr_set0 w3 _ _
    clear_value w4
    refine ⟨blk_wr h4 (by simp), ?_⟩
    intro w5
    have h5 : w5.heap[w2.heap.size]? = some (.cells ⟨[.int .i64 ws[m].1, .string (tx ws[m].2)]⟩ T.y_api_Write (0, 0)) := by have := blk_set h4 1 (.string (tx ws[m].2)); simpa using this
    have hF5 : Fr (· = w2.heap.size) w4 w5 := fr_set w4 _ 1 _
    clear_value w5
    intro w6
    have h6 : w6.heap[w2.heap.size]? = some (.cells ⟨[.int .i64 ws[m].1, .string (tx ws[m].2)]⟩ T.y_api_Write (0, 0)) := h5
    have hF6 : Fr (· = w2.heap.size) w4 w6 := hF5.trans (Fr.drew (· = w2.heap.size) w5) (fun _ _ h => h)
    clear_value w6
    have hB26 : Below w2.heap.size w2 w6 := ((below_fr hF3).trans (hF4.toBelow (fun k hk => by have : k = w2.heap.size := hk; omega) hF3.size)).trans (hF6.toBelow (fun k hk => by have : k = w2.heap.size := hk; omega) (by have := hF3.size; have := hF4.size; omega))
    have s2 := hB2.size
    have hB06 := hB2.trans (hB26.mono s2)
    have hM6 := hM2.keep (fr_below hB26) id
    have g0 : w6.cell? (blk w2.heap.size) = some (.int .i64 ws[m].1) := by rw [blk_cell0 h6]; rfl
    have g1 : w6.cell? ((blk w2.heap.size).add 1) = some (.string (tx ws[m].2)) := by rw [blk_cell h6]; rfl
    have hgm : ws[m]? = some ws[m] := by simp [hlt]
    refine ⟨ws[m].1, g0, fun hneg => ⟨g0, ?_⟩, fun hneg => ⟨ws[m].1, g0, Size_wal (h.below hB06) (hd.below hB06) hn ⟨g0, g0, fun hge => ?_, fun hge => ⟨tx ws[m].2, g1, fun hne => ?_, fun hne => ⟨ws[m].1, g0, tx ws[m].2, g1, ?_⟩⟩⟩⟩⟩
    · have hneg := of_decide_eq_true hneg
      have e : badW (sizeD d) ws[m] = 15 := by unfold badW; rw [if_pos (.inl hneg)]
      have e2 := lastE_bad hok hgm (by rw [e]; decide)
      have := hR none w6 (fun h => by rw [e2, e] at h; simp at h) hB06
      rw [e2, e] at this; exact this
    · have hge := of_decide_eq_true hge
      have e : badW (sizeD d) ws[m] = 15 := by unfold badW; rw [if_pos (.inr hge)]
      have e2 := lastE_bad hok hgm (by rw [e]; decide)
      have := hR none w6 (fun h => by rw [e2, e] at h; simp at h) hB06
      rw [e2, e] at this; exact this
    · have hneg := of_decide_eq_false hneg
      have hge := of_decide_eq_false hge
      rw [tx_size] at hne
      have hne : ws[m].2.length ≠ 256 := by have : ((ws[m].2.length : Int)) ≠ 256 := by simpa using hne
                                            omega
      have e : badW (sizeD d) ws[m] = 1 := by unfold badW; rw [if_neg (by omega), if_pos hne]
      have e2 := lastE_bad hok hgm (by rw [e]; decide)
      have := hR none w6 (fun h => by rw [e2, e] at h; simp at h) hB06
      rw [e2, e] at this; exact this
    · have hneg := of_decide_eq_false hneg
      have hge := of_decide_eq_false hge
      rw [tx_size] at hne
      have hne : ws[m].2.length = 256 := by have : ((ws[m].2.length : Int)) = 256 := by simpa using hne
                                            omega
      have e : badW (sizeD d) ws[m] = 0 := by unfold badW; rw [if_neg (by omega), if_neg (by omega)]
      have hs : sizeD d = (d.l.length : Int) - 111 := rfl
      have e1 : w64 ((m : Int) + 1) = ((m + 1 : Nat) : Int) := by rw [w64_id (by omega) (by omega)]; omega
      refine hM6.put (by rw [List.length_take]; omega) (by omega) (by omega) fun w7 hM7 hF7 => ?_
      rw [e1]
      refine ⟨⟨m + 1, rfl, hlt, ?_, hB06.trans (hF7.toBelow (fun k hk => by have : k = w.heap.size := hk; omega) hB06.size), fun y hy => ?_⟩, ?_⟩
      · rw [List.take_succ_eq_append_getElem hlt]; exact hM7
      · rw [List.take_succ_eq_append_getElem hlt] at hy
        rcases List.mem_append.1 hy with hy | hy
        · exact hok y hy
        · simp only [List.mem_cons, List.not_mem_nil, or_false] at hy
          rw [hy]; exact e
      · show ((ws.length : Int) - ((m + 1 : Nat) : Int)).toNat < ((ws.length : Int) - (m : Int)).toNat
        omega
  · have hmm : m = ws.length := by have := of_decide_eq_false hge; omega
    subst hmm
    rw [List.take_length] at hM2 hok
    have e : ws.find? (fun x => decide (badW (sizeD d) x ≠ 0)) = none := by
      rw [List.find?_eq_none]
      intro x hx
      simp [hok x hx]
    refine hM2.len ⟨fun hgt => ?_, fun hgt => ?_⟩
    · have hgt := of_decide_eq_true hgt
      have e2 : lastE (sizeD d) ws = 21 := by unfold lastE; rw [e]; simp only; rw [if_pos (by omega)]
      have := hR none w2 (fun h => by rw [e2] at h; simp at h) hB2
      rw [e2] at this; exact this
    · have hgt := of_decide_eq_false hgt
      have e2 : lastE (sizeD d) ws = 0 := by unfold lastE; rw [e]; simp only; rw [if_neg (by omega)]
      have := hR (some w.heap.size) w2 (fun _ => ⟨_, rfl, hM2, Nat.le_refl _⟩) hB2
      rw [e2] at this; exact this
end

end Go.Proofs.YtmokmbhhnbcelaaGreatDoor

/- wal: Open, Commit; nothing is armed. -/
set_option linter.unusedVariables false
namespace Go.Proofs.YtmokmbhhnbcelaaGreatDoor
open Go Go.Vc Go.RowKit Go.Lib

theorem Open_ok {w : World} {g : Nat} {fp : Nat → Prop} {d : Ds} (hd : Dsk w g fp d) (hoff : d.off = false) (hn1 : 1 ≤ d.l.length) {seq : Int} {ts : List Int} (hr : readHead (d.l.getD 0 []) = (⟨seq, false, ts⟩, 0)) (hl : (d.l.getD 0 []).length ≤ 1000000000)
    {R : Option Addr → Int → World → Prop} (hR : ∀ u w', Wl w' u g ⟨seq, false, 0⟩ → w.heap.size ≤ u → Below w.heap.size w w' → R (some (blk u)) 0 w') : F.wal_Open (some (blk g)) w R := by
  apply E.wal_Open
  unfold V.wal_Open
  obtain ⟨L, S, Wn, hk, rfl⟩ := hd
  refine ⟨fun h => by simp at h, fun _ => Read_disk hk ?_⟩
  have e : mayD d 0 = 0 := by unfold mayD; rw [if_neg (by simp [hoff]), if_neg (by omega)]
  rw [e]
  refine ⟨fun h => by simp at h, fun _ => ?_⟩
  rw [if_pos rfl]
  refine Read_head hl fun l w1 hO1 hbk1 hB1 => ?_
  simp -zeta only [hr] at hO1 ⊢
  intro w2
  have h2 : w2.heap[w1.heap.size]? = some (.cells ⟨[.int .i64 0, .bool false, .slice none 0 0]⟩ T.y_head_Head (0, 0)) := heap_new w1 _
  have hF2 : Fr no w1 w2 := Fr.alloc no w1 _
  clear_value w2
  obtain ⟨k1, k2, k3, h3, hF3⟩ := set3 h2 seq false l
  refine ⟨k1, ?_⟩
  intro _
  refine ⟨k2, ?_⟩
  intro _
  refine ⟨k3, ?_⟩
  intro w3
  have h3 : w3.heap[w1.heap.size]? = some (.cells ⟨[.int .i64 seq, .bool false, .slice l.a l.len l.cap]⟩ T.y_head_Head (0, 0)) := h3
  have hF3 : Fr (· = w1.heap.size) w2 w3 := hF3
  clear_value w3
  obtain ⟨c0, c1, c2⟩ := head3 h3
  refine ⟨fun h => by simp at h, fun _ => ⟨seq, c0, false, c1, l, c2, ?_⟩⟩
  intro w4
  have h4 : w4.heap[w3.heap.size]? = some (.cells ⟨wlCells g l false ⟨seq, false, 0⟩⟩ T.y_wal_Wal (0, 0)) := heap_new w3 _
  have hF4 : Fr no w3 w4 := Fr.alloc no w3 _
  clear_value w4
  have h34 := hF4.heap h3 id
  refine ⟨false, by rw [blk_cell h34]; rfl, fun _ => ?_, fun h => by simp at h⟩
  have s1 := hB1.size
  have s2 := hF2.size
  have s3 := hF3.size
  have hB3 := (hB1.trans ((below_fr hF2).mono s1)).trans (hF3.toBelow (B := w.heap.size) (fun k hk => by have : k = w1.heap.size := hk; omega) (by omega))
  exact hR w3.heap.size w4 ⟨l, false, h4⟩ (by omega) (hB3.trans ((below_fr hF4).mono (by omega)))

/-- what is logged, and what goes home -/
def logN (ts : List Int) (ws : List Wr1) (m : Nat) : List Wr1 := (List.range m).map fun (i : Nat) => (1 + (i : Int), lastW ws (ts.getD i 0))
def homN (ts : List Int) (ws : List Wr1) (m : Nat) : List Wr1 := (List.range m).map fun (i : Nat) => (111 + ts.getD i 0, lastW ws (ts.getD i 0))
theorem logN_succ (ts : List Int) (ws : List Wr1) (m : Nat) : logN ts ws (m + 1) = logN ts ws m ++ [(1 + (m : Int), lastW ws (ts.getD m 0))] := by simp [logN, List.range_succ]
theorem homN_succ (ts : List Int) (ws : List Wr1) (m : Nat) : homN ts ws (m + 1) = homN ts ws m ++ [(111 + ts.getD m 0, lastW ws (ts.getD m 0))] := by simp [homN, List.range_succ]
theorem logN_len (ts : List Int) (ws : List Wr1) (m : Nat) : (logN ts ws m).length = m := by simp [logN]
theorem homN_len (ts : List Int) (ws : List Wr1) (m : Nat) : (homN ts ws m).length = m := by simp [homN]

/-- the disk behind a commit -/
def commitD (d : Ds) (seq : Int) (ws : List Wr1) : Ds :=
  let ts := nextT (keysW ws)
  let d1 := flushD (wrN d (logN ts ws ts.length))
  let d2 := flushD (wr1 d1 (0, headB ⟨seq + 1, true, ts⟩))
  flushD (wr1 (flushD (wrN d2 (homN ts ws ts.length))) (0, headB ⟨seq + 1, false, []⟩))

theorem snoc_ind {α : Type} {P : List α → Prop} (h0 : P []) (hs : ∀ l a, P l → P (l ++ [a])) (l : List α) : P l := by
  rw [← List.reverse_reverse l]
  induction l.reverse with
  | nil => exact h0
  | cons a r ih => rw [List.reverse_cons]; exact hs _ _ ih

theorem lastW_mem : ∀ (ws : List Wr1) (x : Int), x ∈ keysW ws → (x, lastW ws x) ∈ ws := by
  refine snoc_ind (fun x hx => by simp [keysW] at hx) fun ws p ih => ?_
  · intro x hx
    rw [lastW_app]
    by_cases h : p.1 = x
    · rw [if_pos h]
      subst h
      simp
    · rw [if_neg h]
      have : x ∈ keysW ws := by
        simp only [keysW, List.map_append, List.map_cons, List.map_nil, List.mem_append, List.mem_cons, List.not_mem_nil, or_false] at hx ⊢
        rcases hx with hx | hx
        · exact hx
        · exact absurd hx.symm h
      exact List.mem_append.2 (.inl (ih x this))

theorem lastE_zero {n : Int} {ws : List Wr1} (h : lastE n ws = 0) : (∀ x ∈ ws, 0 ≤ x.1 ∧ x.1 < n ∧ x.2.length = 256) ∧ (nextT (keysW ws)).length ≤ 110 := by
  unfold lastE at h
  split at h
  · rename_i x hf
    have := List.find?_some hf
    simp only [ne_eq, decide_eq_true_eq] at this
    exact absurd h this
  · rename_i hf
    rw [List.find?_eq_none] at hf
    refine ⟨fun x hx => ?_, by split at h <;> omega⟩
    have := hf x hx
    simp only [ne_eq, decide_eq_true_eq, Decidable.not_not] at this
    unfold badW at this
    split at this
    · simp at this
    · split at this
      · simp at this
      · omega

theorem targets_ok {n : Int} {ws : List Wr1} (h : lastE n ws = 0) {i : Nat} (hi : i < (nextT (keysW ws)).length) :
    0 ≤ (nextT (keysW ws)).getD i 0 ∧ (nextT (keysW ws)).getD i 0 < n ∧ (lastW ws ((nextT (keysW ws)).getD i 0)).length = 256 := by
  have hm : (nextT (keysW ws)).getD i 0 ∈ keysW ws := by
    rw [← (nextT_up _).2]
    have : (nextT (keysW ws)).getD i 0 = (nextT (keysW ws))[i] := by simp [hi]
    rw [this]; exact List.getElem_mem _
  have := (lastE_zero h).1 _ (lastW_mem ws _ hm)
  exact this

theorem valid_next {seq : Int} {ts : List Int} (h0 : 0 ≤ seq) (h1 : seq ≤ 1099511627776) (hup : Up ts) (hlen : ts.length ≤ 110) (hne : ts ≠ []) (hr : ∀ x ∈ ts, 0 ≤ x ∧ x < 2000) : validH ⟨seq, true, ts⟩ = true := by
  have hpos : 0 < ts.length := List.length_pos_iff.2 hne
  simp only [validH, Bool.and_eq_true, decide_eq_true_eq, List.all_eq_true, List.mem_range]
  refine ⟨h0, h1, hlen, by simp [hpos], fun i hi => ?_⟩
  unfold upTo
  have e : ts[i]? = some ts[i] := by simp [hi]
  rw [e]
  have hx := hr ts[i] (List.getElem_mem _)
  simp only [Bool.and_eq_true, Bool.or_eq_true, decide_eq_true_eq]
  refine ⟨hx.1, hx.2, ?_⟩
  by_cases h0 : i = 0
  · exact .inl h0
  · refine .inr ?_
    have e2 : ts.getD (i - 1) 0 = ts[i - 1] := by simp [show i - 1 < ts.length by omega]
    rw [e2]
    have hp : List.Pairwise (· < ·) ts := by first | exact hup | simpa [Up] using hup
    exact List.pairwise_iff_getElem.1 hp (i - 1) i (by omega) hi (by omega)

set_option maxHeartbeats 4000000 in
theorem Commit_wal {w : World} {u g : Nat} {fp : Nat → Prop} {d : Ds} {seq commits : Int} {sl : Sl} {ws : List Wr1} (h : Wl w u g ⟨seq, false, commits⟩) (hd : Dsk w g fp d) (hoff : d.off = false) (hx : Wrs w sl ws) (hsl : ∀ k, sl.bk k → k < w.heap.size) (hl : ws.length ≤ 1000000)
    (hn : 140 ≤ d.l.length) (hn2 : d.l.length ≤ 2000) (hs0 : 0 ≤ seq) (hs1 : seq < 1099511627776) (hc0 : 0 ≤ commits) (hc1 : commits < 1000000000000) (hm0 : 0 ≤ d.many) (hm : d.many < 999999999000) (hws : d.ws.length ≤ 100000000)
    {R : Int → World → Prop} (hE : ∀ w', lastE (sizeD d) ws ≠ 0 → Below w.heap.size w w' → R (lastE (sizeD d) ws) w') (hN : ∀ w', ws = [] → Below w.heap.size w w' → R 0 w')
    (hR : ∀ fp' w', lastE (sizeD d) ws = 0 → ws ≠ [] → Dsk w' g fp' (commitD d seq ws) → Wl w' u g ⟨seq + 1, false, commits + 1⟩ → Gr (fun k => fp k ∨ k = u) (fun k => fp' k ∨ k = u) w w' → R 0 w') : F.wal_Wal_Commit (some (blk u)) sl w R := by
  apply E.wal_Wal_Commit
  unfold V.wal_Wal_Commit
  refine ⟨fun h => by simp at h, fun _ => Up_wal h ⟨fun hu => by simp at hu, fun _ => last_wal h hd (by omega) hx hsl hl fun m w1 hm1 hB1 => ⟨fun hne => ?_, fun heq => ?_⟩⟩⟩
  · have hne : lastE (sizeD d) ws ≠ 0 := by simpa using hne
    exact hE w1 hne hB1
  have hE0 : lastE (sizeD d) ws = 0 := by simpa using heq
  obtain ⟨b, rfl, hM1, hb⟩ := hm1 hE0
  refine hM1.len ⟨fun hz => ?_, fun hz => ?_⟩
  · rw [hE0]
    refine hN w1 ?_ hB1
    have hz : (nextT (keysW ws)).length = 0 := by have : ((nextT (keysW ws)).length : Int) = 0 := by simpa using hz
                                                  omega
    cases ws with
    | nil => rfl
    | cons p r =>
      have : p.1 ∈ nextT (keysW (p :: r)) := by rw [(nextT_up _).2]; simp [keysW]
      rw [List.eq_nil_of_length_eq_zero hz] at this
      simp at this
  have hne : ws ≠ [] := by
    intro e
    subst e
    have : (nextT (keysW [])).length = 0 := Nat.le_zero.1 (nextT_len _)
    rw [this] at hz
    simp at hz
  have htne : nextT (keysW ws) ≠ [] := by
    intro e
    rw [e] at hz
    simp at hz
  obtain ⟨hall, hlen⟩ := lastE_zero hE0
  have htok := fun i hi => targets_ok (i := i) hE0 hi
  have hup := (nextT_up (keysW ws)).1
  generalize hts : nextT (keysW ws) = ts at *
  have hsz : sizeD d = (d.l.length : Int) - 111 := rfl
  have htr : ∀ x ∈ ts, 0 ≤ x ∧ x < 2000 := fun x hx => by
    obtain ⟨i, hi, rfl⟩ := List.mem_iff_getElem.1 hx
    have := htok i hi
    have e : ts.getD i 0 = ts[i] := by simp [hi]
    rw [e] at this
    omega
  obtain ⟨inf, hi, hz', hs1', hby⟩ := info_wr
  refine KeysSorted_spec hM1 hl fun l1 w2 hO2 hbk2 hB2 => ?_
  rw [hts] at hO2
  have hM2 := hM1.keep (fr_below hB2) id
  have s1 := hB1.size
  have s2 := hB2.size
  have hbl := hM1.lt
  have hI2 := Own.ints hO2
  have hll : l1.len = ts.length := hI2.1
  refine ⟨fun lg ho n w' => ∃ m : Nat, n = m ∧ m ≤ ts.length ∧ Own w' T.y_api_Write 2 lg (wrCells (logN ts ws m)) ∧ Own w' T.y_api_Write 2 ho (wrCells (homN ts ws m)) ∧ (∀ k, lg.bk k → w2.heap.size ≤ k) ∧ (∀ k, ho.bk k → w2.heap.size ≤ k) ∧ (∀ k, lg.bk k → ¬ ho.bk k) ∧ Below w2.heap.size w2 w', fun _ _ n _ => (ts.length - n).toNat,
    ⟨0, rfl, Nat.zero_le _, Own.nil _ _ _, Own.nil _ _ _, fun k hk => bk_nil hk, fun k hk => bk_nil hk, fun k hk => bk_nil hk, Below.refl _ _⟩, ?_⟩
  rintro lg ho n w3 ⟨m, rfl, hm', hL3, hH3, hlb, hhb, hlh, hB3⟩
  have s3 := hB3.size
  have hM3 := hM2.keep (fr_below hB3) id
  refine ⟨fun hlt => ?_, fun hge => ?_⟩
  · have hlt : m < ts.length := by have := of_decide_eq_true hlt; omega
    obtain ⟨a, ha, hc⟩ := (hI2.below hB3).2 m ts[m] (by simp [hlt])
    have eg : ts.getD m 0 = ts[m] := by simp [hlt]
    have ht := htok m hlt
    rw [eg] at ht
    have e1 : w64 ((1 : Int) + (m : Int)) = 1 + (m : Int) := w64_id (by omega) (by omega)
    have e2 : w64 ((111 : Int) + ts[m]) = 111 + ts[m] := w64_id (by omega) (by omega)
    have e3 : w64 ((m : Int) + 1) = ((m + 1 : Nat) : Int) := by rw [w64_id (by omega) (by omega)]; omega
    refine ⟨a, ha, by omega, by omega, ts[m], by simpa using hc, hM3.look (by omega) ?_⟩
    rw [e1, e3]
    intro w4
    have h4 : w4.heap[w3.heap.size]? = some (.cells ⟨wrCells [(1 + (m : Int), lastW ws ts[m])]⟩ T.y_api_Write (0, 0)) := heap_new w3 _
    have hF4 : Fr no w3 w4 := Fr.alloc no w3 _
    have hz4 : w4.heap.size = w3.heap.size + 1 := by simp [w4]
    clear_value w4
    have hL4 := hL3.keep hF4 (fun _ _ => id)
    have hH4 := hH3.keep hF4 (fun _ _ => id)
    have hlgl : lg.len = m := by rw [(Own.wrs hL4).1, logN_len]
    have hhol : ho.len = m := by rw [(Own.wrs hH4).1, homN_len]
    refine runT_append und_wr hi hz' hs1' hby rfl (by decide) hL4 (m := 1) (news := wrCells [(1 + (m : Int), lastW ws ts[m])]) rfl (fun j u hu => by rw [blk_cell h4 j]; exact hu) (wrCells_one _) (by simp only [maxLen]; omega) (by omega) fun lg' w5 hL5 hl5 hF5 hM5 => ?_
    rw [← wrCells_app] at hL5
    have s5 := hF5.size
    have hM4 := hM3.keep hF4 id
    have hM5' := hM4.keep hF5 (fun hk => by have := hlb b hk; omega)
    refine hM5'.look (by omega) ?_
    rw [e2]
    intro w6
    have h6 : w6.heap[w5.heap.size]? = some (.cells ⟨wrCells [(111 + ts[m], lastW ws ts[m])]⟩ T.y_api_Write (0, 0)) := heap_new w5 _
    have hF6 : Fr no w5 w6 := Fr.alloc no w5 _
    have hz6 : w6.heap.size = w5.heap.size + 1 := by simp [w6]
    clear_value w6
    have hH6 := (hH4.keep hF5 (fun k hk hk' => hlh k hk' hk)).keep hF6 (fun _ _ => id)
    have hL6 := hL5.keep hF6 (fun _ _ => id)
    refine runT_append und_wr hi hz' hs1' hby rfl (by decide) hH6 (m := 1) (news := wrCells [(111 + ts[m], lastW ws ts[m])]) rfl (fun j u hu => by rw [blk_cell h6 j]; exact hu) (wrCells_one _) (by simp only [maxLen]; omega) (by omega) fun ho' w7 hH7 hl7 hF7 hM7 => ?_
    rw [← wrCells_app] at hH7
    have hl' : ∀ k, lg'.bk k → lg.bk k ∨ (w4.heap.size ≤ k ∧ k < w5.heap.size) := fun k hk => by
      have hlt' := hL5.lt hk
      rcases moved_bk hM5 hk with hh | hh
      · exact .inl hh
      · exact .inr ⟨hh, hlt'⟩
    have hh' : ∀ k, ho'.bk k → ho.bk k ∨ w6.heap.size ≤ k := fun k hk => moved_bk hM7 hk
    have hlg3 : ∀ k, lg.bk k → k < w3.heap.size := fun k hk => hL3.lt hk
    have hho3 : ∀ k, ho.bk k → k < w3.heap.size := fun k hk => hH3.lt hk
    have hap : ∀ k, lg'.bk k → ¬ ho.bk k := fun k hk hk' => by
      rcases hl' k hk with q | q
      · exact hlh k q hk'
      · have := hho3 k hk'; omega
    have hL7 := hL6.keep hF7 hap
    rw [← eg, ← logN_succ] at hL7
    rw [← eg, ← homN_succ] at hH7
    refine ⟨⟨m + 1, rfl, hlt, hL7, hH7, fun k hk => ?_, fun k hk => ?_, fun k hk hk' => ?_, ?_⟩, ?_⟩
    · rcases hl' k hk with q | q
      · exact hlb k q
      · omega
    · rcases hh' k hk with q | q
      · exact hhb k q
      · omega
    · rcases hh' k hk' with q | q
      · exact hap k hk q
      · rcases hl' k hk with r | r
        · have := hlg3 k r; omega
        · omega
    · have b4 := hB3.trans ((below_fr hF4).mono s3)
      have b5 := b4.trans (hF5.toBelow (B := w2.heap.size) hlb (by omega))
      have b6 := b5.trans ((below_fr hF6).mono (by omega))
      exact b6.trans (hF7.toBelow (B := w2.heap.size) hhb (by omega))
    · show ((ts.length : Int) - ((m + 1 : Nat) : Int)).toNat < ((ts.length : Int) - (m : Int)).toNat
      omega
  have hmm : m = ts.length := by have := of_decide_eq_false hge; omega
  subst hmm
  have hB13 := hB2.trans (hB3.mono s2)
  have hB03 := hB1.trans (hB13.mono s1)
  have hd3 := hd.below hB03
  have hu3 := h.below hB03
  have hlogl := logN_len ts ws ts.length
  have hhoml := homN_len ts ws ts.length
  have nfp : ∀ k, w.heap.size ≤ k → ¬ fp k := fun k hk hf => by have := hd.lt hf; omega
  have hul : u < w.heap.size := h.lt
  refine put_wal hu3 hd3 hoff (Own.wrs hL3) (fun k hk => ⟨hL3.lt hk, nfp k (by have := hlb k hk; omega)⟩) (fun x hx => ?_) (by omega) hm0 (by omega) (by omega) fun fp4 w4 hd4 hG4 hu4 => ⟨fun _ => ?_, fun h => by simp at h⟩
  · simp only [logN, List.mem_map, List.mem_range] at hx
    obtain ⟨i, hi', rfl⟩ := hx
    have := htok i hi'
    exact ⟨by show (0 : Int) ≤ 1 + (i : Int); omega, by show 1 + (i : Int) < _; omega, this.2.2⟩
  obtain ⟨bb, l4, c2, c3⟩ := hu4.c23
  have hI4 := (hI2.below hB3).keep hG4.fr (fun k hk => nfp k (by have := hbk2 k hk; omega))
  have hH4 := hH3.keep hG4.fr (fun k hk => nfp k (by have := hhb k hk; omega))
  have s4 := hG4.size
  refine ⟨blk u, rfl, seq, hu4.c1, bb, c2, l4, c3, Next_head hI4 (by omega) (by omega) (by omega) fun l5 w5 hO5 hbk5 hB5 => ?_⟩
  have en : nextT ts = ts := up_ext (nextT_up ts).1 hup (nextT_up ts).2
  rw [en] at hO5
  have hv := valid_next (seq := seq + 1) (ts := ts) (by omega) (by omega) hup hlen htne htr
  obtain ⟨q1, q2, q3, q4, q5⟩ := wrN_facts d (logN ts ws ts.length)
  have d4l : (flushD (wrN d (logN ts ws ts.length))).l.length = d.l.length := q1
  have d4o : (flushD (wrN d (logN ts ws ts.length))).off = false := by rw [← hoff]; exact q2
  have d4m : (flushD (wrN d (logN ts ws ts.length))).many = d.many + ts.length := by have := q3; rw [hlogl] at this; exact this
  have d4w : (flushD (wrN d (logN ts ws ts.length))).ws = [] := rfl
  generalize hd4e : flushD (wrN d (logN ts ws ts.length)) = d4 at *
  refine putHead_wal (hu4.below hB5) (hd4.below hB5) d4o (Own.ints hO5) (fun k hk => hO5.lt hk) hv (by omega) (by omega) (by omega) (by omega) (by rw [d4w]; simp) fun fp6 w6 hd6 hG6 hu6 => ⟨fun _ => ?_, fun h => by simp at h⟩
  have d6l : (flushD (wr1 d4 (0, headB ⟨seq + 1, true, ts⟩))).l.length = d.l.length := by show (d4.l.set _ _).length = _; rw [List.length_set, d4l]
  have d6o : (flushD (wr1 d4 (0, headB ⟨seq + 1, true, ts⟩))).off = false := d4o
  have d6m : (flushD (wr1 d4 (0, headB ⟨seq + 1, true, ts⟩))).many = d.many + ts.length + 1 := by show d4.many + 1 = _; omega
  have d6w : (flushD (wr1 d4 (0, headB ⟨seq + 1, true, ts⟩))).ws = [] := rfl
  generalize hd6e : flushD (wr1 d4 (0, headB ⟨seq + 1, true, ts⟩)) = d6 at *
  have s5 := hB5.size
  have nfp4 : ∀ k, ho.bk k → ¬ fp4 k := fun k hk => hG4.out (hH3.lt hk) (nfp k (by have := hhb k hk; omega))
  have nu : ∀ k, ho.bk k → ¬ k = u := fun k hk he => by have := hhb k hk; omega
  have nfp5 : ∀ k, ho.bk k → ¬ (fp4 k ∨ k = u) := fun k hk hor => hor.elim (nfp4 k hk) (nu k hk)
  have hH5 := hH4.keep (fr_below hB5) (fun _ _ => id)
  have hH6 := hH5.keep hG6.fr nfp5
  refine write_wal hu6 hd6 d6o (Own.wrs hH6) (fun k hk => ⟨hH6.lt hk, fun hf => hG6.out (hH5.lt hk) (nfp5 k hk) (.inl hf)⟩) (fun x hx => ?_) (by omega) (by omega) ⟨by show 0 ≤ seq + 1; omega, by show seq + 1 ≤ _; omega⟩ (by omega) (by omega) (by rw [d6w, hhoml]; simp only [List.length_nil]; omega) fun fp7 w7 hd7 hG7 hu7 => ⟨fun h => by simp at h, fun _ => ?_⟩
  · simp only [homN, List.mem_map, List.mem_range] at hx
    obtain ⟨i, hi', rfl⟩ := hx
    have := htok i hi'
    exact ⟨by show (0 : Int) ≤ 111 + ts.getD i 0; omega, by show 111 + ts.getD i 0 < _; omega, this.2.2⟩
  have hG37 := (((hG4.more (· = u)).trans (Gr.below hB5)).trans hG6).trans hG7
  have hG07 := (Gr.below (fp := fun k => fp k ∨ k = u) hB03).trans hG37
  have hnu : ¬ fp7 u := hu7.apart hd7
  obtain ⟨l7, f7, o7⟩ := hu7
  refine ⟨blk u, rfl, commits, by rw [blk_cell o7]; rfl, blk u, rfl, blk_wr o7 (by simp [wlCells]), ?_⟩
  rw [w64_id (by omega) (by omega)]
  intro w8
  have o8 : w8.heap[u]? = some (.cells ⟨wlCells g l7 f7 ⟨seq + 1, false, commits + 1⟩⟩ T.y_wal_Wal (0, 0)) := by have := blk_set o7 5 (.int .i64 (commits + 1)); exact this
  have hF8 : Fr (· = u) w7 w8 := fr_set w7 u 5 _
  clear_value w8
  have ec : commitD d seq ws = flushD (wr1 (flushD (wrN d6 (homN ts ws ts.length))) (0, headB ⟨seq + 1, false, []⟩)) := by
    simp only [commitD, hts]
    rw [hd4e, hd6e]
  refine hR fp7 w8 hE0 hne ?_ ⟨l7, f7, o8⟩ (hG07.trans (Gr.of (hF8.mono fun _ _ h => .inr h)))
  rw [ec]
  exact hd7.keep hF8 (fun k hk he => hnu (by have : k = u := he; exact this ▸ hk))

end Go.Proofs.YtmokmbhhnbcelaaGreatDoor
