/- wal: put, putHead, write, Size, Up, Read, last; nothing is armed. -/
import Derived.Test.YtmokmbhhnbcelaaGreatDoorDm
set_option linter.unusedVariables false
namespace Go.Proofs.YtmokmbhhnbcelaaGreatDoor
open Go Go.Vc Go.RowKit Go.Lib
/-- what owned fp owns fp' now, and nothing else has turned -/
structure Gr (fp fp' : Nat → Prop) (w w' : World) : Prop where
 fr : Fr fp w w'
 new : ∀ k, fp' k → fp k ∨ w.heap.size ≤ k
theorem Gr.trans {a b c : Nat → Prop} {w w1 w2 : World} (h : Gr a b w w1) (k : Gr b c w1 w2) : Gr a c w w2 :=
 ⟨h.fr.trans k.fr fun i hi hb => (h.new i hb).resolve_right (by omega), fun i hc => by
   rcases k.new i hc with hb | hb
   · exact h.new i hb
   · exact .inr (Nat.le_trans h.fr.size hb)⟩
theorem Gr.below {fp : Nat → Prop} {w w' : World} (h : Below w.heap.size w w') : Gr fp fp w w' := ⟨(fr_below h).mono fun _ _ hk => hk.elim, fun _ hk => .inl hk⟩
theorem Gr.more {a b : Nat → Prop} {w w' : World} (h : Gr a b w w') (c : Nat → Prop) : Gr (fun k => a k ∨ c k) (fun k => b k ∨ c k) w w' :=
 ⟨h.fr.mono fun _ _ hk => .inl hk, fun k hk => by
   rcases hk with hk | hk
   · rcases h.new k hk with h2 | h2
     · exact .inl (.inl h2)
     · exact .inr h2
   · exact .inl (.inr hk)⟩
theorem Gr.of {a : Nat → Prop} {w w' : World} (h : Fr a w w') : Gr a a w w' := ⟨h, fun _ hk => .inl hk⟩
theorem Gr.size {a b : Nat → Prop} {w w' : World} (h : Gr a b w w') : w.heap.size ≤ w'.heap.size := h.fr.size
theorem Gr.out {a b : Nat → Prop} {w w' : World} (h : Gr a b w w') {k : Nat} (hk : k < w.heap.size) (hn : ¬ a k) : ¬ b k := fun hb => by
 rcases h.new k hb with h2 | h2
 · exact hn h2
 · omega
/-- a disk whose blocks are fp -/
def Dsk (w : World) (g : Nat) (fp : Nat → Prop) (d : Ds) : Prop := ∃ L S Wn, Dk w g L S Wn d ∧ fp = fpD g L S Wn
theorem Dsk.keep {w w' : World} {g : Nat} {fp : Nat → Prop} {d : Ds} (h : Dsk w g fp d) {Z : Nat → Prop} (hf : Fr Z w w') (hz : ∀ k, fp k → ¬ Z k) : Dsk w' g fp d := by
 obtain ⟨L, S, Wn, hk, rfl⟩ := h
 exact ⟨L, S, Wn, hk.keep hf hz, rfl⟩
theorem Dsk.below {w w' : World} {g : Nat} {fp : Nat → Prop} {d : Ds} (h : Dsk w g fp d) (hB : Below w.heap.size w w') : Dsk w' g fp d := h.keep (fr_below hB) (fun _ _ => id)
theorem Dsk.lt {w : World} {g : Nat} {fp : Nat → Prop} {d : Ds} (h : Dsk w g fp d) {k : Nat} (hk : fp k) : k < w.heap.size := by
 obtain ⟨L, S, Wn, h, rfl⟩ := h
 exact h.lt hk
theorem Dsk.apart {w : World} {g : Nat} {fp : Nat → Prop} {d : Ds} (h : Dsk w g fp d) {k : Nat} {cs : Array Value} {t : TypeId} (hk : w.heap[k]? = some (.cells cs t (0, 0))) (h1 : t ≠ T.y_disk_Disk) (h2 : t ≠ T.y_string) (h3 : t ≠ T.y_api_Write) : ¬ fp k := by
 obtain ⟨L, S, Wn, h, rfl⟩ := h
 intro hf
 rcases hf with rfl | hf | hf | hf
 · exact typ_ne hk h.obj h1
 · obtain ⟨_, ht⟩ := Own.typ h.ol hf; exact typ_ne hk ht h2
 · obtain ⟨_, ht⟩ := Own.typ h.os hf; exact typ_ne hk ht h2
 · obtain ⟨_, ht⟩ := Own.typ h.ow hf; exact typ_ne hk ht h3
def flushD (d : Ds) : Ds := { d with safe := d.l, ws := [] }
/-- a Wal's own block -/
structure WlS where
 seq : Int
 down : Bool
 commits : Int
def wlCells (g : Nat) (l : Sl) (f : Bool) (s : WlS) : List Value := [.pointer (some (blk g)), .int .i64 s.seq, .bool f, slV l, .bool s.down, .int .i64 s.commits]
def Wl (w : World) (u g : Nat) (s : WlS) : Prop := ∃ l f, w.heap[u]? = some (.cells ⟨wlCells g l f s⟩ T.y_wal_Wal (0, 0))
theorem Wl.keep {w w' : World} {u g : Nat} {s : WlS} (h : Wl w u g s) {Z : Nat → Prop} (hf : Fr Z w w') (hz : ¬ Z u) : Wl w' u g s := by
 obtain ⟨l, f, h⟩ := h
 exact ⟨l, f, hf.heap h hz⟩
theorem Wl.below {w w' : World} {u g : Nat} {s : WlS} (h : Wl w u g s) (hB : Below w.heap.size w w') : Wl w' u g s := h.keep (fr_below hB) id
theorem Wl.lt {w : World} {u g : Nat} {s : WlS} (h : Wl w u g s) : u < w.heap.size := by
 obtain ⟨l, f, h⟩ := h; exact heap_lt h
theorem Wl.apart {w : World} {u g g' : Nat} {s : WlS} {fp : Nat → Prop} {d : Ds} (h : Wl w u g s) (hd : Dsk w g' fp d) : ¬ fp u := by
 obtain ⟨l, f, h⟩ := h
 exact hd.apart h (by decide) (by decide) (by decide)
section
variable {w : World} {u g : Nat} {s : WlS} {fp : Nat → Prop} {d : Ds}
theorem Wl.c0 (h : Wl w u g s) : w.cell? (blk u) = some (.pointer (some (blk g))) := by obtain ⟨l, f, h⟩ := h; rw [blk_cell0 h]; rfl
theorem Wl.c4 (h : Wl w u g s) : w.cell? ((blk u).add 4) = some (.bool s.down) := by obtain ⟨l, f, h⟩ := h; rw [blk_cell h]; rfl
theorem Wl.c1 (h : Wl w u g s) : w.cell? ((blk u).add 1) = some (.int .i64 s.seq) := by obtain ⟨l, f, h⟩ := h; rw [blk_cell h]; rfl
theorem Wl.c23 (h : Wl w u g s) : ∃ (b : Bool) (l : Sl), w.cell? (((blk u).add 1).add 1) = some (.bool b) ∧ w.cell? (((blk u).add 1).add 2) = some (.slice l.a l.len l.cap) := by
 obtain ⟨l, f, h⟩ := h
 refine ⟨f, l, ?_, ?_⟩
 · rw [add_add, blk_cell h]; rfl
 · rw [add_add, blk_cell h]; rfl
theorem Up_wal (h : Wl w u g s) {R : Bool → World → Prop} (hR : R (!s.down) w) : F.wal_Wal_Up (some (blk u)) w R := by
 apply E.wal_Wal_Up
 unfold V.wal_Wal_Up
 exact ⟨fun _ => ⟨blk u, rfl, s.down, h.c4, hR⟩, fun h => by simp at h⟩
def sizeD (d : Ds) : Int := (d.l.length : Int) - 111
theorem Size_wal (h : Wl w u g s) (hd : Dsk w g fp d) (hn : d.l.length ≤ 1000000) {R : Int → World → Prop} (hR : R (sizeD d) w) : F.wal_Wal_Size (some (blk u)) w R := by
 apply E.wal_Wal_Size
 unfold V.wal_Wal_Size
 obtain ⟨L, S, Wn, hk, rfl⟩ := hd
 refine ⟨fun h => by simp at h, fun _ => ⟨blk u, rfl, some (blk g), h.c0, Size_disk hk ?_⟩⟩
 rw [w64_id (by omega) (by omega)]
 exact hR
def readE (d : Ds) (down : Bool) (at_ : Int) : Int := if down then 14 else if at_ < 0 ∨ sizeD d ≤ at_ then 15 else if d.off then 14 else 0
theorem Read_wal (h : Wl w u g s) (hd : Dsk w g fp d) (hn : d.l.length ≤ 1000000) {at_ : Int} {R : ByteArray → Int → World → Prop}
   (hR : R (tx (if readE d s.down at_ = 0 then d.l.getD (111 + at_.toNat) [] else [])) (readE d s.down at_) w) : F.wal_Wal_Read (some (blk u)) at_ w R := by
 apply E.wal_Wal_Read
 unfold V.wal_Wal_Read
 refine ⟨fun h => by simp at h, fun _ => Up_wal h ⟨fun hu => ?_, fun hu => ?_⟩⟩
 · have hu : s.down = true := by simpa using hu
   simp only [readE, hu, if_true] at hR
   exact hR
 have hu : s.down = false := by simpa using hu
 rw [hu] at hR
 refine ⟨fun hlt => ?_, fun hlt => Size_wal h hd hn ⟨fun hge => ?_, fun hge => ⟨blk u, rfl, some (blk g), h.c0, ?_⟩⟩⟩
 · have hlt := of_decide_eq_true hlt
   have e : readE d false at_ = 15 := by unfold readE; rw [if_neg (by decide), if_pos (.inl hlt)]
   rw [e] at hR; exact hR
 · have hge := of_decide_eq_true hge
   have e : readE d false at_ = 15 := by unfold readE; rw [if_neg (by decide), if_pos (.inr hge)]
   rw [e] at hR; exact hR
 · have hlt := of_decide_eq_false hlt
   have hge := of_decide_eq_false hge
   have hs : sizeD d = (d.l.length : Int) - 111 := rfl
   obtain ⟨L, S, Wn, hk, rfl⟩ := hd
   rw [w64_id (by omega) (by omega)]
   refine Read_disk hk ?_
   have e : readE d false at_ = mayD d (111 + at_) := by
     unfold readE mayD
     rw [if_neg (by decide), if_neg (by omega)]
     by_cases ho : d.off = true
     · rw [if_pos ho, if_pos ho]
     · rw [if_neg ho, if_neg ho, if_neg (by omega)]
   rw [e] at hR
   have e2 : (111 + at_).toNat = 111 + at_.toNat := by omega
   rw [e2]; exact hR
/-- writes that are made safe at once -/
theorem put_wal {sl : Sl} {xs : List Wr1} (h : Wl w u g s) (hd : Dsk w g fp d) (hoff : d.off = false) (hx : Wrs w sl xs) (hsl : ∀ k, sl.bk k → k < w.heap.size ∧ ¬ fp k) (hok : OkW d.l.length xs) (hn : d.l.length ≤ 1000000) (hm0 : 0 ≤ d.many) (hm : d.many + xs.length < 1000000000000) (hws : d.ws.length + xs.length ≤ 1000000000)
   {R : Int → World → Prop} (hR : ∀ fp' w', Dsk w' g fp' (flushD (wrN d xs)) → Gr fp fp' w w' → Wl w' u g s → R 0 w') : F.wal_Wal_put (some (blk u)) sl w R := by
 apply E.wal_Wal_put
 unfold V.wal_Wal_put
 have hu := h.apart hd
 obtain ⟨L, S, Wn, hk, rfl⟩ := hd
 refine ⟨blk u, rfl, some (blk g), h.c0, Write_disk hk hoff hx hsl hok hm0 hm hws fun Wn1 w1 h1 hb1 hF1 => ⟨fun h => by simp at h, fun _ => ?_⟩⟩
 have hw1 := h.keep hF1 hu
 obtain ⟨f1, f2, f3, f4, f5⟩ := wrN_facts d xs
 refine ⟨blk u, rfl, some (blk g), hw1.c0, Flush_disk h1 (by rw [f2]; exact hoff) (by rw [f1]; exact hn) fun S2 w2 h2 hb2 hF2 => ?_⟩
 have hug : ¬ u = g := fun e => hu (.inl e)
 have s1 := hF1.size
 refine hR _ w2 ⟨L, S2, ⟨none, 0, 0⟩, h2, rfl⟩ ⟨hF1.trans hF2 fun i _ hi => .inl hi, fun k hk => ?_⟩ (hw1.keep hF2 hug)
 rcases hk with hk | hk | hk | hk
 · exact .inl (.inl hk)
 · exact .inl (.inr (.inl hk))
 · exact .inr (by have := hb2 k hk; omega)
 · exact bk_nil hk
def headB (h : Hd) : Bs := (layHead h).1
theorem headB_len {h : Hd} (hv : validH h = true) : (headB h).length = 256 := by
 have e : layHead h = (sealS 256 (headBytes h), 0) := by simp only [layHead, hv, if_true]
 unfold headB
 rw [e]
 simp only
 rw [sealS_len (by decide)]
 rw [headBytes_len]
 simp only [validH, Bool.and_eq_true, decide_eq_true_eq] at hv
 omega
theorem putHead_wal {seq : Int} {full : Bool} {tl : Sl} {ts : List Int} (h : Wl w u g s) (hd : Dsk w g fp d) (hoff : d.off = false) (hT : Ints w tl ts) (htl : ∀ k, tl.bk k → k < w.heap.size) (hv : validH ⟨seq, full, ts⟩ = true) (hn : d.l.length ≤ 1000000) (hn1 : 1 ≤ d.l.length) (hm0 : 0 ≤ d.many) (hm : d.many + 1 < 1000000000000) (hws : d.ws.length + 1 ≤ 1000000000)
   {R : Int → World → Prop} (hR : ∀ fp' w', Dsk w' g fp' (flushD (wr1 d (0, headB ⟨seq, full, ts⟩))) → Gr (fun k => fp k ∨ k = u) (fun k => fp' k ∨ k = u) w w' → Wl w' u g { s with seq := seq } → R 0 w') : F.wal_Wal_putHead (some (blk u)) seq full tl w R := by
 apply E.wal_Wal_putHead
 unfold V.wal_Wal_putHead
 intro w1
 have h1 : w1.heap[w.heap.size]? = some (.cells ⟨[.int .i64 seq, .bool full, .slice tl.a tl.len tl.cap]⟩ T.y_head_Head (0, 0)) := heap_new w _
 have hB1 : Below w.heap.size w w1 := below_fr (Fr.alloc no w _)
 have hz1 : w1.heap.size = w.heap.size + 1 := by simp [w1]
 clear_value w1
 obtain ⟨c0, c1, c2⟩ := head3 h1
 have hlen := headB_len hv
 have e : layHead ⟨seq, full, ts⟩ = (headB ⟨seq, full, ts⟩, 0) := by simp only [headB, layHead, hv, if_true]
 refine ⟨seq, c0, full, c1, tl, c2, Lay_head (hT.below hB1) (fun k hk => by have := htl k hk; omega) fun w2 hB2 => ?_⟩
 rw [e]
 refine ⟨fun h => by simp at h, fun _ => ?_⟩
 intro w3
 have h3 : w3.heap[w2.heap.size]? = some (.cells ⟨wrCells [(0, headB ⟨seq, full, ts⟩)]⟩ T.y_api_Write (0, 0)) := heap_new w2 _
 have hF3 : Fr no w2 w3 := Fr.alloc no w2 _
 have hz3 : w3.heap.size = w2.heap.size + 1 := by simp [w3]
 clear_value w3
 have s2 := hB2.size
 have hB13 := hB2.trans ((below_fr hF3).mono s2)
 have hB03 := hB1.trans (hB13.mono (by omega))
 have d3 := hd.below hB03
 have u3 := h.below hB03
 have hd3 := (fr_below hB13).heap h1 id
 refine put_wal u3 d3 hoff (Wrs.row (ws := [(0, headB ⟨seq, full, ts⟩)]) h3 1 1 rfl) (fun k hk => by
   obtain ⟨a, ha, rfl⟩ := hk
   injection ha with ha
   subst ha
   exact ⟨heap_lt h3, fun hf => by have := hd.lt hf; have : (blk w2.heap.size).block = w2.heap.size := rfl; omega⟩) (fun x hx => by
     simp only [List.mem_cons, List.not_mem_nil, or_false] at hx
     subst hx
     exact ⟨Int.le_refl _, by show (0 : Int) < _; omega, hlen⟩) hn hm0 (by simpa using hm) (by simpa using hws) fun fp' w4 h4 hG4 hu4 => ⟨fun h => by simp at h, fun _ => ?_⟩
 have hh4 := hG4.fr.heap hd3 (fun hf => by have := hd.lt hf; omega)
 obtain ⟨k0, k1, k2⟩ := head3 hh4
 obtain ⟨l4, f4, o4⟩ := hu4
 refine ⟨seq, k0, full, k1, tl, k2, blk u, rfl, blk_wr o4 (by simp [wlCells]), ?_⟩
 intro w5
 have o5 : w5.heap[u]? = some (.cells ⟨wlCells g l4 f4 { s with seq := seq }⟩ T.y_wal_Wal (0, 0)) := by have := blk_set o4 1 (.int .i64 seq); exact this
 have f5 : Fr (· = u) w4 w5 := fr_set w4 u 1 _
 clear_value w5
 refine ⟨by rw [add_add]; exact blk_wr o5 (by simp [wlCells]), ?_⟩
 rw [add_add]
 intro w6
 have o6 : w6.heap[u]? = some (.cells ⟨wlCells g l4 full { s with seq := seq }⟩ T.y_wal_Wal (0, 0)) := by have := blk_set o5 2 (.bool full); exact this
 have f6 : Fr (· = u) w5 w6 := fr_set w5 u 2 _
 clear_value w6
 refine ⟨by rw [add_add]; exact blk_wr o6 (by simp [wlCells]), ?_⟩
 rw [add_add]
 intro w7
 have o7 : w7.heap[u]? = some (.cells ⟨wlCells g tl full { s with seq := seq }⟩ T.y_wal_Wal (0, 0)) := by have := blk_set o6 3 (.slice tl.a tl.len tl.cap); exact this
 have f7 : Fr (· = u) w6 w7 := fr_set w6 u 3 _
 clear_value w7
 have f47 : Fr (· = u) w4 w7 := (f5.trans (S' := (· = u)) f6 fun _ _ h => h).trans (S' := (· = u)) f7 fun _ _ h => h
 have hnu : ¬ fp' u := hG4.out u3.lt (u3.apart d3)
 refine hR fp' w7 (h4.keep f47 (fun k hk he => hnu (by have : k = u := he; exact this ▸ hk))) ?_ ⟨tl, full, o7⟩
 exact ((Gr.below (fp := fun k => fp k ∨ k = u) hB03).trans (hG4.more (· = u))).trans (Gr.of (f47.mono fun _ _ h => .inr h))
theorem write_wal {sl : Sl} {xs : List Wr1} (h : Wl w u g s) (hd : Dsk w g fp d) (hoff : d.off = false) (hx : Wrs w sl xs) (hsl : ∀ k, sl.bk k → k < w.heap.size ∧ ¬ fp k) (hok : OkW d.l.length xs) (hn : d.l.length ≤ 1000000) (hn1 : 1 ≤ d.l.length) (hs : 0 ≤ s.seq ∧ s.seq ≤ 1099511627776) (hm0 : 0 ≤ d.many) (hm : d.many + xs.length + 1 < 1000000000000) (hws : d.ws.length + xs.length ≤ 1000000000)
   {R : Int → World → Prop} (hR : ∀ fp' w', Dsk w' g fp' (flushD (wr1 (flushD (wrN d xs)) (0, headB ⟨s.seq, false, []⟩))) → Gr (fun k => fp k ∨ k = u) (fun k => fp' k ∨ k = u) w w' → Wl w' u g s → R 0 w') : F.wal_Wal_write (some (blk u)) sl w R := by
 apply E.wal_Wal_write
 unfold V.wal_Wal_write
 refine put_wal h hd hoff hx hsl hok hn hm0 (by omega) hws fun fp1 w1 h1 hG1 hu1 => ⟨fun h => by simp at h, fun _ => ?_⟩
 obtain ⟨b, l, c2, c3⟩ := hu1.c23
 obtain ⟨f1, f2, f3, f4, f5⟩ := wrN_facts d xs
 refine ⟨blk u, rfl, s.seq, hu1.c1, b, c2, l, c3, Done_head fun w2 hB2 => ?_⟩
 have hv : validH ⟨s.seq, false, []⟩ = true := by
   simp only [validH, List.length_nil, List.range_zero, List.all_nil, Bool.and_true, Bool.and_eq_true, decide_eq_true_eq]
   exact ⟨hs.1, hs.2, by decide, by simp⟩
 refine putHead_wal (ts := []) (hu1.below hB2) (h1.below hB2) (by show (wrN d xs).off = false; rw [f2]; exact hoff) ⟨rfl, fun j v hj => by simp at hj⟩ (fun k hk => bk_nil hk) hv (by show (wrN d xs).l.length ≤ 1000000; rw [f1]; exact hn) (by show 1 ≤ (wrN d xs).l.length; rw [f1]; exact hn1) (by show 0 ≤ (wrN d xs).many; rw [f3]; omega) (by show (wrN d xs).many + 1 < 1000000000000; rw [f3]; omega) (by show 0 + 1 ≤ 1000000000; decide) fun fp3 w3 h3 hG3 hu3 => ?_
 exact hR fp3 w3 h3 (((hG1.more (· = u)).trans (Gr.below hB2)).trans hG3) hu3
def badW (n : Int) (x : Wr1) : Int := if x.1 < 0 ∨ n ≤ x.1 then 15 else if x.2.length ≠ 256 then 1 else 0
def lastE (n : Int) (ws : List Wr1) : Int :=
 match ws.find? (fun x => decide (badW n x ≠ 0)) with
 | some x => badW n x
 | none => if 110 < (nextT (keysW ws)).length then 21 else 0
theorem lastE_bad {n : Int} {ws : List Wr1} {m : Nat} {x : Wr1} (h : ∀ y ∈ ws.take m, badW n y = 0) (hx : ws[m]? = some x) (hb : badW n x ≠ 0) : lastE n ws = badW n x := by
 have e : ws.find? (fun x => decide (badW n x ≠ 0)) = some x := by
   have hlt := (List.getElem?_eq_some_iff.1 hx).1
   have hx' := (List.getElem?_eq_some_iff.1 hx).2
   rw [List.find?_eq_some_iff_append]
   refine ⟨by simpa using hb, ws.take m, ws.drop (m + 1), ?_, fun y hy => by simp [h y hy]⟩
   rw [← hx', ← List.drop_eq_getElem_cons hlt, List.take_append_drop]
 unfold lastE
 rw [e]
set_option maxHeartbeats 1000000 in
theorem last_wal {sl : Sl} {ws : List Wr1} (h : Wl w u g s) (hd : Dsk w g fp d) (hn : d.l.length ≤ 1000000) (hx : Wrs w sl ws) (hsl : ∀ k, sl.bk k → k < w.heap.size) (hl : ws.length ≤ 1000000)
   {R : Option Nat → Int → World → Prop} (hR : ∀ m w', (lastE (sizeD d) ws = 0 → ∃ b, m = some b ∧ MapOf w' b ws ∧ w.heap.size ≤ b) → Below w.heap.size w w' → R m (lastE (sizeD d) ws) w') : F.wal_Wal_last (some (blk u)) sl w R := by
 apply E.wal_Wal_last
 unfold V.wal_Wal_last
 intro w1
 have hM1 : MapOf w1 w.heap.size [] := MapOf.made w
 have hB1 : Below w.heap.size w w1 := below_fr (Fr.alloc no w _)
 clear_value w1
 have hxl := hx.1
 refine ⟨fun n w' => ∃ m : Nat, n = m ∧ m ≤ ws.length ∧ MapOf w' w.heap.size (ws.take m) ∧ Below w.heap.size w w' ∧ ∀ y ∈ ws.take m, badW (sizeD d) y = 0, fun n _ => (ws.length - n).toNat, ⟨0, rfl, Nat.zero_le _, hM1, hB1, by simp⟩, ?_⟩
 rintro n w2 ⟨m, rfl, hm, hM2, hB2, hok⟩
 refine ⟨fun hlt => ?_, fun hge => ?_⟩
 · have hlt : m < ws.length := by have := of_decide_eq_true hlt; omega
   obtain ⟨a, ha, hc, hcd⟩ := (hx.keep (fr_below hB2) (fun _ _ => id)).2 m ws[m] (by simp [hlt])
   refine ⟨a, ha, by omega, by omega, ws[m].1, by simpa using hc, tx ws[m].2, by simpa using hcd, ?_⟩
   intro w3
   have h3 : w3.heap[w2.heap.size]? = some (.cells ⟨[.int .i64 0, .string sNil]⟩ T.y_api_Write (0, 0)) := heap_new w2 _
   have hF3 : Fr no w2 w3 := Fr.alloc no w2 _
   clear_value w3
   refine ⟨blk_wr0 h3 (by simp), ?_⟩
   intro w4
   have h4 : w4.heap[w2.heap.size]? = some (.cells ⟨[.int .i64 ws[m].1, .string sNil]⟩ T.y_api_Write (0, 0)) := by have := blk_set0 h3 (.int .i64 ws[m].1); simpa using this
   have hF4 : Fr (· = w2.heap.size) w3 w4 := fr_set0 w3 _ _
   clear_value w4
   refine ⟨blk_wr h4 (by simp), ?_⟩
   intro w5
   have h5 : w5.heap[w2.heap.size]? = some (.cells ⟨[.int .i64 ws[m].1, .string (tx ws[m].2)]⟩ T.y_api_Write (0, 0)) := by have := blk_set h4 1 (.string (tx ws[m].2)); simpa using this
   have hF5 : Fr (· = w2.heap.size) w4 w5 := fr_set w4 _ 1 _
   clear_value w5
   intro w6
   have h6 : w6.heap[w2.heap.size]? = some (.cells ⟨[.int .i64 ws[m].1, .string (tx ws[m].2)]⟩ T.y_api_Write (0, 0)) := h5
   have hF6 : Fr (· = w2.heap.size) w4 w6 := hF5.trans (Fr.drew (· = w2.heap.size) w5) (fun _ _ h => h)
   clear_value w6
   have hB26 : Below w2.heap.size w2 w6 := ((below_fr hF3).trans (hF4.toBelow (fun k hk => by have : k = w2.heap.size := hk; omega) hF3.size)).trans (hF6.toBelow (fun k hk => by have : k = w2.heap.size := hk; omega) (by have := hF3.size; have := hF4.size; omega))
   have s2 := hB2.size
   have hB06 := hB2.trans (hB26.mono s2)
   have hM6 := hM2.keep (fr_below hB26) id
   have g0 : w6.cell? (blk w2.heap.size) = some (.int .i64 ws[m].1) := by rw [blk_cell0 h6]; rfl
   have g1 : w6.cell? ((blk w2.heap.size).add 1) = some (.string (tx ws[m].2)) := by rw [blk_cell h6]; rfl
   have hgm : ws[m]? = some ws[m] := by simp [hlt]
   refine ⟨ws[m].1, g0, fun hneg => ⟨g0, ?_⟩, fun hneg => ⟨ws[m].1, g0, Size_wal (h.below hB06) (hd.below hB06) hn ⟨g0, g0, fun hge => ?_, fun hge => ⟨tx ws[m].2, g1, fun hne => ?_, fun hne => ⟨ws[m].1, g0, tx ws[m].2, g1, ?_⟩⟩⟩⟩⟩
   · have hneg := of_decide_eq_true hneg
     have e : badW (sizeD d) ws[m] = 15 := by unfold badW; rw [if_pos (.inl hneg)]
     have e2 := lastE_bad hok hgm (by rw [e]; decide)
     have := hR none w6 (fun h => by rw [e2, e] at h; simp at h) hB06
     rw [e2, e] at this; exact this
   · have hge := of_decide_eq_true hge
     have e : badW (sizeD d) ws[m] = 15 := by unfold badW; rw [if_pos (.inr hge)]
     have e2 := lastE_bad hok hgm (by rw [e]; decide)
     have := hR none w6 (fun h => by rw [e2, e] at h; simp at h) hB06
     rw [e2, e] at this; exact this
   · have hneg := of_decide_eq_false hneg
     have hge := of_decide_eq_false hge
     rw [tx_size] at hne
     have hne : ws[m].2.length ≠ 256 := by have : ((ws[m].2.length : Int)) ≠ 256 := by simpa using hne
                                           omega
     have e : badW (sizeD d) ws[m] = 1 := by unfold badW; rw [if_neg (by omega), if_pos hne]
     have e2 := lastE_bad hok hgm (by rw [e]; decide)
     have := hR none w6 (fun h => by rw [e2, e] at h; simp at h) hB06
     rw [e2, e] at this; exact this
   · have hneg := of_decide_eq_false hneg
     have hge := of_decide_eq_false hge
     rw [tx_size] at hne
     have hne : ws[m].2.length = 256 := by have : ((ws[m].2.length : Int)) = 256 := by simpa using hne
                                           omega
     have e : badW (sizeD d) ws[m] = 0 := by unfold badW; rw [if_neg (by omega), if_neg (by omega)]
     have hs : sizeD d = (d.l.length : Int) - 111 := rfl
     have e1 : w64 ((m : Int) + 1) = ((m + 1 : Nat) : Int) := by rw [w64_id (by omega) (by omega)]; omega
     refine hM6.put (by rw [List.length_take]; omega) (by omega) (by omega) fun w7 hM7 hF7 => ?_
     rw [e1]
     refine ⟨⟨m + 1, rfl, hlt, ?_, hB06.trans (hF7.toBelow (fun k hk => by have : k = w.heap.size := hk; omega) hB06.size), fun y hy => ?_⟩, ?_⟩
     · rw [List.take_succ_eq_append_getElem hlt]; exact hM7
     · rw [List.take_succ_eq_append_getElem hlt] at hy
       rcases List.mem_append.1 hy with hy | hy
       · exact hok y hy
       · simp only [List.mem_cons, List.not_mem_nil, or_false] at hy
         rw [hy]; exact e
     · show ((ws.length : Int) - ((m + 1 : Nat) : Int)).toNat < ((ws.length : Int) - (m : Int)).toNat
       omega
 · have hmm : m = ws.length := by have := of_decide_eq_false hge; omega
   subst hmm
   rw [List.take_length] at hM2 hok
   have e : ws.find? (fun x => decide (badW (sizeD d) x ≠ 0)) = none := by
     rw [List.find?_eq_none]
     intro x hx
     simp [hok x hx]
   refine hM2.len ⟨fun hgt => ?_, fun hgt => ?_⟩
   · have hgt := of_decide_eq_true hgt
     have e2 : lastE (sizeD d) ws = 21 := by unfold lastE; rw [e]; simp only; rw [if_pos (by omega)]
     have := hR none w2 (fun h => by rw [e2] at h; simp at h) hB2
     rw [e2] at this; exact this
   · have hgt := of_decide_eq_false hgt
     have e2 : lastE (sizeD d) ws = 0 := by unfold lastE; rw [e]; simp only; rw [if_neg (by omega)]
     have := hR (some w.heap.size) w2 (fun _ => ⟨_, rfl, hM2, Nat.le_refl _⟩) hB2
     rw [e2] at this; exact this
end
end Go.Proofs.YtmokmbhhnbcelaaGreatDoor
