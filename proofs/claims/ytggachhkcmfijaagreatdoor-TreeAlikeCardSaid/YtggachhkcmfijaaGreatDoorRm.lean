/- wal: what a commit leaves, whole or torn; what opening makes of it; in plain words. -/
import Derived.Test.YtggachhkcmfijaaGreatDoorWc
set_option linter.unusedVariables false
namespace Go.Proofs.YtggachhkcmfijaaGreatDoor
open Go Go.Vc Go.RowKit Go.Lib
theorem setAll_cons (l : List Bs) (x : Wr1) (xs : List Wr1) : setAll l (x :: xs) = setAll (l.set x.1.toNat x.2) xs := rfl
theorem setAll_other : ∀ (xs : List Wr1) (l : List Bs) (k : Nat), (∀ x ∈ xs, x.1.toNat ≠ k) → (setAll l xs).getD k [] = l.getD k []
 | [], l, k, h => rfl
 | x :: xs, l, k, h => by
   rw [setAll_cons, setAll_other xs _ k (fun y hy => h y (List.mem_cons_of_mem _ hy))]
   have := h x List.mem_cons_self
   simp only [List.getD_eq_getElem?_getD]
   rw [List.getElem?_set_ne this]
theorem setAll_same : ∀ (xs : List Wr1) (l : List Bs) (k : Nat) (v : Bs), k < l.length → (∀ x ∈ xs, x.1.toNat = k → x.2 = v) → ((∃ x ∈ xs, x.1.toNat = k) ∨ l.getD k [] = v) → (setAll l xs).getD k [] = v
 | [], l, k, v, hk, h, h2 => by
   rcases h2 with ⟨x, hx, _⟩ | h2
   · cases hx
   · exact h2
 | x :: xs, l, k, v, hk, h, h2 => by
   rw [setAll_cons]
   refine setAll_same xs _ k v (by rw [List.length_set]; exact hk) (fun y hy => h y (List.mem_cons_of_mem _ hy)) ?_
   by_cases hx : x.1.toNat = k
   · refine .inr ?_
     rw [h x List.mem_cons_self hx, hx]
     simp [hk]
   · rcases h2 with ⟨y, hy, hyk⟩ | h2
     · rcases List.mem_cons.1 hy with rfl | hy
       · exact absurd hyk hx
       · exact .inl ⟨y, hy, hyk⟩
     · refine .inr ?_
       simp only [List.getD_eq_getElem?_getD] at h2 ⊢
       rw [List.getElem?_set_ne hx]; exact h2
/-- a disk on which nothing is under way -/
structure Quiet (d : Ds) (seq : Int) : Prop where
 off : d.off = false
 safe : d.safe = d.l
 ws : d.ws = []
 lo : 140 ≤ d.l.length
 hi : d.l.length ≤ 2000
 head : readHead (d.l.getD 0 []) = (⟨seq, false, []⟩, 0)
 hlen : (d.l.getD 0 []).length = 256
 many : 0 ≤ d.many
 secs : ∀ s ∈ d.l, s.length = 256
theorem setAll_mem {P : Bs → Prop} : ∀ (xs : List Wr1) (l : List Bs), (∀ s ∈ l, P s) → (∀ x ∈ xs, P x.2) → ∀ s ∈ setAll l xs, P s
 | [], l, hl, _ => hl
 | x :: xs, l, hl, hx => setAll_mem xs _ (fun s hs => by
     rcases List.mem_or_eq_of_mem_set hs with h | h
     · exact hl s h
     · subst h; exact hx x (List.mem_cons_self ..)) (fun y hy => hx y (List.mem_cons_of_mem _ hy))
theorem set_mem {P : Bs → Prop} {l : List Bs} {i : Nat} {v : Bs} (hl : ∀ s ∈ l, P s) (hv : P v) : ∀ s ∈ l.set i v, P s := fun s hs => by
 rcases List.mem_or_eq_of_mem_set hs with h | h
 · exact hl s h
 · subst h; exact hv
def homeAt (d : Ds) (i : Nat) : Bs := d.l.getD (111 + i) []
theorem zeroS_len : zeroS.length = 256 := List.length_replicate
theorem Quiet.new {n : Nat} (h1 : 140 ≤ n) (h2 : n ≤ 2000) : Quiet (newD n) 0 := by
 have e : (newD n).l.getD 0 [] = zeroS := by
   show (List.replicate n zeroS).getD 0 [] = _
   simp [show 0 < n by omega]
 refine ⟨rfl, rfl, rfl, by simp [newD, h1], by simp [newD, h2], ?_, by rw [e]; exact zeroS_len, by simp [newD], fun s hs => by rw [List.eq_of_mem_replicate (show s ∈ List.replicate n zeroS from hs)]; exact zeroS_len⟩
 rw [e]
 have h : zeroS.all (fun x => [(0 : UInt8)].contains x) = true := List.all_eq_true.2 fun x hx => by rw [List.eq_of_mem_replicate hx]; rfl
 unfold readHead
 rw [if_neg (by rw [zeroS_len]; decide), if_pos h]
theorem read_headB {h : Hd} (hv : validH h = true) : readHead (headB h) = (h, 0) := read_lay hv
theorem commit_facts {d : Ds} {seq : Int} {ws : List Wr1} (hq : Quiet d seq) (hs0 : 0 ≤ seq) (hs1 : seq < 1099511627776) (hE : lastE (sizeD d) ws = 0) :
   Quiet (commitD d seq ws) (seq + 1) ∧ (commitD d seq ws).l.length = d.l.length ∧ (commitD d seq ws).many = d.many + 2 * ((nextT (keysW ws)).length : Int) + 2 ∧
     ∀ i : Nat, 111 + i < d.l.length → homeAt (commitD d seq ws) i = if (i : Int) ∈ keysW ws then lastW ws i else homeAt d i := by
 obtain ⟨hall, hlen⟩ := lastE_zero hE
 have htok := fun i hi => targets_ok (i := i) hE hi
 have hmem := (nextT_up (keysW ws)).2
 have hup := (nextT_up (keysW ws)).1
 have hsz : sizeD d = (d.l.length : Int) - 111 := rfl
 have hlo := hq.lo
 have hhi := hq.hi
 unfold commitD
 generalize nextT (keysW ws) = ts at *
 simp only
 have el : (flushD (wr1 (flushD (wrN (flushD (wr1 (flushD (wrN d (logN ts ws ts.length))) (0, headB ⟨seq + 1, true, ts⟩))) (homN ts ws ts.length))) (0, headB ⟨seq + 1, false, []⟩))).l =
     (setAll ((setAll d.l (logN ts ws ts.length)).set 0 (headB ⟨seq + 1, true, ts⟩)) (homN ts ws ts.length)).set 0 (headB ⟨seq + 1, false, []⟩) := by
   show ((wrN _ _).l.set 0 _) = _
   rw [(wrN_facts _ _).1]
   show (setAll ((wrN _ _).l.set 0 _) _).set 0 _ = _
   rw [(wrN_facts _ _).1]
 have em : (flushD (wr1 (flushD (wrN (flushD (wr1 (flushD (wrN d (logN ts ws ts.length))) (0, headB ⟨seq + 1, true, ts⟩))) (homN ts ws ts.length))) (0, headB ⟨seq + 1, false, []⟩))).many = d.many + 2 * (ts.length : Int) + 2 := by
   show (wrN _ _).many + 1 = _
   rw [(wrN_facts _ _).2.2.2.1]
   show (wrN _ _).many + 1 + _ + 1 = _
   rw [(wrN_facts _ _).2.2.2.1, logN_len, homN_len]
   omega
 have eo : (flushD (wr1 (flushD (wrN (flushD (wr1 (flushD (wrN d (logN ts ws ts.length))) (0, headB ⟨seq + 1, true, ts⟩))) (homN ts ws ts.length))) (0, headB ⟨seq + 1, false, []⟩))).off = false := by
   show (wrN _ _).off = _
   rw [(wrN_facts _ _).2.2.2.2.1]
   show (wrN _ _).off = _
   rw [(wrN_facts _ _).2.2.2.2.1, hq.off]
 have ell : ((setAll ((setAll d.l (logN ts ws ts.length)).set 0 (headB ⟨seq + 1, true, ts⟩)) (homN ts ws ts.length)).set 0 (headB ⟨seq + 1, false, []⟩)).length = d.l.length := by
   rw [List.length_set, setAll_len, List.length_set, setAll_len]
 have e0 : ((setAll ((setAll d.l (logN ts ws ts.length)).set 0 (headB ⟨seq + 1, true, ts⟩)) (homN ts ws ts.length)).set 0 (headB ⟨seq + 1, false, []⟩)).getD 0 [] = headB ⟨seq + 1, false, []⟩ := by
   have : 0 < (setAll ((setAll d.l (logN ts ws ts.length)).set 0 (headB ⟨seq + 1, true, ts⟩)) (homN ts ws ts.length)).length := by rw [setAll_len, List.length_set, setAll_len]; omega
   simp [this]
 have hv := valid_done (seq := seq + 1) (by omega) (by omega)
 have h256 : ∀ s ∈ (setAll ((setAll d.l (logN ts ws ts.length)).set 0 (headB ⟨seq + 1, true, ts⟩)) (homN ts ws ts.length)).set 0 (headB ⟨seq + 1, false, []⟩), s.length = 256 := by
   by_cases hte : ts = []
   · subst hte
     show ∀ s ∈ ((d.l.set 0 _).set 0 _), s.length = 256
     rw [List.set_set]
     exact set_mem hq.secs (headB_len hv)
   · have hhl := headB_len (valid_next (seq := seq + 1) (by omega) (by omega) hup hlen hte fun x hx => by
       obtain ⟨j, hj, rfl⟩ := List.mem_iff_getElem.1 hx
       have h1 := htok j hj
       have e : ts.getD j 0 = ts[j] := by simp [hj]
       rw [e] at h1
       omega)
     exact set_mem (setAll_mem _ _ (set_mem (setAll_mem _ _ hq.secs fun x hx => by
       simp only [logN, List.mem_map, List.mem_range] at hx
       obtain ⟨j, hj, rfl⟩ := hx
       exact (htok j hj).2.2) hhl) fun x hx => by
       simp only [homN, List.mem_map, List.mem_range] at hx
       obtain ⟨j, hj, rfl⟩ := hx
       exact (htok j hj).2.2) (headB_len hv)
 refine ⟨⟨eo, rfl, rfl, by rw [el, ell]; exact hlo, by rw [el, ell]; exact hhi, by rw [el, e0]; exact read_headB hv, by rw [el, e0]; exact headB_len hv, by rw [em]; have := hq.many; omega, by rw [el]; exact h256⟩, by rw [el, ell], em, fun i hi => ?_⟩
 unfold homeAt
 rw [el]
 have n0 : ∀ (l : List Bs) (v : Bs), (l.set 0 v).getD (111 + i) [] = l.getD (111 + i) [] := fun l v => by
   simp only [List.getD_eq_getElem?_getD]
   rw [List.getElem?_set_ne (by omega)]
 rw [n0]
 by_cases hm : (i : Int) ∈ keysW ws
 · rw [if_pos hm]
   refine setAll_same _ _ _ _ (by rw [List.length_set, setAll_len]; exact hi) (fun x hx hxk => ?_) (.inl ?_)
   · simp only [homN, List.mem_map, List.mem_range] at hx
     obtain ⟨j, hj, rfl⟩ := hx
     have := htok j hj
     simp only at hxk ⊢
     have e : ts.getD j 0 = (i : Int) := by omega
     rw [e]
   · have hm' := (hmem (i : Int)).2 hm
     obtain ⟨j, hj, hje⟩ := List.mem_iff_getElem.1 hm'
     have e : ts.getD j 0 = (i : Int) := by simp [hj, hje]
     refine ⟨(111 + ts.getD j 0, lastW ws (ts.getD j 0)), ?_, ?_⟩
     · simp only [homN, List.mem_map, List.mem_range]
       exact ⟨j, hj, rfl⟩
     · show (111 + ts.getD j 0).toNat = _
       rw [e]; omega
 · rw [if_neg hm]
   rw [setAll_other _ _ _ (fun x hx hxk => ?_), n0, setAll_other _ _ _ (fun x hx hxk => ?_)]
   · simp only [logN, List.mem_map, List.mem_range] at hx
     obtain ⟨j, hj, rfl⟩ := hx
     simp only at hxk
     omega
   · simp only [homN, List.mem_map, List.mem_range] at hx
     obtain ⟨j, hj, rfl⟩ := hx
     have := htok j hj
     simp only at hxk
     have e : ts.getD j 0 = (i : Int) := by omega
     refine hm ((hmem _).1 ?_)
     rw [← e]
     have : ts.getD j 0 = ts[j] := by simp [hj]
     rw [this]; exact List.getElem_mem _
/-! ### What opening makes of sectors -/
end Go.Proofs.YtggachhkcmfijaaGreatDoor

/- wal: what home is; commits and opening told by it; masonrylaw9: again, is, round, many, after, alive. -/
set_option linter.unusedVariables false
namespace Go.Proofs.YtggachhkcmfijaaGreatDoor
open Go Go.Vc Go.RowKit Go.Lib Go.Maps Go.Proofs
end Go.Proofs.YtggachhkcmfijaaGreatDoor

/- room: which sectors are in use. -/
set_option linter.unusedVariables false
namespace Go.Proofs.YtggachhkcmfijaaGreatDoor
open Go Go.Vc Go.RowKit Go.Lib
theorem und_bools : Pg.underlying T.y_sl_bool = some (.slice T.y_bool) := by kernel_rfl
theorem info_bool : ∃ i, Pg.info? T.y_bool = some i ∧ i.zero = some (.bool false) ∧ i.size = 1 ∧ i.bytes = 1 := by
 have h : (Pg.info? T.y_bool).map (fun i => (i.zero, i.size, i.bytes)) = some (some (.bool false), 1, 1) := by kernel_rfl
 obtain ⟨i, hi, h2⟩ := Option.map_eq_some_iff.1 h
 simp only [Prod.mk.injEq] at h2
 exact ⟨i, hi, h2.1, h2.2.1, h2.2.2⟩
def boolC (bs : List Bool) : List Value := bs.map Value.bool
theorem boolC_one (bs : List Bool) : ∀ u ∈ boolC bs, u.oneCell' = true := by
 intro u hu
 simp only [boolC, List.mem_map] at hu
 obtain ⟨b, _, rfl⟩ := hu
 rfl
structure Rom (w : World) (r : Nat) (L : Sl) (bs : List Bool) : Prop where
 obj : w.heap[r]? = some (.cells ⟨[slV L]⟩ T.y_room_Room (0, 0))
 ow : Own w T.y_bool 1 L (boolC bs)
def fpR (r : Nat) (L : Sl) : Nat → Prop := fun k => k = r ∨ L.bk k
/-- a Room whose blocks are fp -/
def Room (w : World) (r : Nat) (fp : Nat → Prop) (bs : List Bool) : Prop := ∃ L, Rom w r L bs ∧ fp = fpR r L
theorem Rom.len {w : World} {r : Nat} {L : Sl} {bs : List Bool} (h : Rom w r L bs) : L.len = bs.length := by
 have := h.ow.len
 simp only [boolC, List.length_map] at this; omega
theorem Rom.c0 {w : World} {r : Nat} {L : Sl} {bs : List Bool} (h : Rom w r L bs) : w.cell? (blk r) = some (.slice L.a L.len L.cap) := by rw [blk_cell0 h.obj]; rfl
theorem Rom.keep {w w' : World} {r : Nat} {L : Sl} {bs : List Bool} (h : Rom w r L bs) {Z : Nat → Prop} (hf : Fr Z w w') (hz : ∀ k, fpR r L k → ¬ Z k) : Rom w' r L bs :=
 ⟨hf.heap h.obj (hz r (.inl rfl)), h.ow.keep hf (fun k hk => hz k (.inr hk))⟩
theorem Rom.sep {w : World} {r : Nat} {L : Sl} {bs : List Bool} (h : Rom w r L bs) {k : Nat} (hk : L.bk k) : ¬ k = r := fun e => by
 subst e; obtain ⟨_, h2⟩ := Own.typ h.ow hk; exact typ_ne h.obj h2 (by decide)
theorem Rom.at {w : World} {r : Nat} {L : Sl} {bs : List Bool} (h : Rom w r L bs) {i : Nat} (hi : i < bs.length) : ∃ a, L.a = some a ∧ w.cell? (a.add (i * 1)) = some (.bool bs[i]) := by
 obtain ⟨a, ha, hc⟩ := h.ow.cell (j := i) (u := .bool bs[i]) (by simp [boolC, hi])
 exact ⟨a, ha, by rw [Nat.mul_one]; exact hc⟩
theorem Rom.set {w : World} {r : Nat} {L : Sl} {bs : List Bool} (h : Rom w r L bs) {i : Nat} (hi : i < bs.length) (b : Bool) {a : Addr} (ha : L.a = some a) :
   Wr w (a.add (i * 1)) ∧ Rom (w.setCell (a.add (i * 1)) (.bool b)) r L (bs.set i b) ∧ Fr (fpR r L) w (w.setCell (a.add (i * 1)) (.bool b)) := by
 obtain ⟨q1, q2, q3⟩ := Own.set1 h.ow (k := i) (by simpa [boolC] using hi) (.bool b) ha
 rw [Nat.mul_one]
 have e : (boolC bs).set i (.bool b) = boolC (bs.set i b) := by simp [boolC, List.map_set]
 rw [e] at q2
 exact ⟨q1, ⟨q3.heap h.obj (fun hk => h.sep hk rfl), q2⟩, q3.mono fun _ _ hk => .inr hk⟩
theorem Room.keep {w w' : World} {r : Nat} {fp : Nat → Prop} {bs : List Bool} (h : Room w r fp bs) {Z : Nat → Prop} (hf : Fr Z w w') (hz : ∀ k, fp k → ¬ Z k) : Room w' r fp bs := by
 obtain ⟨L, h, rfl⟩ := h
 exact ⟨L, h.keep hf hz, rfl⟩
theorem Room.lt {w : World} {r : Nat} {fp : Nat → Prop} {bs : List Bool} (h : Room w r fp bs) {k : Nat} (hk : fp k) : k < w.heap.size := by
 obtain ⟨L, h, rfl⟩ := h
 rcases hk with rfl | hk
 · exact heap_lt h.obj
 · exact h.ow.lt hk
def usedL (n : Nat) (us : List Int) : List Bool := us.foldl (fun l x => l.set x.toNat true) (List.replicate n false)
theorem usedL_app (n : Nat) (us : List Int) (x : Int) : usedL n (us ++ [x]) = (usedL n us).set x.toNat true := by simp [usedL, List.foldl_append]
theorem usedL_len (n : Nat) : ∀ us : List Int, (usedL n us).length = n := by
 refine snoc_ind (by simp [usedL]) fun us x ih => ?_
 rw [usedL_app, List.length_set, ih]
theorem usedL_get (n : Nat) (us : List Int) (h : ∀ x ∈ us, 0 ≤ x) {i : Nat} (hi : i < n) : (usedL n us).getD i false = decide ((i : Int) ∈ us) := by
 revert h
 refine snoc_ind (P := fun us => (∀ x ∈ us, 0 ≤ x) → (usedL n us).getD i false = decide ((i : Int) ∈ us)) (fun _ => by simp [usedL, hi]) (fun us x ih h => ?_) us
 have ih := ih fun y hy => h y (List.mem_append_left _ hy)
 have hx := h x (by simp)
 rw [usedL_app]
 by_cases hxi : x.toNat = i
 · have e : (i : Int) = x := by omega
   have hl : i < (usedL n us).length := by rw [usedL_len]; exact hi
   rw [hxi]
   simp [hl, e]
 · have e : ¬ (i : Int) = x := by omega
   simp only [List.getD_eq_getElem?_getD] at ih ⊢
   rw [List.getElem?_set_ne hxi, ih]
   simp [e]
section
variable {w : World} {r : Nat} {fp : Nat → Prop} {bs : List Bool}
set_option maxHeartbeats 1000000 in
theorem New_room {n : Nat} (h1 : 1 ≤ n) (h2 : n ≤ 1900) {used : Sl} {us : List Int} (hT : Ints w used us) (hul : ∀ k, used.bk k → k < w.heap.size) (hun : us.length ≤ 1000000) {R : Option Addr → Int → World → Prop}
   (hbad : ∀ w', ¬ (∀ x ∈ us, 0 ≤ x ∧ x < (n : Int)) → Below w.heap.size w w' → R none 1 w')
   (hR : ∀ r fp w', (∀ x ∈ us, 0 ≤ x ∧ x < (n : Int)) → Room w' r fp (usedL n us) → (∀ k, fp k → w.heap.size ≤ k) → Below w.heap.size w w' → R (some (blk r)) 0 w') : F.room_New (n : Int) used w R := by
 obtain ⟨inf, hi, hz, hs1, hby⟩ := info_bool
 apply E.room_New
 unfold V.room_New
 try simp -zeta only [ldC, soC, brC, bkA, slC, stC, alC, drC]
 have hlen := hT.1
 refine ⟨fun h => by have := of_decide_eq_true h; omega, fun _ => ⟨fun h => by have := of_decide_eq_true h; omega, fun _ => ?_⟩⟩
 refine runT_make und_bools hi hz hs1 (by rw [hby]; omega) (by simp only [maxLen]; omega) fun w2 hO2 hF2 hs2 => ?_
 have hmk : (madeCells (Value.bool false).cells (n * 1)).toList = boolC (usedL n []) := by
   have h := toList_madeCells_one (Value.bool false) (n * 1)
   rw [show (Value.bool false).cells = #[Value.bool false] from rfl, h]
   simp [boolC, usedL]
 rw [hmk] at hO2
 generalize hl : (⟨some (blk w.heap.size), n, n⟩ : Sl) = l at *
 have hla : l.a = some (blk w.heap.size) := by rw [← hl]
 have hbk : ∀ k, l.bk k → w.heap.size ≤ k := fun k hk => by
   obtain ⟨a, ha, rfl⟩ := hk
   rw [hla] at ha
   injection ha with ha
   subst ha
   exact Nat.le_refl _
 intro w3
 have h3 : w3.heap[w2.heap.size]? = some (.cells ⟨[slV l]⟩ T.y_room_Room (0, 0)) := heap_new w2 _
 have hF3 : Fr no w2 w3 := Fr.alloc no w2 _
 clear_value w3
 have hB3 : Below w.heap.size w w3 := (below_fr hF2).trans ((below_fr hF3).mono hF2.size)
 have hr3 : Rom w3 w2.heap.size l (usedL n []) := ⟨h3, hO2.keep hF3 (fun _ _ => id)⟩
 have hlo : ∀ k, fpR w2.heap.size l k → w.heap.size ≤ k := fun k hk => by
   rcases hk with rfl | hk
   · omega
   · exact hbk k hk
 refine ⟨fun i w' => ∃ m : Nat, i = m ∧ m ≤ us.length ∧ Rom w' w2.heap.size l (usedL n (us.take m)) ∧ Below w.heap.size w w' ∧ ∀ x ∈ us.take m, 0 ≤ x ∧ x < (n : Int), fun i _ => (us.length - i).toNat, ⟨0, rfl, Nat.zero_le _, hr3, hB3, by simp⟩, ?_⟩
 rintro i w4 ⟨m, rfl, hm, hr4, hB4, hall⟩
 refine ⟨fun hlt => ?_, fun hge => ?_⟩
 · have hlt : m < us.length := by have := of_decide_eq_true hlt; omega
   obtain ⟨a, ha, hc⟩ := (hT.below hB4).2 m us[m] (by simp [hlt])
   have e1 : w64 ((m : Int) + 1) = ((m + 1 : Nat) : Int) := by rw [w64_id (by omega) (by omega)]; omega
   refine ⟨a, ha, by omega, by omega, us[m], by simpa using hc, fun hn => hbad w4 (fun hh => ?_) hB4, fun hn => ⟨fun hg => hbad w4 (fun hh => ?_) hB4, fun hg => ?_⟩⟩
   · have := of_decide_eq_true hn; have := hh us[m] (List.getElem_mem _); omega
   · have := of_decide_eq_true hg; have := hh us[m] (List.getElem_mem _); omega
   have hn := of_decide_eq_false hn
   have hg := of_decide_eq_false hg
   have hll := hr4.len
   have hul' := usedL_len n (us.take m)
   obtain ⟨q1, q2, q3⟩ := hr4.set (i := us[m].toNat) (by rw [hul']; omega) true hla
   refine ⟨l, hr4.c0, blk w.heap.size, hla, by omega, by rw [hll, hul']; omega, q1, ?_⟩
   rw [e1]
   refine ⟨⟨m + 1, rfl, hlt, ?_, hB4.trans (q3.toBelow hlo hB4.size), fun x hx => ?_⟩, ?_⟩
   · rw [List.take_succ_eq_append_getElem hlt, usedL_app]; exact q2
   · rw [List.take_succ_eq_append_getElem hlt] at hx
     rcases List.mem_append.1 hx with hx | hx
     · exact hall x hx
     · simp only [List.mem_cons, List.not_mem_nil, or_false] at hx
       subst hx; omega
   · show ((us.length : Int) - ((m + 1 : Nat) : Int)).toNat < ((us.length : Int) - (m : Int)).toNat
     omega
 · have hmm : m = us.length := by have := of_decide_eq_false hge; omega
   subst hmm
   rw [List.take_length] at hr4 hall
   exact hR _ _ w4 hall ⟨l, hr4, rfl⟩ hlo hB4
def usedB (bs : List Bool) (at_ : Int) : Bool := decide (0 ≤ at_) && (decide (at_ < (bs.length : Int)) && bs.getD at_.toNat false)
theorem Used_room (h : Room w r fp bs) {at_ : Int} {R : Bool → World → Prop} (hR : R (usedB bs at_) w) : F.room_Room_Used (some (blk r)) at_ w R := by
 apply E.room_Room_Used
 unfold V.room_Room_Used
 try simp -zeta only [ldC, soC, brC, bkA, slC, stC, alC, drC]
 obtain ⟨L, h, rfl⟩ := h
 have hlen := h.len
 refine ⟨fun _ => ⟨fun h0 => ⟨blk r, rfl, L, h.c0, fun hlt => ?_, fun hlt => ?_⟩, fun h0 => ?_⟩, fun h => by simp at h⟩
 · have h0 := of_decide_eq_true h0
   have hlt := of_decide_eq_true hlt
   have hi : at_.toNat < bs.length := by omega
   obtain ⟨a, ha, hc⟩ := h.at hi
   have e : usedB bs at_ = bs[at_.toNat] := by
     unfold usedB
     rw [decide_eq_true (by omega), decide_eq_true (by omega)]
     simp [hi]
   rw [e] at hR
   exact ⟨blk r, rfl, L, h.c0, a, ha, by omega, by omega, bs[at_.toNat], hc, hR⟩
 · have hlt := of_decide_eq_false hlt
   have e : usedB bs at_ = false := by
     unfold usedB
     rw [decide_eq_false (p := at_ < (bs.length : Int)) (by omega)]
     simp
   rw [e] at hR; exact hR
 · have h0 := of_decide_eq_false h0
   have e : usedB bs at_ = false := by
     unfold usedB
     rw [decide_eq_false (p := 0 ≤ at_) (by omega)]
     simp
   rw [e] at hR; exact hR
/-- the least that is not in use -/
def freeAt (bs : List Bool) : Nat := bs.findIdx (fun b => !b)
theorem freeAt_eq {bs : List Bool} {m : Nat} (hpre : ∀ i (hi : i < m), bs[i]? = some true) (hm : bs[m]? = some false) : freeAt bs = m := by
 obtain ⟨hl, he⟩ := List.getElem?_eq_some_iff.1 hm
 unfold freeAt
 rw [List.findIdx_eq hl]
 refine ⟨by simp [he], fun j hj => ?_⟩
 obtain ⟨hl2, he2⟩ := List.getElem?_eq_some_iff.1 (hpre j hj)
 simp [he2]
theorem freeAt_all {bs : List Bool} (h : ∀ i (hi : i < bs.length), bs[i]? = some true) : freeAt bs = bs.length := by
 unfold freeAt
 rw [List.findIdx_eq_length]
 intro x hx
 obtain ⟨i, hi, rfl⟩ := List.mem_iff_getElem.1 hx
 obtain ⟨hl2, he2⟩ := List.getElem?_eq_some_iff.1 (h i hi)
 simp [he2]
end
end Go.Proofs.YtggachhkcmfijaaGreatDoor
