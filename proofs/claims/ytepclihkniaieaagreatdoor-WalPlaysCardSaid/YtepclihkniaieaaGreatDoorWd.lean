/- wal: what a commit leaves, whole or torn; what opening makes of it; in plain words. -/
import Derived.Test.YtepclihkniaieaaGreatDoorWc
set_option linter.unusedVariables false
namespace Go.Proofs.YtepclihkniaieaaGreatDoor
open Go Go.Vc Go.RowKit Go.Lib

theorem setAll_cons (l : List Bs) (x : Wr1) (xs : List Wr1) : setAll l (x :: xs) = setAll (l.set x.1.toNat x.2) xs := rfl
theorem setAll_other : ∀ (xs : List Wr1) (l : List Bs) (k : Nat), (∀ x ∈ xs, x.1.toNat ≠ k) → (setAll l xs).getD k [] = l.getD k []
  | [], l, k, h => rfl
  | x :: xs, l, k, h => by
    rw [setAll_cons, setAll_other xs _ k (fun y hy => h y (List.mem_cons_of_mem _ hy))]
    have := h x List.mem_cons_self
    simp only [List.getD_eq_getElem?_getD]
    rw [List.getElem?_set_ne this]
theorem setAll_same : ∀ (xs : List Wr1) (l : List Bs) (k : Nat) (v : Bs), k < l.length → (∀ x ∈ xs, x.1.toNat = k → x.2 = v) → ((∃ x ∈ xs, x.1.toNat = k) ∨ l.getD k [] = v) → (setAll l xs).getD k [] = v
  | [], l, k, v, hk, h, h2 => by
    rcases h2 with ⟨x, hx, _⟩ | h2
    · cases hx
    · exact h2
  | x :: xs, l, k, v, hk, h, h2 => by
    rw [setAll_cons]
    refine setAll_same xs _ k v (by rw [List.length_set]; exact hk) (fun y hy => h y (List.mem_cons_of_mem _ hy)) ?_
    by_cases hx : x.1.toNat = k
    · refine .inr ?_
      rw [h x List.mem_cons_self hx, hx]
      simp [hk]
    · rcases h2 with ⟨y, hy, hyk⟩ | h2
      · rcases List.mem_cons.1 hy with rfl | hy
        · exact absurd hyk hx
        · exact .inl ⟨y, hy, hyk⟩
      · refine .inr ?_
        simp only [List.getD_eq_getElem?_getD] at h2 ⊢
        rw [List.getElem?_set_ne hx]; exact h2

/-- a disk on which nothing is under way -/
structure Quiet (d : Ds) (seq : Int) : Prop where
  off : d.off = false
  safe : d.safe = d.l
  ws : d.ws = []
  lo : 140 ≤ d.l.length
  hi : d.l.length ≤ 2000
  head : readHead (d.l.getD 0 []) = (⟨seq, false, []⟩, 0)
  hlen : (d.l.getD 0 []).length = 256
  many : 0 ≤ d.many
  secs : ∀ s ∈ d.l, s.length = 256

theorem setAll_mem {P : Bs → Prop} : ∀ (xs : List Wr1) (l : List Bs), (∀ s ∈ l, P s) → (∀ x ∈ xs, P x.2) → ∀ s ∈ setAll l xs, P s
  | [], l, hl, _ => hl
  | x :: xs, l, hl, hx => setAll_mem xs _ (fun s hs => by
      rcases List.mem_or_eq_of_mem_set hs with h | h
      · exact hl s h
      · subst h; exact hx x (List.mem_cons_self ..)) (fun y hy => hx y (List.mem_cons_of_mem _ hy))
theorem set_mem {P : Bs → Prop} {l : List Bs} {i : Nat} {v : Bs} (hl : ∀ s ∈ l, P s) (hv : P v) : ∀ s ∈ l.set i v, P s := fun s hs => by
  rcases List.mem_or_eq_of_mem_set hs with h | h
  · exact hl s h
  · subst h; exact hv

def homeAt (d : Ds) (i : Nat) : Bs := d.l.getD (111 + i) []

theorem zeroS_len : zeroS.length = 256 := List.length_replicate
theorem Quiet.new {n : Nat} (h1 : 140 ≤ n) (h2 : n ≤ 2000) : Quiet (newD n) 0 := by
  have e : (newD n).l.getD 0 [] = zeroS := by
    show (List.replicate n zeroS).getD 0 [] = _
    simp [show 0 < n by omega]
  refine ⟨rfl, rfl, rfl, by simp [newD, h1], by simp [newD, h2], ?_, by rw [e]; exact zeroS_len, by simp [newD], fun s hs => by rw [List.eq_of_mem_replicate (show s ∈ List.replicate n zeroS from hs)]; exact zeroS_len⟩
  rw [e]
  have h : zeroS.all (fun x => [(0 : UInt8)].contains x) = true := List.all_eq_true.2 fun x hx => by rw [List.eq_of_mem_replicate hx]; rfl
  unfold readHead
  rw [if_neg (by rw [zeroS_len]; decide), if_pos h]

theorem homeAt_new {n i : Nat} (h : 111 + i < n) : homeAt (newD n) i = zeroS := by
  show (List.replicate n zeroS).getD (111 + i) [] = _
  simp [h]

theorem read_headB {h : Hd} (hv : validH h = true) : readHead (headB h) = (h, 0) := read_lay hv

theorem commit_facts {d : Ds} {seq : Int} {ws : List Wr1} (hq : Quiet d seq) (hs0 : 0 ≤ seq) (hs1 : seq < 1099511627776) (hE : lastE (sizeD d) ws = 0) :
    Quiet (commitD d seq ws) (seq + 1) ∧ (commitD d seq ws).l.length = d.l.length ∧ (commitD d seq ws).many = d.many + 2 * ((nextT (keysW ws)).length : Int) + 2 ∧
      ∀ i : Nat, 111 + i < d.l.length → homeAt (commitD d seq ws) i = if (i : Int) ∈ keysW ws then lastW ws i else homeAt d i := by
  obtain ⟨hall, hlen⟩ := lastE_zero hE
  have htok := fun i hi => targets_ok (i := i) hE hi
  have hmem := (nextT_up (keysW ws)).2
  have hup := (nextT_up (keysW ws)).1
  have hsz : sizeD d = (d.l.length : Int) - 111 := rfl
  have hlo := hq.lo
  have hhi := hq.hi
  unfold commitD
  generalize nextT (keysW ws) = ts at *
  simp only
  have el : (flushD (wr1 (flushD (wrN (flushD (wr1 (flushD (wrN d (logN ts ws ts.length))) (0, headB ⟨seq + 1, true, ts⟩))) (homN ts ws ts.length))) (0, headB ⟨seq + 1, false, []⟩))).l =
      (setAll ((setAll d.l (logN ts ws ts.length)).set 0 (headB ⟨seq + 1, true, ts⟩)) (homN ts ws ts.length)).set 0 (headB ⟨seq + 1, false, []⟩) := by
    show ((wrN _ _).l.set 0 _) = _
    rw [(wrN_facts _ _).1]
    show (setAll ((wrN _ _).l.set 0 _) _).set 0 _ = _
    rw [(wrN_facts _ _).1]
  have em : (flushD (wr1 (flushD (wrN (flushD (wr1 (flushD (wrN d (logN ts ws ts.length))) (0, headB ⟨seq + 1, true, ts⟩))) (homN ts ws ts.length))) (0, headB ⟨seq + 1, false, []⟩))).many = d.many + 2 * (ts.length : Int) + 2 := by
    show (wrN _ _).many + 1 = _
    rw [(wrN_facts _ _).2.2.2.1]
    show (wrN _ _).many + 1 + _ + 1 = _
    rw [(wrN_facts _ _).2.2.2.1, logN_len, homN_len]
    omega
  have eo : (flushD (wr1 (flushD (wrN (flushD (wr1 (flushD (wrN d (logN ts ws ts.length))) (0, headB ⟨seq + 1, true, ts⟩))) (homN ts ws ts.length))) (0, headB ⟨seq + 1, false, []⟩))).off = false := by
    show (wrN _ _).off = _
    rw [(wrN_facts _ _).2.2.2.2.1]
    show (wrN _ _).off = _
    rw [(wrN_facts _ _).2.2.2.2.1, hq.off]
  have ell : ((setAll ((setAll d.l (logN ts ws ts.length)).set 0 (headB ⟨seq + 1, true, ts⟩)) (homN ts ws ts.length)).set 0 (headB ⟨seq + 1, false, []⟩)).length = d.l.length := by
    rw [List.length_set, setAll_len, List.length_set, setAll_len]
  have e0 : ((setAll ((setAll d.l (logN ts ws ts.length)).set 0 (headB ⟨seq + 1, true, ts⟩)) (homN ts ws ts.length)).set 0 (headB ⟨seq + 1, false, []⟩)).getD 0 [] = headB ⟨seq + 1, false, []⟩ := by
    have : 0 < (setAll ((setAll d.l (logN ts ws ts.length)).set 0 (headB ⟨seq + 1, true, ts⟩)) (homN ts ws ts.length)).length := by rw [setAll_len, List.length_set, setAll_len]; omega
    simp [this]
  have hv := valid_done (seq := seq + 1) (by omega) (by omega)
  have h256 : ∀ s ∈ (setAll ((setAll d.l (logN ts ws ts.length)).set 0 (headB ⟨seq + 1, true, ts⟩)) (homN ts ws ts.length)).set 0 (headB ⟨seq + 1, false, []⟩), s.length = 256 := by
    by_cases hte : ts = []
    · subst hte
      show ∀ s ∈ ((d.l.set 0 _).set 0 _), s.length = 256
      rw [List.set_set]
      exact set_mem hq.secs (headB_len hv)
    · have hhl := headB_len (valid_next (seq := seq + 1) (by omega) (by omega) hup hlen hte fun x hx => by
        obtain ⟨j, hj, rfl⟩ := List.mem_iff_getElem.1 hx
        have h1 := htok j hj
        have e : ts.getD j 0 = ts[j] := by simp [hj]
        rw [e] at h1
        omega)
      exact set_mem (setAll_mem _ _ (set_mem (setAll_mem _ _ hq.secs fun x hx => by
        simp only [logN, List.mem_map, List.mem_range] at hx
        obtain ⟨j, hj, rfl⟩ := hx
        exact (htok j hj).2.2) hhl) fun x hx => by
        simp only [homN, List.mem_map, List.mem_range] at hx
        obtain ⟨j, hj, rfl⟩ := hx
        exact (htok j hj).2.2) (headB_len hv)
  refine ⟨⟨eo, rfl, rfl, by rw [el, ell]; exact hlo, by rw [el, ell]; exact hhi, by rw [el, e0]; exact read_headB hv, by rw [el, e0]; exact headB_len hv, by rw [em]; have := hq.many; omega, by rw [el]; exact h256⟩, by rw [el, ell], em, fun i hi => ?_⟩
  unfold homeAt
  rw [el]
  have n0 : ∀ (l : List Bs) (v : Bs), (l.set 0 v).getD (111 + i) [] = l.getD (111 + i) [] := fun l v => by
    simp only [List.getD_eq_getElem?_getD]
    rw [List.getElem?_set_ne (by omega)]
  rw [n0]
  by_cases hm : (i : Int) ∈ keysW ws
  · rw [if_pos hm]
    refine setAll_same _ _ _ _ (by rw [List.length_set, setAll_len]; exact hi) (fun x hx hxk => ?_) (.inl ?_)
    · simp only [homN, List.mem_map, List.mem_range] at hx
      obtain ⟨j, hj, rfl⟩ := hx
      have := htok j hj
      simp only at hxk ⊢
      have e : ts.getD j 0 = (i : Int) := by omega
      rw [e]
    · have hm' := (hmem (i : Int)).2 hm
      obtain ⟨j, hj, hje⟩ := List.mem_iff_getElem.1 hm'
      have e : ts.getD j 0 = (i : Int) := by simp [hj, hje]
      refine ⟨(111 + ts.getD j 0, lastW ws (ts.getD j 0)), ?_, ?_⟩
      · simp only [homN, List.mem_map, List.mem_range]
        exact ⟨j, hj, rfl⟩
      · show (111 + ts.getD j 0).toNat = _
        rw [e]; omega
  · rw [if_neg hm]
    rw [setAll_other _ _ _ (fun x hx hxk => ?_), n0, setAll_other _ _ _ (fun x hx hxk => ?_)]
    · simp only [logN, List.mem_map, List.mem_range] at hx
      obtain ⟨j, hj, rfl⟩ := hx
      simp only at hxk
      omega
    · simp only [homN, List.mem_map, List.mem_range] at hx
      obtain ⟨j, hj, rfl⟩ := hx
      have := htok j hj
      simp only at hxk
      have e : ts.getD j 0 = (i : Int) := by omega
      refine hm ((hmem _).1 ?_)
      rw [← e]
      have : ts.getD j 0 = ts[j] := by simp [hj]
      rw [this]; exact List.getElem_mem _

def fillAt (s : Bs) (i : Nat) : UInt8 := if 0 < s.length then s.getD (i % s.length) 0 else 0
def fillTo (s : Bs) (m : Nat) : Bs := (List.range 256).map fun i => if i < m then fillAt s i else 0
def fillS (s : Bs) : Bs := fillTo s 256
theorem fillTo_len (s : Bs) (m : Nat) : (fillTo s m).length = 256 := by simp [fillTo]
theorem fillS_len (s : Bs) : (fillS s).length = 256 := fillTo_len s 256
theorem fillTo_succ (s : Bs) (m : Nat) (hm : m < 256) : (fillTo s m).set m (fillAt s m) = fillTo s (m + 1) := by
  apply List.ext_getElem
  · simp [fillTo]
  · intro i h1 h2
    rw [List.getElem_set]
    simp only [fillTo, List.getElem_map, List.getElem_range]
    by_cases h : m = i
    · subst h
      rw [if_pos rfl, if_pos (by omega)]
    · rw [if_neg h]
      by_cases h3 : i < m
      · rw [if_pos h3, if_pos (by omega)]
      · rw [if_neg h3, if_neg (by omega)]
theorem fillTo_same (s : Bs) (m : Nat) (h : s = []) : fillTo s (m + 1) = fillTo s m := by
  subst h
  unfold fillTo
  congr 1
  funext i
  simp [fillAt]

theorem Fill_spec {w : World} {s : Bs} (hs : s.length ≤ 1000000000) {R : ByteArray → World → Prop} (hR : ∀ w', Below w.heap.size w w' → R (tx (fillS s)) w') : F.masonrylaw7_Fill (tx s) w R := by
  obtain ⟨i, hi, hz, hs1, hby⟩ := info_byte
  apply E.masonrylaw7_Fill
  unfold V.masonrylaw7_Fill
  refine runT_make (n := 256) und_bytes hi hz hs1 (by rw [hby]; decide) (by decide) fun w2 hO2 hF2 hs2 => ?_
  have hmk : (madeCells (Value.int .u8 0).cells (256 * 1)).toList = bv (fillTo s 0) := by
    have h := toList_madeCells_one (Value.int .u8 0) (256 * 1)
    rw [show (Value.int IntKind.u8 0).cells = #[Value.int .u8 0] from rfl, h]
    have : fillTo s 0 = List.replicate 256 0 := by simp [fillTo, List.map_const']
    rw [this]
    unfold bv
    rw [List.map_replicate]
    rfl
  rw [hmk] at hO2
  generalize hl : (⟨some (blk w.heap.size), 256, 256⟩ : Sl) = l at *
  have hla : l.a = some (blk w.heap.size) := by rw [← hl]
  have hll : l.len = 256 := by rw [← hl]
  have hbk : ∀ k, l.bk k → w.heap.size ≤ k := fun k hk => by
    obtain ⟨a, ha, rfl⟩ := hk
    rw [hla] at ha
    injection ha with ha
    subst ha
    exact Nat.le_refl _
  refine ⟨fun n w' => ∃ m : Nat, n = m ∧ m ≤ 256 ∧ Own w' T.y_uint8 1 l (bv (fillTo s m)) ∧ Below w.heap.size w w', fun n _ => (256 - n).toNat, ⟨0, rfl, by decide, hO2, below_fr hF2⟩, ?_⟩
  rintro n w3 ⟨m, rfl, hm, hO3, hB3⟩
  refine ⟨fun hlt => ?_, fun hge => ?_⟩
  · have hlt : m < 256 := by have := of_decide_eq_true hlt; omega
    have e1 : w64 ((m : Int) + 1) = ((m + 1 : Nat) : Int) := by rw [w64_id (by omega) (by omega)]; omega
    have hme : ((256 : Int) - ((m + 1 : Nat) : Int)).toNat < ((256 : Int) - (m : Int)).toNat := by omega
    refine ⟨fun hp => ?_, fun hp => ?_⟩
    · have hp := of_decide_eq_true hp
      rw [tx_size] at hp
      have et : (m : Int).tmod ((tx s).size : Int) = ((m % s.length : Nat) : Int) := by rw [tx_size]; exact (Int.ofNat_tmod m s.length).symm
      have hml : m % s.length < s.length := Nat.mod_lt _ (by omega)
      rw [et, tx_at]
      obtain ⟨q1, q2, q3⟩ := Own.set1 hO3 (k := m) (by simp only [bv, List.length_map, fillTo_len]; exact hlt) (.int .u8 ((s.getD (m % s.length) 0).toNat : Int)) hla
      refine ⟨by rw [tx_size]; omega, by omega, by rw [tx_size]; omega, blk w.heap.size, hla, by omega, by omega, by simpa using q1, ?_⟩
      rw [e1]
      intro w4
      have hw4 : w4 = w3.setCell ((blk w.heap.size).add m) (.int .u8 ((s.getD (m % s.length) 0).toNat : Int)) := by simp [w4]
      rw [← hw4] at q2 q3
      clear_value w4
      refine ⟨⟨m + 1, rfl, hlt, ?_, hB3.trans (q3.toBelow hbk hB3.size)⟩, hme⟩
      have e2 : (bv (fillTo s m)).set m (.int .u8 ((s.getD (m % s.length) 0).toNat : Int)) = bv (fillTo s (m + 1)) := by
        rw [← fillTo_succ s m hlt]
        have : s.getD (m % s.length) 0 = fillAt s m := by unfold fillAt; rw [if_pos (by omega)]
        rw [this]
        simp only [bv, List.map_set]
      rw [← e2]; exact q2
    · have hp := of_decide_eq_false hp
      rw [tx_size] at hp
      have : s = [] := List.eq_nil_of_length_eq_zero (by omega)
      rw [e1]
      refine ⟨⟨m + 1, rfl, hlt, ?_, hB3⟩, hme⟩
      rw [fillTo_same s m this]; exact hO3
  · have hmm : m = 256 := by have := of_decide_eq_false hge; omega
    subst hmm
    exact runT_bytes_str und_bytes und_byte und_str hO3 (hR w3 hB3)


theorem commit_l (d : Ds) (seq : Int) (ws : List Wr1) : (commitD d seq ws).l = (setAll ((setAll d.l (logN (nextT (keysW ws)) ws (nextT (keysW ws)).length)).set 0 (headB ⟨seq + 1, true, nextT (keysW ws)⟩)) (homN (nextT (keysW ws)) ws (nextT (keysW ws)).length)).set 0 (headB ⟨seq + 1, false, []⟩) := by
  show ((wrN _ _).l.set 0 _) = _
  rw [(wrN_facts _ _).1]
  show (setAll ((wrN _ _).l.set 0 _) _).set 0 _ = _
  rw [(wrN_facts _ _).1]
theorem commit_armed (d : Ds) (seq : Int) (ws : List Wr1) : (commitD d seq ws).armed = d.armed := by
  show (wrN _ _).armed = _
  rw [(wrN_facts _ _).2.2.2.2.2]
  show (wrN _ _).armed = _
  rw [(wrN_facts _ _).2.2.2.2.2]

/-! ### What opening makes of sectors -/
def hdOf (l : List Bs) : Hd := (readHead (l.getD 0 [])).1
/-- the sectors behind what the head says -/
def recL (l : List Bs) : List Bs := if (hdOf l).full then setAll l (logL l (hdOf l).ts (hdOf l).ts.length) else l
/-- sectors that can be opened -/
structure Snd (l : List Bs) (c : Int) : Prop where
  lo : 140 ≤ l.length
  hi : l.length ≤ 2000
  secs : ∀ s ∈ l, s.length = 256
  ok : (readHead (l.getD 0 [])).2 = 0
  seq : 0 ≤ (hdOf l).seq ∧ (hdOf l).seq ≤ c
  non : (hdOf l).full = false → (hdOf l).ts = []
  ts : (hdOf l).full = true → Up (hdOf l).ts ∧ (hdOf l).ts.length ≤ 110 ∧ ∀ t ∈ (hdOf l).ts, 0 ≤ t ∧ t < (l.length : Int) - 111

theorem up_inj {ts : List Int} (hup : Up ts) {i j : Nat} (hi : i < ts.length) (hj : j < ts.length) (h : ts.getD i 0 = ts.getD j 0) : i = j := by
  have hp : List.Pairwise (· < ·) ts := by first | exact hup | simpa [Up] using hup
  have e1 : ts.getD i 0 = ts[i] := by simp [hi]
  have e2 : ts.getD j 0 = ts[j] := by simp [hj]
  rw [e1, e2] at h
  rcases Nat.lt_trichotomy i j with hl | hl | hl
  · have := List.pairwise_iff_getElem.1 hp i j hi hj hl; omega
  · exact hl
  · have := List.pairwise_iff_getElem.1 hp j i hj hi hl; omega

/-- home sectors that are written by their places; v says what -/
theorem home_set {l : List Bs} {ts : List Int} {v : Nat → Bs} (hup : Up ts) (hts : ∀ t ∈ ts, 0 ≤ t ∧ t < (l.length : Int) - 111) {xs : List Wr1} (hx : ∀ x ∈ xs, ∃ j, j < ts.length ∧ x = (111 + ts.getD j 0, v j)) :
    (∀ j, j < ts.length → ((∃ x ∈ xs, x.1 = 111 + ts.getD j 0) ∨ l.getD (111 + (ts.getD j 0).toNat) [] = v j) → (setAll l xs).getD (111 + (ts.getD j 0).toNat) [] = v j) ∧
    (∀ i : Nat, (i < 111 ∨ ∀ j, j < ts.length → 111 + (ts.getD j 0).toNat ≠ i) → (setAll l xs).getD i [] = l.getD i []) := by
  have hr : ∀ j, j < ts.length → 0 ≤ ts.getD j 0 ∧ ts.getD j 0 < (l.length : Int) - 111 := fun j hj => by
    have e : ts.getD j 0 = ts[j] := by simp [hj]
    rw [e]; exact hts _ (List.getElem_mem hj)
  refine ⟨fun j hj hor => ?_, fun i hi => ?_⟩
  · have hj2 := hr j hj
    refine setAll_same _ _ _ _ (by omega) (fun x hxm hxk => ?_) ?_
    · obtain ⟨k, hk, rfl⟩ := hx x hxm
      have := hr k hk
      simp only at hxk ⊢
      rw [up_inj hup hk hj (by omega)]
    · rcases hor with ⟨x, hxm, he⟩ | h
      · exact .inl ⟨x, hxm, by rw [he]; omega⟩
      · exact .inr h
  · refine setAll_other _ _ _ fun x hxm hxk => ?_
    obtain ⟨k, hk, rfl⟩ := hx x hxm
    have := hr k hk
    simp only at hxk
    rcases hi with hi | hi
    · omega
    · exact hi k hk (by omega)

theorem log_mem {l : List Bs} {ts : List Int} {x : Wr1} (h : x ∈ logL l ts ts.length) : ∃ j, j < ts.length ∧ x = (111 + ts.getD j 0, l.getD (1 + j) []) := by
  simp only [logL, List.mem_map, List.mem_range] at h
  obtain ⟨j, hj, rfl⟩ := h
  exact ⟨j, hj, rfl⟩
theorem mem_log {l : List Bs} {ts : List Int} {j : Nat} (h : j < ts.length) : ∃ x ∈ logL l ts ts.length, x.1 = 111 + ts.getD j 0 := by
  refine ⟨(111 + ts.getD j 0, l.getD (1 + j) []), ?_, rfl⟩
  simp only [logL, List.mem_map, List.mem_range]
  exact ⟨j, h, rfl⟩

/-- while a full head is being done: whatever of it is written, opening makes the same of it -/
theorem done_part {l : List Bs} {c : Int} (h : Snd l c) (hf : (hdOf l).full = true) {ys : List Wr1} (hys : ys.Sublist (logL l (hdOf l).ts (hdOf l).ts.length)) :
    Snd (setAll l ys) c ∧ hdOf (setAll l ys) = hdOf l ∧ ∀ i : Nat, 111 + i < l.length → (recL (setAll l ys)).getD (111 + i) [] = (recL l).getD (111 + i) [] := by
  obtain ⟨hup, hl, hts⟩ := h.ts hf
  have hlo := h.lo
  have hxs : ∀ x ∈ ys, ∃ j, j < (hdOf l).ts.length ∧ x = (111 + (hdOf l).ts.getD j 0, l.getD (1 + j) []) := fun x hx => log_mem (hys.subset hx)
  obtain ⟨a1, a2⟩ := home_set hup hts hxs
  have e0 : (setAll l ys).getD 0 [] = l.getD 0 [] := a2 0 (.inl (by decide))
  have eh : hdOf (setAll l ys) = hdOf l := by unfold hdOf; rw [e0]
  have hll := setAll_len ys l
  refine ⟨⟨by omega, by rw [hll]; exact h.hi, setAll_mem _ _ h.secs fun x hx => ?_, by rw [e0]; exact h.ok, by rw [eh]; exact h.seq, by rw [eh]; exact h.non, by rw [eh, hll]; exact h.ts⟩, eh, fun i hi => ?_⟩
  · obtain ⟨j, hj, rfl⟩ := hxs x hx
    show (l.getD (1 + j) []).length = 256
    have e : l.getD (1 + j) [] = l[1 + j]'(by omega) := by simp [show 1 + j < l.length by omega]
    rw [e]; exact h.secs _ (List.getElem_mem _)
  · unfold recL
    rw [eh, hf, if_pos rfl, if_pos rfl]
    have elog : logL (setAll l ys) (hdOf l).ts (hdOf l).ts.length = logL l (hdOf l).ts (hdOf l).ts.length := by
      unfold logL
      refine List.map_congr_left fun j hj => ?_
      have := List.mem_range.1 hj
      rw [a2 (1 + j) (.inl (by omega))]
    rw [elog]
    obtain ⟨b1, b2⟩ := home_set (l := setAll l ys) (v := fun j => l.getD (1 + j) []) hup (by rw [hll]; exact hts) (fun x hx => log_mem hx)
    obtain ⟨c1, c2⟩ := home_set (l := l) (v := fun j => l.getD (1 + j) []) hup hts (fun x hx => log_mem hx)
    by_cases hex : ∃ j, j < (hdOf l).ts.length ∧ 111 + ((hdOf l).ts.getD j 0).toNat = 111 + i
    · obtain ⟨j, hj, he⟩ := hex
      rw [← he, b1 j hj (.inl (mem_log hj)), c1 j hj (.inl (mem_log hj))]
    · have hne : ∀ j, j < (hdOf l).ts.length → 111 + ((hdOf l).ts.getD j 0).toNat ≠ 111 + i := fun j hj he => hex ⟨j, hj, he⟩
      rw [b2 _ (.inr hne), c2 _ (.inr hne), a2 _ (.inr hne)]

theorem recL_done {l : List Bs} {s : Int} (h : hdOf l = ⟨s, false, []⟩) : recL l = l := by
  unfold recL
  rw [h]; rfl
theorem set0_get {l : List Bs} {v : Bs} {i : Nat} (h : 0 < i) : (l.set 0 v).getD i [] = l.getD i [] := by
  simp only [List.getD_eq_getElem?_getD]
  rw [List.getElem?_set_ne (by omega)]
theorem set0_zero {l : List Bs} {v : Bs} (h : 0 < l.length) : (l.set 0 v).getD 0 [] = v := by simp [h]

/-- it is done -/
theorem done_all {l : List Bs} {c : Int} (h : Snd l c) (hc : c ≤ 1099511627776) (hf : (hdOf l).full = true) :
    Snd ((recL l).set 0 (headB ⟨(hdOf l).seq, false, []⟩)) c ∧ hdOf ((recL l).set 0 (headB ⟨(hdOf l).seq, false, []⟩)) = ⟨(hdOf l).seq, false, []⟩ ∧ (recL l).length = l.length := by
  obtain ⟨hup, hl, hts⟩ := h.ts hf
  have hlo := h.lo
  have hs := h.seq
  have er : recL l = setAll l (logL l (hdOf l).ts (hdOf l).ts.length) := by unfold recL; rw [hf, if_pos rfl]
  have hll : (recL l).length = l.length := by rw [er, setAll_len]
  have hv := valid_done (seq := (hdOf l).seq) hs.1 (by omega)
  have e0 : readHead (((recL l).set 0 (headB ⟨(hdOf l).seq, false, []⟩)).getD 0 []) = (⟨(hdOf l).seq, false, []⟩, 0) := by rw [set0_zero (by omega)]; exact read_headB hv
  have eh : hdOf ((recL l).set 0 (headB ⟨(hdOf l).seq, false, []⟩)) = ⟨(hdOf l).seq, false, []⟩ := by
    show (readHead _).1 = _
    rw [e0]
  refine ⟨⟨by rw [List.length_set]; omega, by rw [List.length_set, hll]; exact h.hi, set_mem ?_ (headB_len hv), by rw [e0], by rw [eh]; exact hs, fun _ => by rw [eh], fun hx => (by rw [eh] at hx; cases hx)⟩, eh, hll⟩
  rw [er]
  refine setAll_mem _ _ h.secs fun x hx => ?_
  obtain ⟨j, hj, rfl⟩ := log_mem hx
  show (l.getD (1 + j) []).length = 256
  have e : l.getD (1 + j) [] = l[1 + j]'(by omega) := by simp [show 1 + j < l.length by omega]
  rw [e]; exact h.secs _ (List.getElem_mem _)

/-- opening falls: it can be opened again, and makes the same of it -/
theorem torn_open {l l' : List Bs} {c : Int} (h : Snd l c) (hc : c ≤ 1099511627776) (hf : (hdOf l).full = true) (ht : TornW l l (logL l (hdOf l).ts (hdOf l).ts.length) (headB ⟨(hdOf l).seq, false, []⟩) l') :
    Snd l' c ∧ l'.length = l.length ∧ ∀ i : Nat, 111 + i < l.length → (recL l').getD (111 + i) [] = (recL l).getD (111 + i) [] := by
  rcases ht with ⟨ys, hys, rfl⟩ | ⟨ys, hys, rfl⟩
  · obtain ⟨h1, h2, h3⟩ := done_part h hf hys
    exact ⟨h1, setAll_len _ _, h3⟩
  · obtain ⟨h1, h2, h3⟩ := done_part h hf (List.Sublist.refl _)
    obtain ⟨d1, d2, d3⟩ := done_all h hc hf
    have er : recL l = setAll l (logL l (hdOf l).ts (hdOf l).ts.length) := by unfold recL; rw [hf, if_pos rfl]
    rcases List.sublist_cons_iff.1 hys with hy | ⟨r, rfl, hr⟩
    · have : ys = [] := List.sublist_nil.1 hy
      subst this
      exact ⟨h1, by show (setAll l _).length = _; exact setAll_len _ _, h3⟩
    · have : r = [] := List.sublist_nil.1 hr
      subst this
      have e : setAll (setAll l (logL l (hdOf l).ts (hdOf l).ts.length)) [((0 : Int), headB ⟨(hdOf l).seq, false, []⟩)] = (recL l).set 0 (headB ⟨(hdOf l).seq, false, []⟩) := by rw [er]; rfl
      rw [e]
      refine ⟨d1, by rw [List.length_set, d3], fun i hi => ?_⟩
      have : recL ((recL l).set 0 (headB ⟨(hdOf l).seq, false, []⟩)) = (recL l).set 0 (headB ⟨(hdOf l).seq, false, []⟩) := by
        exact recL_done d2
      rw [this, set0_get (by omega)]

theorem Quiet.snd {d : Ds} {seq : Int} (h : Quiet d seq) {c : Int} (hs : 0 ≤ seq ∧ seq ≤ c) : Snd d.l c ∧ hdOf d.l = ⟨seq, false, []⟩ ∧ recL d.l = d.l := by
  have eh : hdOf d.l = ⟨seq, false, []⟩ := by unfold hdOf; rw [h.head]
  refine ⟨⟨h.lo, h.hi, h.secs, by rw [h.head], by rw [eh]; exact hs, fun _ => by rw [eh], fun hx => (by rw [eh] at hx; cases hx)⟩, eh, ?_⟩
  unfold recL
  rw [eh]; rfl

/-- the power went within a commit: home is as ahead of it, or as behind it -/
theorem torn_commit {d : Ds} {seq : Int} {ws : List Wr1} {l' : List Bs} (hq : Quiet d seq) (hs0 : 0 ≤ seq) (hs1 : seq < 1099511627776) (hE : lastE (sizeD d) ws = 0) (hne : ws ≠ []) (ht : TornC d.l seq ws l') :
    Snd l' (seq + 1) ∧ l'.length = d.l.length ∧ ((∀ i : Nat, 111 + i < d.l.length → (recL l').getD (111 + i) [] = homeAt d i) ∨ ∀ i : Nat, 111 + i < d.l.length → (recL l').getD (111 + i) [] = homeAt (commitD d seq ws) i) := by
  obtain ⟨hall, hlen⟩ := lastE_zero hE
  have htok := fun i hi => targets_ok (i := i) hE hi
  have hup := (nextT_up (keysW ws)).1
  have hcl := commit_l d seq ws
  have hqc := (commit_facts hq hs0 hs1 hE).1
  have htn : nextT (keysW ws) ≠ [] := fun e => by
    cases ws with
    | nil => exact hne rfl
    | cons p r =>
      have : p.1 ∈ nextT (keysW (p :: r)) := by rw [(nextT_up _).2]; simp [keysW]
      rw [e] at this; cases this
  unfold TornC at ht
  generalize nextT (keysW ws) = ts at *
  have hsz : sizeD d = (d.l.length : Int) - 111 := rfl
  have hlo := hq.lo
  have hhi := hq.hi
  have htr : ∀ t ∈ ts, 0 ≤ t ∧ t < (d.l.length : Int) - 111 := fun t ht => by
    obtain ⟨i, hi, rfl⟩ := List.mem_iff_getElem.1 ht
    have := htok i hi
    have e : ts.getD i 0 = ts[i] := by simp [hi]
    rw [e] at this
    omega
  have hv := valid_next (seq := seq + 1) (ts := ts) (by omega) (by omega) hup hlen htn fun t ht => by have := htr t ht; omega
  obtain ⟨q1, q2, q3⟩ := hq.snd (c := seq + 1) ⟨hs0, by omega⟩
  have hlogm : ∀ x ∈ logN ts ws ts.length, 0 ≤ x.1 ∧ 1 ≤ x.1.toNat ∧ x.1.toNat ≤ 110 ∧ x.2.length = 256 := fun x hx => by
    simp only [logN, List.mem_map, List.mem_range] at hx
    obtain ⟨i, hi, rfl⟩ := hx
    have := htok i hi
    exact ⟨by show (0 : Int) ≤ 1 + (i : Int); omega, by show 1 ≤ (1 + (i : Int)).toNat; omega, by show (1 + (i : Int)).toNat ≤ 110; omega, this.2.2⟩
  -- of the log alone
  have logp : ∀ ys : List Wr1, ys.Sublist (logN ts ws ts.length) → Snd (setAll d.l ys) (seq + 1) ∧ hdOf (setAll d.l ys) = ⟨seq, false, []⟩ ∧ recL (setAll d.l ys) = setAll d.l ys ∧ ∀ i, (i = 0 ∨ 111 ≤ i) → (setAll d.l ys).getD i [] = d.l.getD i [] := fun ys hys => by
    have hm := fun x hx => hlogm x (hys.subset hx)
    have ho : ∀ i, (i = 0 ∨ 111 ≤ i) → (setAll d.l ys).getD i [] = d.l.getD i [] := fun i hi => setAll_other _ _ _ fun x hx hxk => by have := hm x hx; omega
    have e0 := ho 0 (.inl rfl)
    have eh : hdOf (setAll d.l ys) = ⟨seq, false, []⟩ := by rw [← q2]; unfold hdOf; rw [e0]
    have hll := setAll_len ys d.l
    refine ⟨⟨by omega, by omega, setAll_mem _ _ hq.secs fun x hx => (hm x hx).2.2.2, by rw [e0]; exact q1.ok, by rw [eh]; exact ⟨hs0, by show seq ≤ seq + 1; omega⟩, fun _ => by rw [eh], fun hx => (by rw [eh] at hx; cases hx)⟩, eh, ?_, ho⟩
    unfold recL
    rw [eh]; rfl
  obtain ⟨g1, g2, g3, g4⟩ := logp _ (List.Sublist.refl _)
  have gl := setAll_len (logN ts ws ts.length) d.l
  -- the full head behind the log
  have e2 : readHead (((setAll d.l (logN ts ws ts.length)).set 0 (headB ⟨seq + 1, true, ts⟩)).getD 0 []) = (⟨seq + 1, true, ts⟩, 0) := by rw [set0_zero (by omega)]; exact read_headB hv
  have eh2 : hdOf ((setAll d.l (logN ts ws ts.length)).set 0 (headB ⟨seq + 1, true, ts⟩)) = ⟨seq + 1, true, ts⟩ := by
    show (readHead _).1 = _
    rw [e2]
  have S2 : Snd ((setAll d.l (logN ts ws ts.length)).set 0 (headB ⟨seq + 1, true, ts⟩)) (seq + 1) :=
    ⟨by rw [List.length_set]; omega, by rw [List.length_set]; omega, set_mem g1.secs (headB_len hv), by rw [e2], by rw [eh2]; exact ⟨by show 0 ≤ seq + 1; omega, by show seq + 1 ≤ seq + 1; omega⟩, fun hx => (by rw [eh2] at hx; cases hx), fun _ => by rw [eh2, List.length_set, gl]; exact ⟨hup, hlen, htr⟩⟩
  have elog : logL ((setAll d.l (logN ts ws ts.length)).set 0 (headB ⟨seq + 1, true, ts⟩)) ts ts.length = homN ts ws ts.length := by
    unfold logL homN
    refine List.map_congr_left fun j hj => ?_
    have hj := List.mem_range.1 hj
    rw [set0_get (by omega)]
    congr 1
    refine setAll_same _ _ _ _ (by omega) (fun x hx hxk => ?_) (.inl ⟨(1 + (j : Int), lastW ws (ts.getD j 0)), ?_, by show (1 + (j : Int)).toNat = 1 + j; omega⟩)
    · simp only [logN, List.mem_map, List.mem_range] at hx
      obtain ⟨i, hi, rfl⟩ := hx
      simp only at hxk ⊢
      have : i = j := by omega
      rw [this]
    · simp only [logN, List.mem_map, List.mem_range]
      exact ⟨j, hj, rfl⟩
  have erec : recL ((setAll d.l (logN ts ws ts.length)).set 0 (headB ⟨seq + 1, true, ts⟩)) = setAll ((setAll d.l (logN ts ws ts.length)).set 0 (headB ⟨seq + 1, true, ts⟩)) (homN ts ws ts.length) := by
    unfold recL
    rw [eh2]
    simp only [if_true]
    rw [elog]
  have hnew : ∀ i : Nat, (recL ((setAll d.l (logN ts ws ts.length)).set 0 (headB ⟨seq + 1, true, ts⟩))).getD (111 + i) [] = homeAt (commitD d seq ws) i := fun i => by
    unfold homeAt
    rw [erec, hcl, set0_get (by omega)]
  rcases ht with ⟨ys, hys, rfl⟩ | ⟨ys, hys, rfl⟩ | ht
  · obtain ⟨p1, p2, p3, p4⟩ := logp ys hys
    refine ⟨p1, setAll_len _ _, .inl fun i hi => ?_⟩
    rw [p3]; exact p4 _ (.inr (by omega))
  · rcases List.sublist_cons_iff.1 hys with hy | ⟨r, rfl, hr⟩
    · have : ys = [] := List.sublist_nil.1 hy
      subst this
      refine ⟨g1, gl, .inl fun i hi => ?_⟩
      show (recL (setAll d.l (logN ts ws ts.length))).getD _ [] = _
      rw [g3]; exact g4 _ (.inr (by omega))
    · have : r = [] := List.sublist_nil.1 hr
      subst this
      exact ⟨S2, by show ((setAll d.l (logN ts ws ts.length)).set 0 _).length = _; rw [List.length_set, gl], .inr fun i hi => hnew i⟩
  · have ht2 : TornW ((setAll d.l (logN ts ws ts.length)).set 0 (headB ⟨seq + 1, true, ts⟩)) ((setAll d.l (logN ts ws ts.length)).set 0 (headB ⟨seq + 1, true, ts⟩)) (logL ((setAll d.l (logN ts ws ts.length)).set 0 (headB ⟨seq + 1, true, ts⟩)) (hdOf ((setAll d.l (logN ts ws ts.length)).set 0 (headB ⟨seq + 1, true, ts⟩))).ts (hdOf ((setAll d.l (logN ts ws ts.length)).set 0 (headB ⟨seq + 1, true, ts⟩))).ts.length) (headB ⟨(hdOf ((setAll d.l (logN ts ws ts.length)).set 0 (headB ⟨seq + 1, true, ts⟩))).seq, false, []⟩) l' := by
      rw [eh2]
      simp only
      rw [elog]
      exact ht
    obtain ⟨k1, k2, k3⟩ := torn_open S2 (by omega) (by rw [eh2]) ht2
    rw [List.length_set, gl] at k2 k3
    exact ⟨k1, k2, .inr fun i hi => (k3 i hi).trans (hnew i)⟩
end Go.Proofs.YtepclihkniaieaaGreatDoor
