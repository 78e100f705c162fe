/- what a commit leaves on the disk; masonrylaw7.Fill; masonrylaw9.alive. -/
import Derived.Test.YtmokmbhhnbcelaaGreatDoorWb
set_option linter.unusedVariables false
namespace Go.Proofs.YtmokmbhhnbcelaaGreatDoor
open Go Go.Vc Go.RowKit Go.Lib
def setAll (l : List Bs) (xs : List Wr1) : List Bs := xs.foldl (fun l x => l.set x.1.toNat x.2) l
theorem setAll_cons (l : List Bs) (x : Wr1) (xs : List Wr1) : setAll l (x :: xs) = setAll (l.set x.1.toNat x.2) xs := rfl
theorem setAll_len : ∀ (xs : List Wr1) (l : List Bs), (setAll l xs).length = l.length
  | [], l => rfl
  | x :: xs, l => by rw [setAll_cons, setAll_len xs, List.length_set]
theorem wrN_l : ∀ (xs : List Wr1) (d : Ds), (wrN d xs).l = setAll d.l xs
  | [], d => rfl
  | x :: xs, d => by
    show (wrN (wr1 d x) xs).l = _
    rw [wrN_l xs]; rfl
theorem setAll_other : ∀ (xs : List Wr1) (l : List Bs) (k : Nat), (∀ x ∈ xs, x.1.toNat ≠ k) → (setAll l xs).getD k [] = l.getD k []
  | [], l, k, h => rfl
  | x :: xs, l, k, h => by
    rw [setAll_cons, setAll_other xs _ k (fun y hy => h y (List.mem_cons_of_mem _ hy))]
    have := h x List.mem_cons_self
    simp only [List.getD_eq_getElem?_getD]
    rw [List.getElem?_set_ne this]
theorem setAll_same : ∀ (xs : List Wr1) (l : List Bs) (k : Nat) (v : Bs), k < l.length → (∀ x ∈ xs, x.1.toNat = k → x.2 = v) → ((∃ x ∈ xs, x.1.toNat = k) ∨ l.getD k [] = v) → (setAll l xs).getD k [] = v
  | [], l, k, v, hk, h, h2 => by
    rcases h2 with ⟨x, hx, _⟩ | h2
    · cases hx
    · exact h2
  | x :: xs, l, k, v, hk, h, h2 => by
    rw [setAll_cons]
    refine setAll_same xs _ k v (by rw [List.length_set]; exact hk) (fun y hy => h y (List.mem_cons_of_mem _ hy)) ?_
    by_cases hx : x.1.toNat = k
    · refine .inr ?_
      rw [h x List.mem_cons_self hx, hx]
      simp [hk]
    · rcases h2 with ⟨y, hy, hyk⟩ | h2
      · rcases List.mem_cons.1 hy with rfl | hy
        · exact absurd hyk hx
        · exact .inl ⟨y, hy, hyk⟩
      · refine .inr ?_
        simp only [List.getD_eq_getElem?_getD] at h2 ⊢
        rw [List.getElem?_set_ne hx]; exact h2
/-- a disk on which nothing is under way -/
structure Quiet (d : Ds) (seq : Int) : Prop where
  off : d.off = false
  ws : d.ws.length ≤ 10
  lo : 140 ≤ d.l.length
  hi : d.l.length ≤ 2000
  head : readHead (d.l.getD 0 []) = (⟨seq, false, []⟩, 0)
  hlen : (d.l.getD 0 []).length = 256
  many : 0 ≤ d.many
  secs : ∀ s ∈ d.l, s.length = 256
theorem setAll_mem {P : Bs → Prop} : ∀ (xs : List Wr1) (l : List Bs), (∀ s ∈ l, P s) → (∀ x ∈ xs, P x.2) → ∀ s ∈ setAll l xs, P s
  | [], l, hl, _ => hl
  | x :: xs, l, hl, hx => setAll_mem xs _ (fun s hs => by
      rcases List.mem_or_eq_of_mem_set hs with h | h
      · exact hl s h
      · subst h; exact hx x (List.mem_cons_self ..)) (fun y hy => hx y (List.mem_cons_of_mem _ hy))
theorem set_mem {P : Bs → Prop} {l : List Bs} {i : Nat} {v : Bs} (hl : ∀ s ∈ l, P s) (hv : P v) : ∀ s ∈ l.set i v, P s := fun s hs => by
  rcases List.mem_or_eq_of_mem_set hs with h | h
  · exact hl s h
  · subst h; exact hv
def homeAt (d : Ds) (i : Nat) : Bs := d.l.getD (111 + i) []
theorem zeroS_len : zeroS.length = 256 := List.length_replicate
theorem Quiet.new {n : Nat} (h1 : 140 ≤ n) (h2 : n ≤ 2000) : Quiet (newD n) 0 := by
  have e : (newD n).l.getD 0 [] = zeroS := by
    show (List.replicate n zeroS).getD 0 [] = _
    simp [show 0 < n by omega]
  refine ⟨rfl, by show 0 ≤ 10; decide, by simp [newD, h1], by simp [newD, h2], ?_, by rw [e]; exact zeroS_len, by simp [newD], fun s hs => by rw [List.eq_of_mem_replicate (show s ∈ List.replicate n zeroS from hs)]; exact zeroS_len⟩
  rw [e]
  have h : zeroS.all (fun x => [(0 : UInt8)].contains x) = true := List.all_eq_true.2 fun x hx => by rw [List.eq_of_mem_replicate hx]; rfl
  unfold readHead
  rw [if_neg (by rw [zeroS_len]; decide), if_pos h]
theorem valid_done {seq : Int} (h0 : 0 ≤ seq) (h1 : seq ≤ 1099511627776) : validH ⟨seq, false, []⟩ = true := by
  simp only [validH, List.length_nil, List.range_zero, List.all_nil, Bool.and_true, Bool.and_eq_true, decide_eq_true_eq]
  exact ⟨h0, h1, by decide, by simp⟩
theorem read_headB {h : Hd} (hv : validH h = true) : readHead (headB h) = (h, 0) := read_lay hv
theorem commit_facts {d : Ds} {seq : Int} {ws : List Wr1} (hq : Quiet d seq) (hs0 : 0 ≤ seq) (hs1 : seq < 1099511627776) (hE : lastE (sizeD d) ws = 0) :
    Quiet (commitD d seq ws) (seq + 1) ∧ (commitD d seq ws).l.length = d.l.length ∧ (commitD d seq ws).many = d.many + 2 * ((nextT (keysW ws)).length : Int) + 2 ∧
      ∀ i : Nat, 111 + i < d.l.length → homeAt (commitD d seq ws) i = if (i : Int) ∈ keysW ws then lastW ws i else homeAt d i := by
  obtain ⟨hall, hlen⟩ := lastE_zero hE
  have htok := fun i hi => targets_ok (i := i) hE hi
  have hmem := (nextT_up (keysW ws)).2
  have hup := (nextT_up (keysW ws)).1
  have hsz : sizeD d = (d.l.length : Int) - 111 := rfl
  have hlo := hq.lo
  have hhi := hq.hi
  unfold commitD
  generalize nextT (keysW ws) = ts at *
  simp only
  have el : (flushD (wr1 (flushD (wrN (flushD (wr1 (flushD (wrN d (logN ts ws ts.length))) (0, headB ⟨seq + 1, true, ts⟩))) (homN ts ws ts.length))) (0, headB ⟨seq + 1, false, []⟩))).l =
      (setAll ((setAll d.l (logN ts ws ts.length)).set 0 (headB ⟨seq + 1, true, ts⟩)) (homN ts ws ts.length)).set 0 (headB ⟨seq + 1, false, []⟩) := by
    show ((wrN _ _).l.set 0 _) = _
    rw [wrN_l]
    show (setAll ((wrN _ _).l.set 0 _) _).set 0 _ = _
    rw [wrN_l]
  have em : (flushD (wr1 (flushD (wrN (flushD (wr1 (flushD (wrN d (logN ts ws ts.length))) (0, headB ⟨seq + 1, true, ts⟩))) (homN ts ws ts.length))) (0, headB ⟨seq + 1, false, []⟩))).many = d.many + 2 * (ts.length : Int) + 2 := by
    show (wrN _ _).many + 1 = _
    rw [(wrN_facts _ _).2.2.1]
    show (wrN _ _).many + 1 + _ + 1 = _
    rw [(wrN_facts _ _).2.2.1, logN_len, homN_len]
    omega
  have eo : (flushD (wr1 (flushD (wrN (flushD (wr1 (flushD (wrN d (logN ts ws ts.length))) (0, headB ⟨seq + 1, true, ts⟩))) (homN ts ws ts.length))) (0, headB ⟨seq + 1, false, []⟩))).off = false := by
    show (wrN _ _).off = _
    rw [(wrN_facts _ _).2.1]
    show (wrN _ _).off = _
    rw [(wrN_facts _ _).2.1, hq.off]
  have ell : ((setAll ((setAll d.l (logN ts ws ts.length)).set 0 (headB ⟨seq + 1, true, ts⟩)) (homN ts ws ts.length)).set 0 (headB ⟨seq + 1, false, []⟩)).length = d.l.length := by
    rw [List.length_set, setAll_len, List.length_set, setAll_len]
  have e0 : ((setAll ((setAll d.l (logN ts ws ts.length)).set 0 (headB ⟨seq + 1, true, ts⟩)) (homN ts ws ts.length)).set 0 (headB ⟨seq + 1, false, []⟩)).getD 0 [] = headB ⟨seq + 1, false, []⟩ := by
    have : 0 < (setAll ((setAll d.l (logN ts ws ts.length)).set 0 (headB ⟨seq + 1, true, ts⟩)) (homN ts ws ts.length)).length := by rw [setAll_len, List.length_set, setAll_len]; omega
    simp [this]
  have hv := valid_done (seq := seq + 1) (by omega) (by omega)
  have h256 : ∀ s ∈ (setAll ((setAll d.l (logN ts ws ts.length)).set 0 (headB ⟨seq + 1, true, ts⟩)) (homN ts ws ts.length)).set 0 (headB ⟨seq + 1, false, []⟩), s.length = 256 := by
    by_cases hte : ts = []
    · subst hte
      show ∀ s ∈ ((d.l.set 0 _).set 0 _), s.length = 256
      rw [List.set_set]
      exact set_mem hq.secs (headB_len hv)
    · have hhl := headB_len (valid_next (seq := seq + 1) (by omega) (by omega) hup hlen hte fun x hx => by
        obtain ⟨j, hj, rfl⟩ := List.mem_iff_getElem.1 hx
        have h1 := htok j hj
        have e : ts.getD j 0 = ts[j] := by simp [hj]
        rw [e] at h1
        omega)
      exact set_mem (setAll_mem _ _ (set_mem (setAll_mem _ _ hq.secs fun x hx => by
        simp only [logN, List.mem_map, List.mem_range] at hx
        obtain ⟨j, hj, rfl⟩ := hx
        exact (htok j hj).2.2) hhl) fun x hx => by
        simp only [homN, List.mem_map, List.mem_range] at hx
        obtain ⟨j, hj, rfl⟩ := hx
        exact (htok j hj).2.2) (headB_len hv)
  refine ⟨⟨eo, Nat.zero_le _, by rw [el, ell]; exact hlo, by rw [el, ell]; exact hhi, by rw [el, e0]; exact read_headB hv, by rw [el, e0]; exact headB_len hv, by rw [em]; have := hq.many; omega, by rw [el]; exact h256⟩, by rw [el, ell], em, fun i hi => ?_⟩
  unfold homeAt
  rw [el]
  have n0 : ∀ (l : List Bs) (v : Bs), (l.set 0 v).getD (111 + i) [] = l.getD (111 + i) [] := fun l v => by
    simp only [List.getD_eq_getElem?_getD]
    rw [List.getElem?_set_ne (by omega)]
  rw [n0]
  by_cases hm : (i : Int) ∈ keysW ws
  · rw [if_pos hm]
    refine setAll_same _ _ _ _ (by rw [List.length_set, setAll_len]; exact hi) (fun x hx hxk => ?_) (.inl ?_)
    · simp only [homN, List.mem_map, List.mem_range] at hx
      obtain ⟨j, hj, rfl⟩ := hx
      have := htok j hj
      simp only at hxk ⊢
      have e : ts.getD j 0 = (i : Int) := by omega
      rw [e]
    · have hm' := (hmem (i : Int)).2 hm
      obtain ⟨j, hj, hje⟩ := List.mem_iff_getElem.1 hm'
      have e : ts.getD j 0 = (i : Int) := by simp [hj, hje]
      refine ⟨(111 + ts.getD j 0, lastW ws (ts.getD j 0)), ?_, ?_⟩
      · simp only [homN, List.mem_map, List.mem_range]
        exact ⟨j, hj, rfl⟩
      · show (111 + ts.getD j 0).toNat = _
        rw [e]; omega
  · rw [if_neg hm]
    rw [setAll_other _ _ _ (fun x hx hxk => ?_), n0, setAll_other _ _ _ (fun x hx hxk => ?_)]
    · simp only [logN, List.mem_map, List.mem_range] at hx
      obtain ⟨j, hj, rfl⟩ := hx
      simp only at hxk
      omega
    · simp only [homN, List.mem_map, List.mem_range] at hx
      obtain ⟨j, hj, rfl⟩ := hx
      have := htok j hj
      simp only at hxk
      have e : ts.getD j 0 = (i : Int) := by omega
      refine hm ((hmem _).1 ?_)
      rw [← e]
      have : ts.getD j 0 = ts[j] := by simp [hj]
      rw [this]; exact List.getElem_mem _
theorem Own.set1 {w : World} {t : TypeId} {l : Sl} {xs : List Value} (h : Own w t 1 l xs) {k : Nat} (hk : k < xs.length) (x : Value) {a : Addr} (ha : l.a = some a) :
    Wr w (a.add k) ∧ Own (w.setCell (a.add k) x) t 1 l (xs.set k x) ∧ Fr l.bk w (w.setCell (a.add k) x) := by
  have hlen := h.len
  obtain ⟨g, cur, ha', hg, hc, ht, hlc, hm⟩ := Own.row h (by omega)
  rw [ha] at ha'
  injection ha' with ha'
  subst ha'
  have h2 := blk_set hg k x
  refine ⟨blk_wr hg (by omega), ?_, (fr_set w g k _).mono (fun i _ hi => ⟨blk g, ha, Eq.symm hi⟩)⟩
  have h3 := Own.of (n := l.len) (cap := l.cap) h2 (by rw [List.length_set, hc]) hlc hm
  have e : (cur.set k x).take (l.len * 1) = xs.set k x := by
    rw [List.take_set, ht]
  rw [e] at h3
  have : l = ⟨some (blk g), l.len, l.cap⟩ := by cases l; simp only at ha; subst ha; rfl
  rw [this]; exact h3
def fillAt (s : Bs) (i : Nat) : UInt8 := if 0 < s.length then s.getD (i % s.length) 0 else 0
def fillTo (s : Bs) (m : Nat) : Bs := (List.range 256).map fun i => if i < m then fillAt s i else 0
def fillS (s : Bs) : Bs := fillTo s 256
end Go.Proofs.YtmokmbhhnbcelaaGreatDoor

/- masonrylaw9.alive, WalNone: the walk. -/
set_option linter.unusedVariables false
namespace Go.Proofs.YtmokmbhhnbcelaaGreatDoor
open Go Go.Vc Go.RowKit Go.Lib
theorem lastE_ok {n : Int} {ws : List Wr1} (h : ∀ x ∈ ws, 0 ≤ x.1 ∧ x.1 < n ∧ x.2.length = 256) (hl : (nextT (keysW ws)).length ≤ 110) : lastE n ws = 0 := by
  have e : ws.find? (fun x => decide (badW n x ≠ 0)) = none := by
    rw [List.find?_eq_none]
    intro x hx
    have := h x hx
    have : badW n x = 0 := by unfold badW; rw [if_neg (by omega), if_neg (by omega)]
    simp [this]
  unfold lastE
  rw [e]
  simp only
  rw [if_neg (by omega)]
theorem Open_quiet {w : World} {g : Nat} {fp : Nat → Prop} {d : Ds} {seq : Int} (hd : Dsk w g fp d) (hq : Quiet d seq)
    {R : Option Addr → Int → World → Prop} (hR : ∀ u w', Wl w' u g ⟨seq, false, 0⟩ → w.heap.size ≤ u → Below w.heap.size w w' → R (some (blk u)) 0 w') : F.wal_Open (some (blk g)) w R :=
  Open_ok hd hq.off (by have := hq.lo; omega) hq.head (by rw [hq.hlen]; decide) hR
section
variable {w : World}
end
end Go.Proofs.YtmokmbhhnbcelaaGreatDoor

/- WalCosts: the walk. -/
set_option linter.unusedVariables false
namespace Go.Proofs.YtmokmbhhnbcelaaGreatDoor
open Go Go.Vc Go.RowKit Go.Lib Go.Maps Go.Proofs
theorem und_bool' : Pg.underlying T.y_bool = some .bool := by kernel_rfl
theorem und_mib : Pg.underlying T.y_map_int_bool = some (.map T.y_int T.y_bool) := by kernel_rfl
/-- block b is a map that has these numbers -/
def SetOf (w : World) (b : Nat) (ks : List Int) : Prop :=
  ∃ (D : DataW Unit) (n : Nat), w.ownsMap Pg T.y_int (plainElem (H := Unit) Pg T.y_bool) b n D ∧ n ≤ ks.length ∧ ∀ x : Int, Maps.has D (.int .i64 x) = true ↔ x ∈ ks
theorem SetOf.made (w : World) : SetOf (w.alloc (.map #[] 0)) w.heap.size [] :=
  ⟨.map [], 0, World.ownsMap_made w Pg T.y_int _, Nat.le_refl _, fun x => by simp [Maps.has_eq]⟩
theorem SetOf.lt {w : World} {b : Nat} {ks : List Int} (h : SetOf w b ks) : b < w.heap.size := by obtain ⟨D, n, ho, _⟩ := h; exact ho.lt
theorem SetOf.keep {w w' : World} {b : Nat} {ks : List Int} (h : SetOf w b ks) {Z : Nat → Prop} (hf : Fr Z w w') (hz : ¬ Z b) : SetOf w' b ks := by
  obtain ⟨D, n, ⟨es, clock, hb, r⟩, h2⟩ := h
  exact ⟨D, n, ⟨es, clock, hf.heap hb hz, r⟩, h2⟩
theorem SetOf.put {w : World} {b : Nat} {ks : List Int} (h : SetOf w b ks) (hl : ks.length ≤ 1000000) {x : Int} (hx : -9223372036854775808 ≤ x ∧ x < 9223372036854775808) {R : World → Prop}
    (hR : ∀ w', SetOf w' b (ks ++ [x]) → Fr (· = b) w w' → R w') : RunU Pg (Instr.mapUpdate T.y_map_int_bool (.map (some b)) (.int .i64 x) (.bool true)) w R := by
  obtain ⟨D, n, ho, hn, hh⟩ := h
  obtain ⟨w', hrun, ho', hg⟩ := ho.update Kint und_mib (by simp only [maxLen]; omega) (keyOf_int_mk und_int' (intWf hx)) (plainElem_bool und_bool' true)
  have hm := ho.isMap
  refine ⟨w', hrun, hR w' ⟨_, n + 1, ho', by simp only [List.length_append, List.length_cons, List.length_nil]; omega, fun y => ?_⟩ (Fr.grown (S := (· = b)) hg fun k hk => (Option.some.inj hk).symm)⟩
  by_cases hy : y = x
  · subst hy
    rw [has_put_same hm (show WideAt.IsKeyLit (.int .i64 y) from trivial)]
    simp
  · rw [has_put_other (by simpa using hy), hh y]
    simp [hy]
theorem SetOf.len {w : World} {b : Nat} {ks : List Int} (h : SetOf w b ks) {R : Int → World → Prop} (hR : R ((nextT ks).length : Int) w) :
    RunT Pg (Builtin.len_ #[T.y_map_int_bool] T.y_int #[.map (some b)]) [.one (.int .i64)] w R := by
  obtain ⟨D, n, ho, hn, hh⟩ := h
  have h2 := ho.len und_mib T.y_int
  have e : Maps.size D = (nextT ks).length := by
    obtain ⟨es, hD, hpw, _⟩ := ho.entries Kint
    obtain ⟨es', hD', hko⟩ := ho.keysOf
    obtain rfl : es = es' := by rw [hD] at hD'; simpa using hD'
    subst hD
    have hp := (perm_intKeys hpw (fun p hp => by obtain ⟨v, hv⟩ := hko p hp; obtain ⟨x, _, hx, _⟩ := Maps.keyOf_i64 und_int' hv; exact ⟨x, hx⟩) (nodup_nextT ks) (fun x => by rw [(nextT_up _).2 x, hh x])).length_eq
    rw [hp]
    simp [intKeys, Maps.size]
  rw [e] at h2
  exact ⟨_, w, h2, hR⟩
section
variable {w : World} {u g : Nat} {s : WlS} {fp : Nat → Prop} {d : Ds}
end
end Go.Proofs.YtmokmbhhnbcelaaGreatDoor
