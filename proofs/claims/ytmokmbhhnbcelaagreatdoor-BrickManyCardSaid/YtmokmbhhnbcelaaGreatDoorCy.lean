/- chain: calls on a chain that is there; masonrylaw12.Fresh, alive. -/
import Derived.Test.YtmokmbhhnbcelaaGreatDoorCp
import Derived.Test.YtmokmbhhnbcelaaGreatDoorSheli
import Derived.Test.YtmokmbhhnbcelaaGreatDoorShelg
set_option linter.unusedVariables false
namespace Go.Proofs.YtmokmbhhnbcelaaGreatDoor
open Go Go.Vc Go.RowKit Go.Lib
theorem freeN_bs0 {m : Nat} (hm : 2 ≤ m) : freeN (bs0 m) = m - 2 := by
  have e : bs0 m = takeN (List.replicate m false) 2 := by
    have f0 : freeAt (List.replicate m false) = 0 := freeAt_eq (fun i hi => by omega) (by rw [List.getElem?_replicate, if_pos (by omega)])
    have f1 : freeAt ((List.replicate m false).set 0 true) = 1 := freeAt_eq (fun i hi => by
      have : i = 0 := by omega
      subst this
      rw [List.getElem?_set_self (by simp; omega)]) (by rw [List.getElem?_set_ne (by omega), List.getElem?_replicate, if_pos (by omega)])
    show _ = (takeN (List.replicate m false) 1).set (freeAt (takeN (List.replicate m false) 1)) true
    have t1 : takeN (List.replicate m false) 1 = (List.replicate m false).set 0 true := by
      show (List.replicate m false).set (freeAt (List.replicate m false)) true = _
      rw [f0]
    rw [t1, f1]
    rfl
  have h0 : freeN (List.replicate m false) = m := by simp [freeN, List.countP_replicate]
  have := freeN_take (bs := List.replicate m false) (j := 2) (by omega)
  rw [e]; omega
theorem fmt0_bs {n : Nat} : (fmt0 n).bs = bs0 (n - 111) := by
  unfold fmt0 fmtD
  exact Eq.refl (bs0 (n - 111))
theorem put_has {D : DkV} {gen tag : Int} {b : Bs} (hf : needN b.length ≤ freeN D.bs) : HasC (putS D gen tag b (needN b.length) (needN b.length)).1 (linkP D gen tag b (needN b.length)) (placeP D (needN b.length)) (needN b.length) :=
  fun i hi => (putS_get (needN b.length) (Nat.le_refl _) hf).1 i (by omega) hi
theorem put_else {D : DkV} {gen tag : Int} {b : Bs} (hf : needN b.length ≤ freeN D.bs) {a : Int} (ha : ∀ i, i < needN b.length → placeP D (needN b.length) i ≠ a) : getE (putS D gen tag b (needN b.length) (needN b.length)).1 a = getE D a ∧ getD (putS D gen tag b (needN b.length) (needN b.length)).1 a = getD D a :=
  (putS_get (needN b.length) (Nat.le_refl _) hf).2 a fun i _ hi => ha i hi
theorem dataOf_put {D : DkV} {gen tag : Int} {b : Bs} (hb : b.length ≤ 9440) {n : Nat} : dataOf ((List.range (needN b.length)).map (linkP D gen tag b n)) = b := by
  have : (List.range (needN b.length)).map (fun i => (linkP D gen tag b n i).data) = (List.range (needN b.length)).map (partB b) := rfl
  unfold dataOf
  rw [List.map_map]
  show ((List.range (needN b.length)).map (fun i => (linkP D gen tag b n i).data)).flatten = b
  rw [this, partB_whole hb]
/-- the places that Put takes are in use behind it, and were free -/
theorem place_used {D : DkV} {n i : Nat} (hi : i < n) (hn : n ≤ freeN D.bs) : usedB (takeN D.bs n) (placeP D n i) = true ∧ D.bs.getD (placeP D n i).toNat false = false := by
  unfold placeP
  rw [if_pos hi]
  have h1 := take_lt (bs := D.bs) (j := n - 1 - i) (by omega)
  have h2 := (take_get D.bs n _ h1).2 (.inr ⟨n - 1 - i, by omega, rfl⟩)
  refine ⟨?_, ?_⟩
  · unfold usedB
    rw [takeN_len, decide_eq_true (by omega), decide_eq_true (by omega), Int.toNat_natCast, h2]; rfl
  · rw [Int.toNat_natCast]; exact take_was (by omega)
section
variable {w : World} {X : List As} {k g c : Nat} {D : DkV} {n : Nat} {L : Nat → Lk} {P : Nat → Int}
theorem Get_chn (h : St w (DeskS k g c D :: X)) (hc : Chn n L P) (hg : HasC D L P n) (hP : 0 ≤ P 0 ∧ P 0 < 65536) {R : Int → Int → Int → ByteArray → Int → World → Prop}
    (hR : ∀ w', St w' (DeskS k g c D :: X) → R (L 0).gen (L 0).tag (L 0).refs (tx (dataOf ((List.range n).map L))) 0 w') : F.chain_Get (some (blk k)) (P 0) w R := by
  have hw := hc.walk hg
  refine Get_chain h (by omega) (fun w' he => absurd (by rw [hw]) he) fun x xs w' hx he h' => ?_
  rw [hw] at hx
  have hp := hc.pos
  have e : (List.range n).map L = x :: xs := hx
  rw [← e]
  obtain ⟨m, rfl⟩ : ∃ m, n = m + 1 := ⟨n - 1, by omega⟩
  rw [List.range_succ_eq_map] at e
  simp only [List.map_cons, List.cons.injEq] at e
  rw [← e.1]
  exact hR w' h'
theorem Fresh_st (h : St w X) {n : Nat} (h1 : 140 ≤ n) (h2 : n ≤ 2000) {R : Option Addr → World → Prop} (hR : ∀ k g w', St w' (DeskS k g 1001 (fmt0 n) :: X) → R (some (blk k)) w') : F.masonrylaw12_Fresh (n : Int) w R := by
  apply E.masonrylaw12_Fresh
  unfold V.masonrylaw12_Fresh
  try simp (config := { zeta := false }) only [cnd_all]
  refine newdisk_st h h1 h2 fun g w1 h1' => ⟨fun h => absurd rfl h, fun _ => format0_st h1' h1 h2 fun k w2 h2' => ⟨fun h => absurd rfl h, fun _ => ⟨fun h => (by cases h), fun _ => ?_⟩⟩⟩
  obtain ⟨u, hu⟩ := DeskS.wal h2'
  exact ⟨blk k, rfl, some (blk u), hu, fun h => (by cases h), fun _ => hR k g w2 h2'⟩
end
end Go.Proofs.YtmokmbhhnbcelaaGreatDoor

/- crc: one byte that is another one is found. -/
set_option linter.unusedVariables false
namespace Go.Proofs.YtmokmbhhnbcelaaGreatDoor
open Go Go.Vc Go.RowKit Go.Lib
end Go.Proofs.YtmokmbhhnbcelaaGreatDoor

/- chain: of two chains, one that is spoilt; in plain words. -/
set_option linter.unusedVariables false
namespace Go.Proofs.YtmokmbhhnbcelaaGreatDoor
open Go Go.Vc Go.RowKit Go.Lib
structure Two (D : DkV) (na nb : Nat) (Lx Ly : Nat → Lk) (Px Py : Nat → Int) : Prop where
  cx : Chn na Lx Px
  cy : Chn nb Ly Py
  hx : HasC D Lx Px na
  hy : HasC D Ly Py nb
  ne : ∀ i j, i < na → j < nb → Px i ≠ Py j
section
variable {D : DkV} {na nb : Nat} {Lx Ly : Nat → Lk} {Px Py : Nat → Int}
theorem HasC.set {L : Nat → Lk} {P : Nat → Int} {n : Nat} (h : HasC D L P n) {a : Int} {t : Bs} (hn : ∀ i, i < n → P i ≠ a) : HasC (setD D a t) L P n := fun i hi => by
  obtain ⟨g1, g2⟩ := get_set D a t (P i)
  rw [g1, g2, if_neg (hn i hi), if_neg (hn i hi)]
  exact h i hi
theorem Two.other (h : Two D na nb Lx Ly Px Py) {i : Nat} (hi : i < na) (t : Bs) : HasC (setD D (Px i) t) Ly Py nb := h.hy.set fun j hj e => h.ne i j hi hj e.symm
theorem Two.bad (h : Two D na nb Lx Ly Px Py) {i : Nat} (hi : i < na) {t : Bs} (hb : ((readLk t).2 && lkStep ((List.range i).map Lx) (readLk t).1) = false) : walkD (setD D (Px i) t) (Px 0) = ([], [], 25) := by
  obtain ⟨g1, g2⟩ := get_set D (Px i) t (Px i)
  rw [if_pos rfl] at g1 g2
  have hf : HasC D Lx Px i := fun j hj => h.hx j (by omega)
  refine h.cx.bad hi (hf.set fun j hj e => ?_) g2 (by rw [g1]; exact hb)
  have := h.cx.inj j i (by omega) hi e
  omega
/-- two chains that Put made, one behind the other -/
theorem Two.puts {gen tag gen' tag' : Int} {a b : Bs} (hg : 1 ≤ gen ∧ gen ≤ 3) (ht : 0 ≤ tag ∧ tag ≤ 200) (hg' : 1 ≤ gen' ∧ gen' ≤ 3) (ht' : 0 ≤ tag' ∧ tag' ≤ 200) (ha : a.length ≤ 9440) (hb : b.length ≤ 9440) (hl : D.bs.length ≤ 2000) (h0 : D.bs.getD 0 false = true)
    (hf : needN a.length + needN b.length ≤ freeN D.bs) :
    Two (putS (putS D gen tag a (needN a.length) (needN a.length)).1 gen' tag' b (needN b.length) (needN b.length)).1 (needN a.length) (needN b.length) (linkP D gen tag a (needN a.length)) (linkP (putS D gen tag a (needN a.length) (needN a.length)).1 gen' tag' b (needN b.length)) (placeP D (needN a.length)) (placeP (putS D gen tag a (needN a.length) (needN a.length)).1 (needN b.length)) := by
  have hbs := putS_bs (D := D) (gen := gen) (tag := tag) (b := a) (n := needN a.length) (needN a.length)
  have hfr := freeN_take (bs := D.bs) (j := needN a.length) (by omega)
  have hpa := needN_pos a.length
  have hh := put_has (D := D) (gen := gen) (tag := tag) (b := a) (by omega)
  have hc := putS_chn (D := D) (gen := gen) (tag := tag) (b := a) hg ht ha rfl (by omega) hl h0
  have hbl : (putS D gen tag a (needN a.length) (needN a.length)).1.bs.length = D.bs.length := by rw [hbs, takeN_len]
  have hf2 : needN b.length ≤ freeN (putS D gen tag a (needN a.length) (needN a.length)).1.bs := by rw [hbs]; omega
  have h02 : (putS D gen tag a (needN a.length) (needN a.length)).1.bs.getD 0 false = true := by
    rw [hbs]
    by_cases hz : 0 < D.bs.length
    · exact (take_get D.bs _ 0 hz).2 (.inl h0)
    · have : D.bs = [] := List.eq_nil_of_length_eq_zero (by omega)
      rw [this] at h0; simp at h0
  have hused : ∀ i, i < needN a.length → usedB (putS D gen tag a (needN a.length) (needN a.length)).1.bs (placeP D (needN a.length) i) = true := fun i hi => by rw [hbs]; exact (place_used hi (by omega)).1
  generalize (putS D gen tag a (needN a.length) (needN a.length)).1 = D1 at *
  have hne : ∀ i j, i < needN a.length → j < needN b.length → placeP D (needN a.length) i ≠ placeP D1 (needN b.length) j := fun i j hi hj e => by
    have h1 := hused i hi
    have h2 := (place_used (D := D1) (n := needN b.length) hj hf2).2
    rw [e] at h1
    simp only [usedB, Bool.and_eq_true, decide_eq_true_eq] at h1
    have h3 := h1.2
    rw [h2] at h3; simp at h3
  refine ⟨hc, putS_chn hg' ht' hb rfl hf2 (by omega) h02, fun i hi => ?_, put_has hf2, hne⟩
  obtain ⟨e1, e2⟩ := put_else (D := D1) (gen := gen') (tag := tag') (b := b) hf2 (a := placeP D (needN a.length) i) fun j hj e => hne i j hi hj e.symm
  rw [e1, e2]
  exact hh i hi
end
end Go.Proofs.YtmokmbhhnbcelaaGreatDoor

/- bytes of a text as a slice of their own; chain.Refs of a chain that is broken; masonrylaw12: ChainSpoilt. -/
set_option linter.unusedVariables false
namespace Go.Proofs.YtmokmbhhnbcelaaGreatDoor
open Go Go.Vc Go.RowKit Go.Lib
/-- bytes that a text was turned to -/
def BzS (g : Nat) (bs : Bs) : As where
  p := fun w S => (∃ pad fz, w.heap[g]? = some (.cells ⟨bv bs ++ pad⟩ T.y_uint8 fz) ∧ (bv bs ++ pad).length ≤ fz.1) ∧ S = fun k => k = g
  lt := fun ⟨⟨pad, fz, h, _⟩, e⟩ k hk => by subst e; have : k = g := hk; subst this; exact heap_lt h
  keep := fun ⟨⟨pad, fz, h, h2⟩, e⟩ hf => ⟨⟨pad, fz, hf.heap h (fun hn => hn (by subst e; rfl)), h2⟩, e⟩
section
variable {w w' : World} {X : List As}
theorem St.bytes (h : St w X) {l : Bs} {R : Sl → World → Prop} (hR : ∀ g cap w', St w' (BzS g l :: X) → R ⟨some (blk g), l.length, cap⟩ w') : RunT Pg (convert T.y_string T.y_sl_uint8 (.string (tx l))) [.one .slice] w R := by
  have hr := run_bytes_of_string (P := Pg) w T.y_string T.y_sl_uint8 T.y_uint8 (tx l) und_str und_bytes und_byte
  rw [tx_size] at hr
  have e : bv l ++ List.replicate (grownCap w l.length 0 T.y_uint8 - l.length) (.int .u8 0) = (bytesRow (tx l) (grownCap w l.length 0 T.y_uint8)).toList := by
    have hs := tx_size l
    unfold bytesRow bv
    rw [hs]
    simp [tx]
  generalize grownCap w l.length 0 T.y_uint8 = cap at *
  generalize bytesRow (tx l) cap = row at *
  have hO : (w.drew.alloc (.cells row T.y_uint8 (row.size, row.size + 1))).heap[w.heap.size]? = some (.cells row T.y_uint8 (row.size, row.size + 1)) := heap_alloc_new w.drew _
  have hf : Fr no w (w.drew.alloc (.cells row T.y_uint8 (row.size, row.size + 1))) := (Fr.drew _ w).trans (Fr.alloc no _ _) (fun _ _ h => h)
  generalize w.drew.alloc (.cells row T.y_uint8 (row.size, row.size + 1)) = w1 at *
  refine runT_slice (l := ⟨some (blk w.heap.size), l.length, cap⟩) hr (hR w.heap.size cap w1 (h.add (A := BzS w.heap.size l) (S := fun k => k = w.heap.size) ⟨⟨List.replicate (cap - l.length) (.int .u8 0), (row.size, row.size + 1), by rw [e]; exact hO, by rw [e]; simp⟩, rfl⟩ hf (fun k hk => Nat.le_of_eq (Eq.symm hk))))
theorem BzS.get {g : Nat} {bs : Bs} (h : St w (BzS g bs :: X)) {k : Nat} (hk : k < bs.length) : w.cell? ((blk g).add k) = some (.int .u8 ((bs.getD k 0).toNat : Int)) := by
  obtain ⟨S, ⟨pad, fz, hb, h2⟩, e⟩ := h.hd
  rw [add_blk, cell_of_row _ g k _ _ _ hb]
  simp [bv, hk, List.getElem?_append_left]
theorem BzS.set {g : Nat} {bs : Bs} (h : St w (BzS g bs :: X)) {k : Nat} (hk : k < bs.length) (v : UInt8) :
    Wr w ((blk g).add k) ∧ St (w.setCell ((blk g).add k) (.int .u8 (v.toNat : Int))) (BzS g (bs.set k v) :: X) := by
  have hc := BzS.get h hk
  obtain ⟨S, ⟨⟨pad, fz, hb, h2⟩, e⟩, _, hX⟩ := h.out
  subst e
  have hlen : (bv bs ++ pad).length = bs.length + pad.length := by simp [bv]
  refine ⟨⟨⟨_, hc⟩, ?_⟩, hX (S' := fun k => k = g) ⟨⟨pad, fz, ?_, ?_⟩, rfl⟩ (fr_set w g k _) fun j hj => .inl hj⟩
  · rw [add_blk]
    simp [World.frozen?, hb]
    omega
  · rw [add_blk, Go.Lib.heap_setCell_same hb]
    have : (bv bs ++ pad).set k (.int .u8 (v.toNat : Int)) = bv (bs.set k v) ++ pad := by
      rw [List.set_append_left _ _ (by simp [bv, hk])]
      simp [bv, List.map_set]
    simp [List.setIfInBounds_toArray, this]
  · have : (bv (bs.set k v) ++ pad).length = (bv bs ++ pad).length := by simp [bv]
    rw [this]; exact h2
theorem BzS.str {g cap n : Nat} {bs : Bs} (h : St w (BzS g bs :: X)) (hn : n = bs.length) {R : ByteArray → World → Prop} (hR : R (tx bs) w) : RunT Pg (convert T.y_sl_uint8 T.y_string (.slice (some (blk g)) n cap)) [.one .str] w R := by
  subst hn
  have := run_convert_bytes_back (P := Pg) w T.y_sl_uint8 T.y_string T.y_uint8 (blk g) cap bs und_bytes und_byte und_str (fun j hj => by
    have := BzS.get h hj
    rw [this]; simp [hj])
  exact ⟨⟨bs.toArray⟩, w, this, hR⟩
section
variable {k g c : Nat} {D : DkV}
theorem Zeros_st (h : St w X) {n : Nat} (hn : n ≤ 1000000) {R : ByteArray → World → Prop} (hR : ∀ w', St w' X → R (tx (List.replicate n 0)) w') : F.masonryref1_Zeros (n : Int) w R := by
  apply E.masonryref1_Zeros
  unfold V.masonryref1_Zeros
  exact zeros_st h hn hR
end
end
end Go.Proofs.YtmokmbhhnbcelaaGreatDoor
