/- Words of what lies apart: rows of bytes; a new disk, and a desk on it. -/
import Derived.Test.YtggachhkcmfijaaGreatDoorCo
import Derived.Test.YtggachhkcmfijaaGreatDoorCp
import Derived.Test.YtggachhkcmfijaaGreatDoorSq
set_option linter.unusedVariables false
namespace Go.Proofs.YtggachhkcmfijaaGreatDoor
open Go Go.Vc Go.RowKit Go.Lib
def EB : Enc UInt8 := ⟨fun x => [.int .u8 x.toNat], 1, fun _ => rfl, fun _ u hu => by simp at hu; subst hu; rfl⟩
theorem EB_all (bs : List UInt8) : EB.all bs = bv bs := by simp [Enc.all, EB, bv]; induction bs <;> simp_all
theorem elt_byte : Elt Pg T.y_sl_uint8 T.y_uint8 1 1 := ⟨und_bytes, by obtain ⟨i, hi, hz, h1, h2⟩ := info_byte; exact ⟨i, _, hi, hz, h1, h2, rfl⟩, by decide⟩
section
variable {w w' : World} {X : List As} {l : Sl}
theorem St.makeB (h : St w X) {n : Nat} (hn : n ≤ 1000000) {R : Sl → World → Prop}
   (hR : ∀ l w', l.len = n → St w' (Row EB T.y_uint8 l (List.replicate n 0) :: X) → R l w') : RunT Pg (Instr.makeSlice T.y_sl_uint8 (.int .i64 (n : Int)) (.int .i64 (n : Int))) [.one .slice] w R := by
 obtain ⟨inf, hi, hz, hs1, hby⟩ := info_byte
 refine runT_make und_bytes hi hz hs1 (by rw [hby]; omega) (by simp only [maxLen]; omega) fun w1 hO hF hs => hR _ w1 rfl (St.rowOf h hF ?_ fun k hk => ?_)
 · have h2 := toList_madeCells_one (Value.int .u8 0) (n * 1)
   rw [show (Value.int IntKind.u8 0).cells = #[Value.int .u8 0] from rfl, h2] at hO
   have e : EB.all (List.replicate n 0) = List.replicate (n * 1) (Value.int .u8 0) := by rw [EB_all]; simp [bv]
   rw [e]; exact hO
 · obtain ⟨a, ha, rfl⟩ := hk
   injection ha with ha
   subst ha
   exact Nat.le_refl _
theorem St.strB {t : TypeId} (ht : t = T.y_uint8) {bs : List UInt8} (h : St w (Row EB t l bs :: X)) {R : ByteArray → World → Prop} (hR : R (tx bs) w) :
   RunT Pg (convert T.y_sl_uint8 T.y_string (.slice l.a l.len l.cap)) [.one .str] w R := by
 subst ht
 have hO := h.own
 rw [EB_all] at hO
 exact runT_bytes_str und_bytes und_byte und_str hO hR
/-- so many zero bytes, as a text -/
theorem zeros_st (h : St w X) {n : Nat} (hn : n ≤ 1000000) {K : ByteArray → World → Prop} (hK : ∀ w', St w' X → K (tx (List.replicate n 0)) w') :
   RunT Pg (Instr.makeSlice T.y_sl_uint8 (.int .i64 (n : Int)) (.int .i64 (n : Int))) [.one .slice] w fun l w1 => RunT Pg (convert T.y_sl_uint8 T.y_string (.slice l.a l.len l.cap)) [.one .str] w1 K :=
 St.makeB h hn fun l w1 _ h1 => St.strB rfl h1 (hK w1 h1.drop)
theorem zeros_desk {R : ByteArray → World → Prop} (hR : ∀ w', Below w.heap.size w w' → R (tx zeroS) w') : F.desk_zeros w R := by
 apply E.desk_zeros
 unfold V.desk_zeros
 try simp -zeta only [ldC, soC, brC, bkA, slC, stC, alC, drC]
 exact strings_Repeat_spec (n := 256) (by decide) hR
def fmt0 (n : Nat) : DkV := fmtD (newD n) 0 (n - 111)
set_option maxHeartbeats 2000000 in
theorem format_st {g : Nat} {d : Ds} {seq : Int} (h : St w (DskS g d :: X)) (hq : Quiet d seq) (hs : 0 ≤ seq ∧ seq ≤ 1000) (hm : d.many ≤ 1000) (harm : d.armed = false) {R : Option Addr → Int → World → Prop}
   (hR : ∀ k w', St w' (DeskS k g 1001 (fmtD d seq (d.l.length - 111)) :: X) → R (some (blk k)) 0 w') : F.desk_Format (some (blk g)) w R := by
 have hlo := hq.lo
 have hhi := hq.hi
 have hE := fmt_lastE hq
 have hbl := bs0_len (d.l.length - 111)
 apply E.desk_Format
 unfold V.desk_Format
 try simp -zeta only [ldC, soC, brC, bkA, slC, stC, alC, drC]
 apply E.desk_opened
 unfold V.desk_opened
 try simp -zeta only [ldC, soC, brC, bkA, slC, stC, alC, drC]
 simp -zeta only [cnd_all]
 refine OpenW_st h hq.off hlo (by have := hq.hlen; omega) (fun _ => by rw [hq.head]) (fun w' hne => absurd (by rw [hq.head]) hne) fun u w1 _ h1 => ⟨fun _ => ⟨fun h => absurd rfl h, fun _ => ?_⟩, fun h => absurd h (by decide)⟩
 rw [hq.head] at h1
 have h1 : St w1 (WalS u g ⟨seq, false, 0⟩ :: DskS g d :: X) := h1
 have en : sizeD d = ((d.l.length - 111 : Nat) : Int) := by unfold sizeD; omega
 refine SizeW_st h1 ?_
 rw [en]
 intro wa1
 replace h1 : St wa1 (Cs _ _ _ :: _) := h1.new _ _
 clear_value wa1
 refine New_room (n := d.l.length - 111) (by omega) (by omega) (Ints.row (vs := [0, 1]) h1.bl 2 2 rfl) (fun j hj => by
   obtain ⟨a, ha, rfl⟩ := hj
   injection ha with ha
   subst ha
   exact heap_lt h1.bl) (by decide) (fun w' hbad _ => absurd (fun x hx => by
     simp only [List.mem_cons, List.not_mem_nil, or_false] at hx
     rcases hx with rfl | rfl
     · exact ⟨by decide, by omega⟩
     · exact ⟨by decide, by omega⟩) hbad) fun r fpr w3 _ hr3 hfr3 hB3 => ⟨fun h => absurd rfl h, fun _ => ?_⟩
 have h3 : St w3 (RoomS r (bs0 (d.l.length - 111)) :: _) := h1.add (A := RoomS r _) hr3 (fr_below hB3) hfr3
 refine LayR_st h3 (by omega) (by omega) fun w4 h4 => zeros_desk fun w5 hB5 => ?_
 have h5 := h4.below hB5
 intro wa2
 replace h5 : St wa2 (Cs _ _ _ :: _) := h5.new _ _
 clear_value wa2
 have h6 := h5.up3.up4.sw
 refine Commit_st (sl := ⟨some (blk w5.heap.size), 2, 2⟩) (ws := fmtW (d.l.length - 111)) h6 hq.off hq.ws hq.safe (fun w' hw => hw.lit (En := EW) (xs := fmtW (d.l.length - 111)) rfl rfl 2) (by show 2 ≤ 1000000; decide) hlo hhi hs.1 (by omega) (by decide) ⟨hq.many, by omega⟩ (fun w' hne => absurd hE hne) (fun w' he => by simp [fmtW] at he) (fun w7 _ _ h7 => ⟨fun h => absurd rfl h, fun _ => ?_⟩) fun _ _ ha => by rw [harm] at ha; cases ha
 intro w8
 have h8 : St w8 (MapS w7.heap.size [] :: _) := MapS.made h7
 clear_value w8
 generalize w7.heap.size = b at *
 intro w9
 have h9 : St w9 (Cs w8.heap.size [.pointer (some (blk u)), .pointer (some (blk r)), .map (some b), .int .i64 0, .int .i64 0] T.y_desk_Desk :: _) := h8.new _ _
 clear_value w9
 refine hR w8.heap.size w9 (DeskS.join (D := fmtD d seq (d.l.length - 111)) (u := u) (r := r) (b := b) (fmt_ok hq hs hm) ?_)
 -- desk's block, map, wal, disk, writes, room, numbers
 have h10 := h9.up4.drop.up4.sw.up5.drop
 exact (WDS.put (D := fmtD d seq (d.l.length - 111)) h10.up4.up4).dn3
theorem format0_st {g n : Nat} (h : St w (DskS g (newD n) :: X)) (h1 : 140 ≤ n) (h2 : n ≤ 2000) {R : Option Addr → Int → World → Prop}
   (hR : ∀ k w', St w' (DeskS k g 1001 (fmt0 n) :: X) → R (some (blk k)) 0 w') : F.desk_Format (some (blk g)) w R := by
 refine format_st h (Quiet.new h1 h2) (by decide) (by show (0 : Int) ≤ 1000; decide) rfl fun k w' h' => hR k w' ?_
 have e : (newD n).l.length = n := List.length_replicate
 rw [e] at h'; exact h'
theorem DeskS.wal {k g c : Nat} {D : DkV} (h : St w (DeskS k g c D :: X)) : ∃ u, w.cell? (blk k) = some (.pointer (some (blk u))) := by
 obtain ⟨_, u, r, b, q⟩ := DeskS.parts h
 exact ⟨u, q.cell0⟩
end
end Go.Proofs.YtggachhkcmfijaaGreatDoor

/- chain: calls on a chain that is there; masonrylaw12.Fresh, alive. -/
set_option linter.unusedVariables false
namespace Go.Proofs.YtggachhkcmfijaaGreatDoor
open Go Go.Vc Go.RowKit Go.Lib
theorem fmt0_bs {n : Nat} : (fmt0 n).bs = bs0 (n - 111) := by
 unfold fmt0 fmtD
 exact Eq.refl (bs0 (n - 111))
theorem put_has {D : DkV} {gen tag : Int} {b : Bs} (hf : needN b.length ≤ freeN D.bs) : HasC (putS D gen tag b (needN b.length) (needN b.length)).1 (linkP D gen tag b (needN b.length)) (placeP D (needN b.length)) (needN b.length) :=
 fun i hi => (putS_get (needN b.length) (Nat.le_refl _) hf).1 i (by omega) hi
theorem put_else {D : DkV} {gen tag : Int} {b : Bs} (hf : needN b.length ≤ freeN D.bs) {a : Int} (ha : ∀ i, i < needN b.length → placeP D (needN b.length) i ≠ a) : getE (putS D gen tag b (needN b.length) (needN b.length)).1 a = getE D a ∧ getD (putS D gen tag b (needN b.length) (needN b.length)).1 a = getD D a :=
 (putS_get (needN b.length) (Nat.le_refl _) hf).2 a fun i _ hi => ha i hi
theorem dataOf_put {D : DkV} {gen tag : Int} {b : Bs} (hb : b.length ≤ 9440) {n : Nat} : dataOf ((List.range (needN b.length)).map (linkP D gen tag b n)) = b := by
 have : (List.range (needN b.length)).map (fun i => (linkP D gen tag b n i).data) = (List.range (needN b.length)).map (partB b) := rfl
 unfold dataOf
 rw [List.map_map]
 show ((List.range (needN b.length)).map (fun i => (linkP D gen tag b n i).data)).flatten = b
 rw [this, partB_whole hb]
/-- the places that Put takes are in use behind it, and were free -/
theorem place_used {D : DkV} {n i : Nat} (hi : i < n) (hn : n ≤ freeN D.bs) : usedB (takeN D.bs n) (placeP D n i) = true ∧ D.bs.getD (placeP D n i).toNat false = false := by
 unfold placeP
 rw [if_pos hi]
 have h1 := take_lt (bs := D.bs) (j := n - 1 - i) (by omega)
 have h2 := (take_get D.bs n _ h1).2 (.inr ⟨n - 1 - i, by omega, rfl⟩)
 refine ⟨?_, ?_⟩
 · unfold usedB
   rw [takeN_len, decide_eq_true (by omega), decide_eq_true (by omega), Int.toNat_natCast, h2]; rfl
 · rw [Int.toNat_natCast]; exact take_was (by omega)
section
variable {w : World} {X : List As} {k g c : Nat} {D : DkV} {n : Nat} {L : Nat → Lk} {P : Nat → Int}
theorem Get_chn (h : St w (DeskS k g c D :: X)) (hc : Chn n L P) (hg : HasC D L P n) (hP : 0 ≤ P 0 ∧ P 0 < 65536) {R : Int → Int → Int → ByteArray → Int → World → Prop}
   (hR : ∀ w', St w' (DeskS k g c D :: X) → R (L 0).gen (L 0).tag (L 0).refs (tx (dataOf ((List.range n).map L))) 0 w') : F.chain_Get (some (blk k)) (P 0) w R := by
 have hw := hc.walk hg
 refine Get_chain h (by omega) (fun w' he => absurd (by rw [hw]) he) fun x xs w' hx he h' => ?_
 rw [hw] at hx
 have hp := hc.pos
 have e : (List.range n).map L = x :: xs := hx
 rw [← e]
 obtain ⟨m, rfl⟩ : ∃ m, n = m + 1 := ⟨n - 1, by omega⟩
 rw [List.range_succ_eq_map] at e
 simp only [List.map_cons, List.cons.injEq] at e
 rw [← e.1]
 exact hR w' h'
theorem Fresh_st (h : St w X) {n : Nat} (h1 : 140 ≤ n) (h2 : n ≤ 2000) {R : Option Addr → World → Prop} (hR : ∀ k g w', St w' (DeskS k g 1001 (fmt0 n) :: X) → R (some (blk k)) w') : F.masonrylaw12_Fresh (n : Int) w R := by
 apply E.masonrylaw12_Fresh
 unfold V.masonrylaw12_Fresh
 try simp -zeta only [ldC, soC, brC, bkA, slC, stC, alC, drC]
 try simp (config := { zeta := false }) only [cnd_all]
 refine newdisk_st h h1 h2 fun g w1 h1' => ⟨fun h => absurd rfl h, fun _ => format0_st h1' h1 h2 fun k w2 h2' => ⟨fun h => absurd rfl h, fun _ => ⟨fun h => (by cases h), fun _ => ?_⟩⟩⟩
 obtain ⟨u, hu⟩ := DeskS.wal h2'
 exact ⟨blk k, rfl, some (blk u), hu, fun h => (by cases h), fun _ => hR k g w2 h2'⟩
end
end Go.Proofs.YtggachhkcmfijaaGreatDoor

/- ChainSizes: the walk. -/
set_option linter.unusedVariables false
namespace Go.Proofs.YtggachhkcmfijaaGreatDoor
open Go Go.Vc Go.RowKit Go.Lib
theorem giveL_get (bs : List Bool) {i : Nat} (hi : i < bs.length) (zs : List Int) : (giveL bs zs).getD i false = (bs.getD i false && decide ((i : Int) ∉ zs)) := by
 refine snoc_ind (P := fun zs => (giveL bs zs).getD i false = (bs.getD i false && decide ((i : Int) ∉ zs))) (by simp [giveL]) (fun l x ih => ?_) zs
 have hl := giveL_len bs l
 rw [giveL_app]
 by_cases hx : x = (i : Int)
 · have e : decide ((i : Int) ∉ l ++ [x]) = false := by simp [hx]
   rw [e, Bool.and_false]
   split
   · have : x.toNat = i := by omega
     rw [this]; simp [hl, hi]
   · rename_i hu
     simp only [usedB, Bool.and_eq_true, decide_eq_true_eq, not_and, Bool.not_eq_true] at hu
     have := hu (by omega) (by omega)
     have e2 : x.toNat = i := by omega
     rw [e2] at this; exact this
 · have e : decide ((i : Int) ∉ l ++ [x]) = decide ((i : Int) ∉ l) := by
     have : ¬ (i : Int) = x := fun h => hx h.symm
     simp [this]
   rw [e]
   split
   · rename_i hu
     simp only [usedB, Bool.and_eq_true, decide_eq_true_eq] at hu
     have : x.toNat ≠ i := by omega
     rw [← ih]
     simp only [List.getD_eq_getElem?_getD]
     rw [List.getElem?_set_ne this]
   · exact ih
theorem place_ok {D : DkV} {n : Nat} (hn : n ≤ freeN D.bs) (h0 : D.bs.getD 0 false = true) (h1 : D.bs.getD 1 false = true) {i : Nat} (hi : i < n) : 2 ≤ placeP D n i := by
 have h := (place_used hi hn).2
 have hr := (placeP_range D n i).1
 rcases Int.lt_or_le (placeP D n i) 2 with h2 | h2
 · have : (placeP D n i).toNat = 0 ∨ (placeP D n i).toNat = 1 := by omega
   rcases this with e | e <;> rw [e] at h
   · rw [h0] at h; cases h
   · rw [h1] at h; cases h
 · exact h2
theorem drop_ok {D : DkV} {n : Nat} {P : Nat → Int} (hinj : ∀ i j, i < n → j < n → P i = P j → i = j) (hP : ∀ i, i < n → 2 ≤ P i ∧ usedB D.bs (P i) = true) : dropOk D.bs ((List.range n).map P) := fun i hi => by
 have hi' : i < n := by simpa using hi
 have e : ((List.range n).map P)[i] = P i := by simp
 rw [e]
 have := hP i hi'
 refine ⟨by omega, by omega, this.2, fun hm => ?_⟩
 rw [List.mem_take_iff_getElem] at hm
 obtain ⟨j, hj, he⟩ := hm
 simp at hj he
 have := hinj j i (by omega) hi' he
 omega
end Go.Proofs.YtggachhkcmfijaaGreatDoor

/- chain.Refs, whole. -/
set_option linter.unusedVariables false
namespace Go.Proofs.YtggachhkcmfijaaGreatDoor
open Go Go.Vc Go.RowKit Go.Lib
end Go.Proofs.YtggachhkcmfijaaGreatDoor

/- crc: one byte that is another one is found. -/
set_option linter.unusedVariables false
namespace Go.Proofs.YtggachhkcmfijaaGreatDoor
open Go Go.Vc Go.RowKit Go.Lib
end Go.Proofs.YtggachhkcmfijaaGreatDoor

/- chain: of two chains, one that is spoilt; in plain words. -/
set_option linter.unusedVariables false
namespace Go.Proofs.YtggachhkcmfijaaGreatDoor
open Go Go.Vc Go.RowKit Go.Lib
end Go.Proofs.YtggachhkcmfijaaGreatDoor
