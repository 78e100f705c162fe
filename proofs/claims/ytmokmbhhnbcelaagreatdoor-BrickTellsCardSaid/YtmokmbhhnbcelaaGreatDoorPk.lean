/- plan: which pieces of a range; in plain words. -/
import Derived.Test.YtmokmbhhnbcelaaGreatDoorShelg
import Derived.Test.YtmokmbhhnbcelaaGreatDoorCl
import Derived.Test.YtmokmbhhnbcelaaGreatDoorGc
import Derived.Test.YtmokmbhhnbcelaaGreatDoorBa
import Derived.Test.YtmokmbhhnbcelaaGreatDoorCy
set_option linter.unusedVariables false
namespace Go.Proofs.YtmokmbhhnbcelaaGreatDoor
open Go Go.Vc Go.RowKit Go.Lib
end Go.Proofs.YtmokmbhhnbcelaaGreatDoor

/- plan: pieces as bytes, and back; in plain words. -/
set_option linter.unusedVariables false
namespace Go.Proofs.YtmokmbhhnbcelaaGreatDoor
open Go Go.Vc Go.RowKit Go.Lib
end Go.Proofs.YtmokmbhhnbcelaaGreatDoor

/- plan: Size, Cut, may; masonrybook.SamePieces. -/
set_option linter.unusedVariables false
namespace Go.Proofs.YtmokmbhhnbcelaaGreatDoor
open Go Go.Vc Go.RowKit Go.Lib
section
variable {w : World} {X : List As}
end
end Go.Proofs.YtmokmbhhnbcelaaGreatDoor

/- plan: may; masonrybook.SamePieces. -/
set_option linter.unusedVariables false
namespace Go.Proofs.YtmokmbhhnbcelaaGreatDoor
open Go Go.Vc Go.RowKit Go.Lib
section
variable {w : World} {X : List As}
end
end Go.Proofs.YtmokmbhhnbcelaaGreatDoor

/- masonrybook: lists of pieces that are lent, kept, marked, grown. -/
set_option linter.unusedVariables false
namespace Go.Proofs.YtmokmbhhnbcelaaGreatDoor
open Go Go.Vc Go.RowKit Go.Lib
section
variable {w : World} {X : List As}
end
section
variable {w : World} {X : List As} {α : Type} {En : Enc α} {t : TypeId} {l : Sl} {xs : List α}
/-- append of a slice that may be nil -/
theorem St.appN {P : Program} {ts ty : TypeId} {bytes : Nat} (hE : Elt P ts t En.n bytes) (h : St w (Row En t l xs :: X)) {sl : Sl} {ys : List α} (hs : Has En w sl ys) (hn : NilOk sl)
   (hb : (xs.length + ys.length) * bytes ≤ 140737488355328) (hb2 : xs.length + ys.length ≤ 4611686018427387904) {R : Sl → World → Prop}
   (hR : ∀ l' w', St w' (Row En t l' (xs ++ ys) :: X) → l'.len = xs.length + ys.length → R l' w') :
   RunT P (Builtin.append_ #[ts, ts] ty #[.slice l.a l.len l.cap, .slice sl.a sl.len sl.cap]) [.one .slice] w R := by
 cases ha : sl.a with
 | none =>
   have hz := hn ha
   subst hz
   have hy : ys = [] := List.eq_nil_of_length_eq_zero (by rw [← hs.1])
   subst hy
   obtain ⟨i, z, hi, hz, h1, h2, h3⟩ := hE.info
   have hr := run_append_owned_none (P := P) w 0 ts ty t i En.n hE.und hi (.slice l.a l.len l.cap) l.len (En.all xs) h.own
   exact runT_slice hr (hR l w (by rw [List.append_nil]; exact h) (h.has hE.pos).1)
 | some a => exact St.app hE h hs ha hb hb2 hR
theorem St.copy {P : Program} {ts ty : TypeId} {bytes : Nat} (hE : Elt P ts t En.n bytes) (h : St w X) {sl : Sl} (hs : Has En w sl xs) (hn : NilOk sl)
   (hb : xs.length * bytes ≤ 140737488355328) (hb2 : xs.length ≤ 4611686018427387904) {R : Sl → World → Prop} (hR : ∀ l' w', St w' (Row En t l' xs :: X) → R l' w') :
   RunT P (Builtin.append_ #[ts, ts] ty #[.slice none 0 0, .slice sl.a sl.len sl.cap]) [.one .slice] w R :=
 St.appN hE (h.row0 En t) hs hn (by simpa using hb) (by simpa using hb2) fun l' w' h' _ => hR l' w' h'
end
/-! ### Marks -/
section
variable {w : World} {X : List As}
end
end Go.Proofs.YtmokmbhhnbcelaaGreatDoor

/- masonrybook: lists of texts: copies, lent ones, short ones, joined. -/
set_option linter.unusedVariables false
namespace Go.Proofs.YtmokmbhhnbcelaaGreatDoor
open Go Go.Vc Go.RowKit Go.Lib
theorem elt_str : Elt Pg T.y_sl_string T.y_string 1 16 := ⟨by kernel_rfl, by
 have h : (Pg.info? T.y_string).map (fun i => (i.zero, i.size, i.bytes)) = some (some (.string (tx [])), 1, 16) := by kernel_rfl
 obtain ⟨i, hi, h2⟩ := Option.map_eq_some_iff.1 h
 simp only [Prod.mk.injEq] at h2
 exact ⟨i, _, hi, h2.1, h2.2.1, h2.2.2, rfl⟩, by decide⟩
theorem Has.txt {w : World} {l : Sl} {xs : List Bs} (h : Has ET w l xs) {m : Nat} (hm : m < xs.length) : ∃ ad, l.a = some ad ∧ m < l.len ∧ w.cell? (ad.add (m * 1)) = some (.string (tx xs[m])) := by
 obtain ⟨ad, ha, hl, hc⟩ := h.at hm
 have h0 := hc 0 _ rfl
 rw [Vc.addr_add0] at h0
 exact ⟨ad, ha, hl, h0⟩
theorem joinB_take (l : List Bs) {m : Nat} (h : m < l.length) : joinB (l.take (m + 1)) = joinB (l.take m) ++ l[m] := by
 unfold joinB
 rw [List.take_succ_eq_append_getElem h, List.flatten_append]
 simp
theorem joinB_le (l : List Bs) {m : Nat} (h : m < l.length) : (joinB (l.take m)).length + l[m].length ≤ (joinB l).length := by
 have e : joinB l = joinB (l.take (m + 1)) ++ joinB (l.drop (m + 1)) := by
   unfold joinB
   rw [← List.flatten_append, List.take_append_drop]
 rw [e, List.length_append, joinB_take l h, List.length_append]
 omega
def markB : Bs := [109, 97, 114, 107]
section
variable {w : World} {X : List As}
theorem SameT_st (h : St w X) {al bl : Sl} {xs ys : List Bs} (ha : ∀ w', St w' X → Has ET w' al xs) (hb : ∀ w', St w' X → Has ET w' bl ys) (hl : xs.length ≤ 1000000) {R : Bool → World → Prop} (hR : ∀ w', St w' X → R (decide (xs = ys)) w') : F.masonrybook_SameTexts al bl w R := by
 apply E.masonrybook_SameTexts
 unfold V.masonrybook_SameTexts
 try simp (config := { zeta := false }) only [cnd_all, Nat.reduceAdd]
 have h1 := (ha w h).1
 have h2 := (hb w h).1
 refine ⟨fun hne => ?_, fun heq => ?_⟩
 · have := hR w h
   rw [decide_eq_false (fun e => hne (by rw [h1, h2, e]))] at this
   exact this
 have hlen : xs.length = ys.length := by omega
 refine ⟨Cnt xs.length fun m w' => xs.take m = ys.take m ∧ St w' X, cntM xs.length, Cnt.zero ⟨rfl, h⟩, ?_⟩
 rintro _ w1 ⟨m, rfl, hm, htk, h3⟩
 refine ⟨fun hlt => ?_, fun hge => ?_⟩
 · have hlt : m < xs.length := by omega
   intro wa1
   replace h3 : St wa1 _ := h3.drew
   clear_value wa1
   obtain ⟨a, ha1, hal, c0⟩ := Has.txt (ha _ h3) hlt
   obtain ⟨b, hb1, hbl, e0⟩ := Has.txt (hb _ h3) (m := m) (by omega)
   refine ⟨a, ha1, by omega, by omega, _, c0, b, hb1, by omega, by omega, _, e0, ?_⟩
   rw [tx_eq]
   refine ⟨fun hf => ?_, fun ht => Cnt.next hlt (by omega) ⟨?_, h3⟩⟩
   · have := hR _ h3
     rw [decide_eq_false (fun e => by subst e; simp at hf)] at this
     exact this
   · rw [List.take_succ_eq_append_getElem hlt, List.take_succ_eq_append_getElem (by omega), htk]
     simp at ht
     rw [ht]
 · have hmm : m = xs.length := by omega
   subst hmm
   have e : xs = ys := by rw [List.take_length, hlen, List.take_length] at htk; exact htk
   have := hR _ h3
   rw [decide_eq_true e] at this; exact this
theorem copyT_st (h : St w X) {sl : Sl} {xs : List Bs} (hs : Has ET w sl xs) (hn : NilOk sl) (hb : xs.length ≤ 1000000) {R : Sl → World → Prop} (hR : ∀ l' w', St w' (Row ET T.y_string l' xs :: X) → R l' w') : F.masonrybook_copyTexts sl w R := by
 apply E.masonrybook_copyTexts
 unfold V.masonrybook_copyTexts
 try simp (config := { zeta := false }) only [cnd_all, Nat.reduceAdd]
 refine St.copy (t := T.y_string) (bytes := 16) elt_str h hs hn (by omega) (by omega) fun l' w' h' => hR l' w' h'
theorem LentT_st (h : St w X) {sl : Sl} {xs : List Bs} (hx : Has ET w sl xs) (hn : NilOk sl) (hb : xs.length ≤ 1000000) {R : Sl → World → Prop}
   (hR : ∀ a c w', St w' (Row ET T.y_string ⟨a, xs.length + 1, c⟩ (xs ++ [markB]) :: X) → R ⟨a, xs.length, c⟩ w') : F.masonrybook_LentTexts sl w R := by
 apply E.masonrybook_LentTexts
 unfold V.masonrybook_LentTexts
 try simp (config := { zeta := false }) only [cnd_all, Nat.reduceAdd]
 have hl := hx.1
 refine copyT_st h hx hn hb fun l1 w1 h1 => ?_
 intro wa1
 replace h1 : St wa1 (Cs _ _ _ :: _) := h1.new _ _
 clear_value wa1
 refine St.app elt_str h1.sw (sl := ⟨some (blk w1.heap.size), 1, 1⟩) (ys := [markB]) (h1.lit (En := ET) (xs := [markB]) rfl rfl 1) rfl (by simp; omega) (by simp; omega) fun l2 w2 h2 hl2 => ?_
 have hcap := Row.cap h2
 simp only [List.length_cons, List.length_nil, Nat.zero_add] at hl2
 refine ⟨by omega, by omega, ?_⟩
 rw [slA0, Int.toNat_natCast, hl]
 obtain ⟨a2, n2, c2⟩ := l2
 simp only at hl2
 subst hl2
 exact hR a2 c2 w2 h2.d2
theorem StaysT_st {a : Option Addr} {c : Nat} {sl : Sl} {xs : List Bs} (h : St w (Row ET T.y_string ⟨a, xs.length + 1, c⟩ (xs ++ [markB]) :: X)) (hx : ∀ w', St w' X → Has ET w' sl xs) (hb : xs.length ≤ 1000000) {R : Bool → World → Prop}
   (hR : ∀ w', St w' (Row ET T.y_string ⟨a, xs.length + 1, c⟩ (xs ++ [markB]) :: X) → R true w') : F.masonrybook_StaysTexts ⟨a, xs.length, c⟩ sl w R := by
 apply E.masonrybook_StaysTexts
 unfold V.masonrybook_StaysTexts
 try simp (config := { zeta := false }) only [cnd_all, Nat.reduceAdd]
 have hpre : ∀ w', St w' (Row ET T.y_string ⟨a, xs.length + 1, c⟩ (xs ++ [markB]) :: X) → Has ET w' ⟨a, xs.length, c⟩ xs := fun w' hw => by
   have hh : Has ET w' ⟨a, xs.length + 1, c⟩ (xs ++ [markB]) := hw.has (by decide)
   exact Has.pre (sl := ⟨a, xs.length, c⟩) hh rfl rfl
 have hw2 : ∀ w', St w' (Row ET T.y_string ⟨a, xs.length + 1, c⟩ (xs ++ [markB]) :: X) → Has ET w' sl xs := fun w' hw => hx w' hw.drop
 refine SameT_st h (xs := xs) (ys := xs) hpre hw2 hb fun w1 h1 => ?_
 rw [decide_eq_true rfl]
 refine ⟨fun _ => ?_, fun h => (by cases h)⟩
 have hcap := Row.cap h1
 simp only at hcap
 obtain ⟨ad, ha, _, c0⟩ := Has.txt (h1.has (by decide)) (m := xs.length) (by simp)
 rw [List.getElem_append_right (Nat.le_refl _)] at c0
 simp only [Nat.sub_self, List.getElem_cons_zero] at c0
 have e1 : w64 (((xs.length : Nat) : Int) + 1) = ((xs.length + 1 : Nat) : Int) := w64_succ (by omega)
 rw [e1, slA0]
 refine ⟨by omega, by omega, ad, ha, by omega, by omega, _, c0, ?_⟩
 exact hR w1 h1
theorem Join_book (h : St w X) {sl : Sl} {xs : List Bs} (hx : ∀ w', St w' X → Has ET w' sl xs) (hb : (joinB xs).length ≤ 1000000) (hn : xs.length ≤ 1000000) {R : ByteArray → World → Prop} (hR : ∀ w', St w' X → R (tx (joinB xs)) w') : F.masonrybook_Join sl w R := by
 apply E.masonrybook_Join
 unfold V.masonrybook_Join
 try simp (config := { zeta := false }) only [cnd_all, Nat.reduceAdd]
 have hl := (hx w h).1
 refine ⟨fun s i w' => ∃ m : Nat, i = m ∧ m ≤ xs.length ∧ s = tx (joinB (xs.take m)) ∧ St w' X, fun _ i _ => ((xs.length : Int) - i).toNat, ⟨0, rfl, Nat.zero_le _, rfl, h⟩, ?_⟩
 rintro s i w1 ⟨m, rfl, hm, rfl, h1⟩
 refine ⟨fun hlt => ?_, fun hge => ?_⟩
 · have hlt : m < xs.length := by omega
   obtain ⟨a, ha, hal, c0⟩ := Has.txt (hx _ h1) hlt
   have hj := joinB_le xs hlt
   refine ⟨a, ha, by omega, by omega, _, c0, by rw [tx_size, tx_size]; omega, ?_⟩
   rw [w64_succ (by omega), tx_app, ← joinB_take xs hlt]
   exact ⟨⟨m + 1, rfl, hlt, rfl, h1⟩, by show ((xs.length : Int) - ((m + 1 : Nat) : Int)).toNat < ((xs.length : Int) - (m : Int)).toNat; omega⟩
 · have hmm : m = xs.length := by omega
   subst hmm
   rw [List.take_length]
   exact hR w1 h1
theorem Short_st (h : St w X) {sl : Sl} {xs : List Bs} (hx : ∀ w', St w' X → Has ET w' sl xs) {few room : Nat} (hb : few ≤ 1000000) (hr : room ≤ 1000000) {R : Bool → World → Prop}
   (hR : ∀ b w', (b = true → xs.length ≤ few ∧ (joinB xs).length ≤ room) → St w' X → R b w') : F.masonrybook_Short (few : Int) (room : Int) sl w R := by
 apply E.masonrybook_Short
 unfold V.masonrybook_Short
 try simp (config := { zeta := false }) only [cnd_all, Nat.reduceAdd]
 have hl := (hx w h).1
 refine ⟨fun _ => hR _ _ (fun h => (by cases h)) h, fun hfew => ?_⟩
 have hfew : xs.length ≤ few := by omega
 refine ⟨fun room1 i w' => ∃ m : Nat, i = m ∧ m ≤ xs.length ∧ -1 ≤ room1 ∧ room1 ≤ room ∧ (0 ≤ room1 → room1 + (joinB (xs.take m)).length ≤ room) ∧ St w' X, fun _ i _ => ((xs.length : Int) - i).toNat, ⟨0, rfl, Nat.zero_le _, by omega, Int.le_refl _, fun _ => by simp [joinB], h⟩, ?_⟩
 rintro room1 i w1 ⟨m, rfl, hm, h1, h2, h3, h4⟩
 have hend : ∀ b : Bool, (b = true → m = xs.length ∧ 0 ≤ room1) → R b w1 := fun b hb2 => hR _ _ (fun hb3 => by
   obtain ⟨e1, e2⟩ := hb2 hb3
   have := h3 e2
   subst e1
   rw [List.take_length] at this
   exact ⟨hfew, by omega⟩) h4
 refine ⟨fun hlt => ⟨fun hpos => ?_, fun hneg => hend _ (fun hb2 => by simp at hb2; omega)⟩, fun hge => hend _ (fun hb2 => by simp at hb2; exact ⟨by omega, hb2⟩)⟩
 have hlt : m < xs.length := by omega
 obtain ⟨a, ha, hal, c0⟩ := Has.txt (hx _ h4) hlt
 refine ⟨a, ha, by omega, by omega, _, c0, ?_⟩
 rw [tx_size]
 intro wa1
 replace h4 : St wa1 (Cs _ _ _ :: _) := h4.new _ _
 clear_value wa1
 rw [w64_succ (by omega)]
 refine Room_one (h := w1.heap.size) (n := (xs[m].length : Int)) h4.bl h1 (by omega) (by omega) ⟨⟨m + 1, rfl, hlt, ?_⟩, by show ((xs.length : Int) - ((m + 1 : Nat) : Int)).toNat < ((xs.length : Int) - (m : Int)).toNat; omega⟩
 have h3' := h3 hpos
 have e : (joinB (xs.take (m + 1))).length = (joinB (xs.take m)).length + xs[m].length := by rw [joinB_take xs hlt, List.length_append]
 rw [e]
 unfold roomOf roomOf
 rw [if_neg (by omega)]
 split
 · exact ⟨by omega, by omega, fun h => by omega, h4.drop⟩
 · exact ⟨by omega, by omega, fun h => by omega, h4.drop⟩
end
end Go.Proofs.YtmokmbhhnbcelaaGreatDoor

/- ChainSizes: the walk. -/
set_option linter.unusedVariables false
namespace Go.Proofs.YtmokmbhhnbcelaaGreatDoor
open Go Go.Vc Go.RowKit Go.Lib
theorem giveL_get (bs : List Bool) {i : Nat} (hi : i < bs.length) (zs : List Int) : (giveL bs zs).getD i false = (bs.getD i false && decide ((i : Int) ∉ zs)) := by
 refine snoc_ind (P := fun zs => (giveL bs zs).getD i false = (bs.getD i false && decide ((i : Int) ∉ zs))) (by simp [giveL]) (fun l x ih => ?_) zs
 have hl := giveL_len bs l
 rw [giveL_app]
 by_cases hx : x = (i : Int)
 · have e : decide ((i : Int) ∉ l ++ [x]) = false := by simp [hx]
   rw [e, Bool.and_false]
   split
   · have : x.toNat = i := by omega
     rw [this]; simp [hl, hi]
   · rename_i hu
     simp only [usedB, Bool.and_eq_true, decide_eq_true_eq, not_and, Bool.not_eq_true] at hu
     have := hu (by omega) (by omega)
     have e2 : x.toNat = i := by omega
     rw [e2] at this; exact this
 · have e : decide ((i : Int) ∉ l ++ [x]) = decide ((i : Int) ∉ l) := by
     have : ¬ (i : Int) = x := fun h => hx h.symm
     simp [this]
   rw [e]
   split
   · rename_i hu
     simp only [usedB, Bool.and_eq_true, decide_eq_true_eq] at hu
     have : x.toNat ≠ i := by omega
     rw [← ih]
     simp only [List.getD_eq_getElem?_getD]
     rw [List.getElem?_set_ne this]
   · exact ih
theorem place_ok {D : DkV} {n : Nat} (hn : n ≤ freeN D.bs) (h0 : D.bs.getD 0 false = true) (h1 : D.bs.getD 1 false = true) {i : Nat} (hi : i < n) : 2 ≤ placeP D n i := by
 have h := (place_used hi hn).2
 have hr := (placeP_range D n i).1
 rcases Int.lt_or_le (placeP D n i) 2 with h2 | h2
 · have : (placeP D n i).toNat = 0 ∨ (placeP D n i).toNat = 1 := by omega
   rcases this with e | e <;> rw [e] at h
   · rw [h0] at h; cases h
   · rw [h1] at h; cases h
 · exact h2
theorem drop_ok {D : DkV} {n : Nat} {P : Nat → Int} (hinj : ∀ i j, i < n → j < n → P i = P j → i = j) (hP : ∀ i, i < n → 2 ≤ P i ∧ usedB D.bs (P i) = true) : dropOk D.bs ((List.range n).map P) := fun i hi => by
 have hi' : i < n := by simpa using hi
 have e : ((List.range n).map P)[i] = P i := by simp
 rw [e]
 have := hP i hi'
 refine ⟨by omega, by omega, this.2, fun hm => ?_⟩
 rw [List.mem_take_iff_getElem] at hm
 obtain ⟨j, hj, he⟩ := hm
 simp at hj he
 have := hinj j i (by omega) hi' he
 omega
section
variable {w : World} {X : List As}
end
end Go.Proofs.YtmokmbhhnbcelaaGreatDoor

/- chain.Refs, whole. -/
set_option linter.unusedVariables false
namespace Go.Proofs.YtmokmbhhnbcelaaGreatDoor
open Go Go.Vc Go.RowKit Go.Lib
section
variable {w : World} {X : List As} {k g c : Nat} {D : DkV}
set_option maxHeartbeats 1000000 in
theorem Refs_chain (h : St w (DeskS k g c D :: X)) {a by_ : Int} (ha : -9223372036854775808 ≤ a ∧ a < 9223372036854775808) (hc : c ≤ 1000000) {R : Int → Int → World → Prop}
   (hu : (walkD D a).2.2 = 0 → a ≠ 1 ∧ usedB D.bs a = true)
   (hE : ∀ w', (walkD D a).2.2 ≠ 0 → St w' (DeskS k g c D :: X) → R 0 (walkD D a).2.2 w')
   (hB : ∀ x xs w', (walkD D a).1 = x :: xs → (walkD D a).2.2 = 0 → (by_ < -x.refs ∨ 60000 - x.refs < by_) → St w' (DeskS k g c D :: X) → R 0 15 w')
   (hR : ∀ x xs w', (walkD D a).1 = x :: xs → (walkD D a).2.2 = 0 → -x.refs ≤ by_ → by_ ≤ 60000 - x.refs → St w' (DeskS k g (c + 1) (setD D a (layLk { x with refs := x.refs + by_ })) :: X) → R (x.refs + by_) 0 w') : F.chain_Refs (some (blk k)) a by_ w R := by
 apply E.chain_Refs
 unfold V.chain_Refs
 try simp (config := { zeta := false }) only [cnd_all, Nat.reduceAdd]
 refine walk_chain h ha fun l pl w1 h1 => ⟨fun he => hE _ he h1.drop.drop, fun he => ?_⟩
 obtain ⟨f1, f2, f3, f4⟩ := walkD_facts he
 obtain ⟨u1, u2⟩ := hu he
 generalize (walkD D a).1 = xs at *
 generalize (walkD D a).2.1 = ps at *
 obtain ⟨x, r, rfl⟩ : ∃ x r, xs = x :: r := by
   rcases xs with _ | ⟨x, r⟩
   · exact absurd rfl f3
   · exact ⟨x, r, rfl⟩
 have hx := f1 x (List.mem_cons_self ..)
 have hr := hx.refs
 have hBb := hB x r
 have hRr := hR x r
 obtain ⟨ad, had, hlt, c0, c1, c2, c3, c4, c5⟩ := Has.lk (h1.has (by decide)) (m := 0) (by simp)
 refine ⟨ad, had, by decide, by omega, _, c0, _, c1, _, c2, _, c3, _, c4, _, c5, ?_⟩
 have h2 := h1.drop.drop
 intro wa1
 replace h2 : St wa1 (Cs _ _ _ :: _) := h2.new _ _
 clear_value wa1
 refine ⟨h2.wr0 (by simp), ?_⟩
 intro wa2
 replace h2 : St wa2 _ := h2.set0 _
 clear_value wa2
 refine ⟨h2.wr (by simp), ?_⟩
 intro wa3
 replace h2 : St wa3 _ := h2.set 1 _
 clear_value wa3
 refine ⟨h2.wr (by simp), ?_⟩
 intro wa4
 replace h2 : St wa4 _ := h2.set 2 _
 clear_value wa4
 refine ⟨h2.wr (by simp), ?_⟩
 intro wa5
 replace h2 : St wa5 _ := h2.set 3 _
 clear_value wa5
 refine ⟨h2.wr (by simp), ?_⟩
 intro wa6
 replace h2 : St wa6 _ := h2.set 4 _
 clear_value wa6
 refine ⟨h2.wr (by simp), ?_⟩
 intro wa7
 replace h2 : St wa7 _ := h2.set 5 _
 clear_value wa7
 simp only [List.set_cons_zero, List.set_cons_succ] at h2
 generalize w1.heap.size = z at *
 have e1 : w64 (0 - x.refs) = -x.refs := by rw [w64_id (by omega) (by omega)]; omega
 have e2 : w64 (60000 - x.refs) = 60000 - x.refs := w64_id (by omega) (by omega)
 simp only [List.getElem_cons_zero] at h2
 refine ⟨fun b w' => w' = wa7 ∧ b = decide (by_ < -x.refs ∨ 60000 - x.refs < by_), ⟨_, h2.cell 3, fun hb => ⟨rfl, ?_⟩, fun hb => ⟨_, h2.cell 3, rfl, ?_⟩⟩, ?_⟩
 · rw [eq_comm, decide_eq_true_iff]; left; omega
 · rw [Bool.eq_iff_iff, decide_eq_true_iff, decide_eq_true_iff]; omega
 rintro b w2 ⟨rfl, rfl⟩
 refine ⟨fun hb => hBb _ rfl he (of_decide_eq_true hb) h2.drop, fun hb => ?_⟩
 have hb := of_decide_eq_false hb
 have e3 : w64 (x.refs + by_) = x.refs + by_ := w64_id (by omega) (by omega)
 refine ⟨_, h2.cell 3, ?_⟩
 rw [e3]
 refine ⟨h2.wr (by simp), ?_⟩
 intro wa8
 replace h2 : St wa8 _ := h2.set 3 _
 clear_value wa8
 simp only [List.set_cons_zero, List.set_cons_succ] at h2
 refine ⟨_, h2.cell0, _, h2.cell 1, _, h2.cell 2, _, h2.cell 3, _, h2.cell 4, _, h2.cell 5, ?_⟩
 have hx2 : LkOk { x with refs := x.refs + by_ } := ⟨hx.gen, hx.tag, hx.number, by simp only; omega, hx.next, hx.data⟩
 refine lay_link (x := { x with refs := x.refs + by_ }) hx2 h2 fun w3 h3 => ?_
 have hll := layLk_len hx2
 refine Set_st h3.sw hc (by omega) (fun h => ?_) (fun _ _ h => absurd hll h) fun w4 _ _ _ h4 => ⟨fun h => absurd rfl h, fun _ => ⟨_, h4.sw.cell 3, ?_⟩⟩
 · rcases h with h | h
   · exact absurd h u1
   · rw [u2] at h; cases h
 exact hRr _ rfl he (by omega) (by omega) h4.sw.drop
end
end Go.Proofs.YtmokmbhhnbcelaaGreatDoor
