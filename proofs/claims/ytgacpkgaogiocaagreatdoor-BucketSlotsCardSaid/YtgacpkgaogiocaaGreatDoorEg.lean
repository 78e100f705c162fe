/- slices of entries: Index, Contains, Clone, BinarySearchFunc. -/
import Derived.Test.YtgacpkgaogiocaaGreatDoorEe
import Derived.Shelf.SlGeneric
import Derived.Shelf.SlSortCmp.NoneTotal
import Derived.Ground.SlsfProg
import Derived.Test.YtgacpkgaogiocaaGreatDoorProg
set_option linter.unusedVariables false
namespace Go.Proofs.YtgacpkgaogiocaaGreatDoor
open Go Go.Vc Go.RowKit Go.Lib
section
variable {w : World} {X : List As}
/-- where an entry stands first -/
def idxE (xs : List Ey) (x : Ey) : Int := if x ∈ xs then (xs.idxOf x : Int) else -1
theorem ey_eq (x y : Ey) : ((x.k == y.k) && (sEq (tx x.s) (tx y.s) && ((x.a == y.a) && true))) = decide (x = y) := by
 rw [tx_eq, Bool.eq_iff_iff]
 cases x; cases y
 simp only [Bool.and_true, Bool.and_eq_true, beq_iff_eq, decide_eq_true_eq, Ey.mk.injEq]
theorem Index_ey (h : St w X) {sl : Sl} {xs : List Ey} (hx : ∀ w', St w' X → Has EE w' sl xs) (hl : xs.length ≤ 1000000) {x : Ey} {R : Int → World → Prop}
   (hR : ∀ w', St w' X → R (idxE xs x) w') : F.slices_Index_sl_api_Entry_api_Entry sl x.k (tx x.s) x.a w R := by
 apply E.slices_Index_sl_api_Entry_api_Entry
 unfold V.slices_Index_sl_api_Entry_api_Entry
 try simp -zeta only [ldC, soC, brC, bkA, slC, cnd_all, blk_add2, Nat.reduceAdd]
 have h1 := (hx w h).1
 refine St.al h fun wa1 h => ?_
 generalize w.heap.size = g at *
 refine ⟨Cnt xs.length fun m w' => (∀ k (hk : k < xs.length), k < m → xs[k] ≠ x) ∧ St w' (Cs g [.int .i64 x.k, .string (tx x.s), .int .i64 x.a] T.y_api_Entry :: X), cntM xs.length, Cnt.zero ⟨fun k _ hk => absurd hk (Nat.not_lt_zero k), h⟩, ?_⟩
 rintro _ w1 ⟨m, rfl, hm, hne, h2⟩
 refine ⟨fun hlt => ?_, fun hge => ?_⟩
 · have hlt : m < xs.length := by omega
   refine St.dr h2 fun wa2 h2 => ?_
   obtain ⟨ad, ha, hb, c0, c1, c2⟩ := Has.ey (hx _ h2.drop) hlt
   refine ⟨_, h2.cell0, _, h2.cell 1, _, h2.cell 2, ad, ha, by omega, by omega, _, c0, _, c1, _, c2, ?_⟩
   rw [ey_eq]
   refine ⟨fun ht => ?_, fun hf => Cnt.next hlt (by omega) ⟨fun k hk hk2 => ?_, h2⟩⟩
   · have ht : x = xs[m] := of_decide_eq_true ht
     have hmem : x ∈ xs := by rw [ht]; exact List.getElem_mem _
     have hi : xs.idxOf x = m := by
       have e1 : xs.idxOf x < xs.length := List.idxOf_lt_length_iff.2 hmem
       have e2 : xs[xs.idxOf x] = x := List.getElem_idxOf e1
       rcases Nat.lt_trichotomy (xs.idxOf x) m with c | c | c
       · exact absurd e2 (hne _ e1 c)
       · exact c
       · have := List.not_of_lt_findIdx (p := fun y => y == x) (xs := xs) (i := m) (by simpa [List.idxOf] using c)
         exact absurd ht.symm (by simpa using this)
     have := hR _ h2.drop
     unfold idxE at this
     rw [if_pos hmem, hi] at this; exact this
   · have hf : ¬ x = xs[m] := of_decide_eq_false hf
     rcases Nat.lt_or_ge k m with c | c
     · exact hne k hk c
     · have : k = m := by omega
       subst this
       exact fun e => hf e.symm
 · have hno : x ∉ xs := fun hm2 => by
     obtain ⟨k, hk, e⟩ := List.mem_iff_getElem.1 hm2
     exact hne k hk (by omega) e
   have := hR _ h2.drop
   unfold idxE at this
   rw [if_neg hno] at this; exact this
theorem Contains_ey (h : St w X) {sl : Sl} {xs : List Ey} (hx : ∀ w', St w' X → Has EE w' sl xs) (hl : xs.length ≤ 1000000) {x : Ey} {R : Bool → World → Prop}
   (hR : ∀ w', St w' X → R (decide (x ∈ xs)) w') : F.slices_Contains_sl_api_Entry_api_Entry sl x.k (tx x.s) x.a w R := by
 apply E.slices_Contains_sl_api_Entry_api_Entry
 unfold V.slices_Contains_sl_api_Entry_api_Entry
 try simp -zeta only [ldC, soC, brC, bkA, slC, cnd_all, blk_add2, Nat.reduceAdd]
 refine St.al h fun wa1 h => ?_
 refine ⟨_, h.cell0, _, h.cell 1, _, h.cell 2, Index_ey h (fun w' hw => hx w' hw.drop) hl fun w2 h2 => ?_⟩
 have e : decide (idxE xs x ≥ 0) = decide (x ∈ xs) := by
   rw [decide_eq_decide]
   unfold idxE
   split
   · rename_i hm; exact ⟨fun _ => hm, fun _ => by omega⟩
   · rename_i hm; exact ⟨fun h => absurd h (by omega), fun h => absurd h hm⟩
 rw [e]
 exact hR w2 h2.drop
theorem app_ey {l sl : Sl} {xs ys : List Ey} (h : St w (Row EE T.y_api_Entry l xs :: X)) (hs : Has EE w sl ys) {a : Addr} (ha : sl.a = some a) (hb : xs.length + ys.length ≤ 1000000) {R : Sl → World → Prop}
   (hR : ∀ l' w', St w' (Row EE T.y_api_Entry l' (xs ++ ys) :: X) → R l' w') : RunT Pg (Builtin.append_ #[T.y_sl_api_Entry, T.y_sl_api_Entry] T.y_sl_api_Entry #[.slice l.a l.len l.cap, .slice (some a) sl.len sl.cap]) [.one .slice] w R :=
 St.app elt_ey h hs ha (by omega) (by omega) fun l' w' h' _ => hR l' w' h'
theorem app1_ey {l : Sl} {xs : List Ey} {y : Ey} {g c : Nat} (h : St w (Cs g [.int .i64 y.k, .string (tx y.s), .int .i64 y.a] T.y_api_Entry :: Row EE T.y_api_Entry l xs :: X)) (hb : xs.length ≤ 100000) {R : Sl → World → Prop}
   (hR : ∀ l' w', St w' (Row EE T.y_api_Entry l' (xs ++ [y]) :: X) → R l' w') : RunT Pg (Builtin.append_ #[T.y_sl_api_Entry, T.y_sl_api_Entry] T.y_sl_api_Entry #[.slice l.a l.len l.cap, .slice (some (blk g)) 1 c]) [.one .slice] w R :=
 app_ey (sl := ⟨some (blk g), 1, c⟩) h.sw (h.lit (En := EE) (xs := [y]) rfl rfl c) rfl (by simp; omega) fun l' w' h' => hR l' w' h'.d2
theorem Clone_ey (h : St w X) {sl : Sl} {xs : List Ey} (hx : ∀ w', St w' X → Has EE w' sl xs) (hn : NilOk sl) (hb : xs.length ≤ 1000000) {R : Sl → World → Prop}
   (hR : ∀ l w', St w' (Row EE T.y_api_Entry l xs :: X) → R l w') : F.slices_Clone_sl_api_Entry_api_Entry sl w R := by
 apply E.slices_Clone_sl_api_Entry_api_Entry
 unfold V.slices_Clone_sl_api_Entry_api_Entry
 try simp -zeta only [ldC, soC, brC, bkA, slC, cnd_all, blk_add2, Nat.reduceAdd]
 refine ⟨fun he => ?_, fun hs => ?_⟩
 · have ha : sl.a = none := by simpa using he
   have hz := hn ha
   have : xs = [] := List.eq_nil_of_length_eq_zero (by rw [← (hx w h).1, hz])
   subst this
   exact hR _ _ (h.row0 EE T.y_api_Entry)
 · obtain ⟨a, ha⟩ : ∃ a, sl.a = some a := by
     cases hc : sl.a with
     | none => rw [hc] at hs; cases hs
     | some a => exact ⟨a, rfl⟩
   refine St.al h fun wa1 h => ?_
   have h2 := St.rowLit h (En := EE) (xs := []) (n := 0) rfl rfl (by decide)
   have hx2 := hx _ h.drop
   rw [ha]
   exact app_ey (l := ⟨some (blk w.heap.size), 0, 0⟩) (xs := []) h2 hx2 ha (by simp only [List.length_nil]; omega) hR
set_option maxHeartbeats 1000000 in
/-- the place of an entry -/
theorem Search_ey (h : St w X) {sl : Sl} {xs : List Ey} (hx : ∀ w', St w' X → Has EE w' sl xs) (hs : Srt xs) (hb : xs.length ≤ 1000000) {x : Ey} {R : Int → Bool → World → Prop}
   (hR : ∀ b w', St w' X → R (cntE xs x : Int) b w') : F.slices_BinarySearchFunc_sl_api_Entry_api_Entry_api_Entry sl x.k (tx x.s) x.a (.func (.func 42) #[] #[]) w R := by
 apply E.slices_BinarySearchFunc_sl_api_Entry_api_Entry_api_Entry
 unfold V.slices_BinarySearchFunc_sl_api_Entry_api_Entry_api_Entry
 try simp -zeta only [ldC, soC, brC, bkA, slC, cnd_all, blk_add2, Nat.reduceAdd]
 have h1 := (hx w h).1
 refine St.al h fun wa1 h => ?_
 generalize w.heap.size = g at *
 refine ⟨fun i j w' => ∃ a b : Nat, i = a ∧ j = b ∧ a ≤ b ∧ b ≤ xs.length ∧ (∀ k (hk : k < xs.length), k < a → ltE xs[k] x) ∧ (∀ k (hk : k < xs.length), b ≤ k → ¬ ltE xs[k] x) ∧ St w' (Cs g [.int .i64 x.k, .string (tx x.s), .int .i64 x.a] T.y_api_Entry :: X), fun i j _ => (j - i).toNat,
   ⟨0, xs.length, rfl, by rw [h1], Nat.zero_le _, Nat.le_refl _, fun k _ hk => absurd hk (Nat.not_lt_zero _), fun k hk hk2 => absurd hk (by omega), h⟩, ?_⟩
 rintro i j w1 ⟨a, b, rfl, rfl, hab, hbl, hlo, hhi, h2⟩
 refine ⟨fun hlt => ?_, fun hge => ?_⟩
 · have hlt : a < b := by omega
   have em : w64 (shr .u64 (wr .u64 (w64 ((a : Int) + (b : Int)))) 1) = (((a + b) / 2 : Nat) : Int) := by
     have e1 : w64 ((a : Int) + (b : Int)) = ((a + b : Nat) : Int) := by rw [w64_id (by omega) (by omega)]; omega
     rw [e1, wr64c _ (by omega), shr1, w64_id (by omega) (by omega)]
   have e2 : w64 ((((a + b) / 2 : Nat) : Int) + 1) = (((a + b) / 2 + 1 : Nat) : Int) := by rw [w64_id (by omega) (by omega)]; omega
   simp only [em, e2]
   have hm1 : a ≤ (a + b) / 2 := by omega
   have hm2 : (a + b) / 2 < b := by omega
   generalize (a + b) / 2 = m at hm1 hm2
   have hml : m < xs.length := by omega
   refine ⟨by decide, ?_⟩
   refine St.dr h2 fun wa2 h2 => ?_
   obtain ⟨ad, ha, hb2, c0, c1, c2⟩ := Has.ey (hx _ h2.drop) hml
   refine ⟨ad, ha, by omega, by omega, _, c0, _, c1, _, c2, _, h2.cell0, _, h2.cell 1, _, h2.cell 2, 42, #[], #[], rfl, okChk_spec (by kernel_rfl), ?_⟩
   show F.bucket_compare xs[m].k (tx xs[m].s) xs[m].a x.k (tx x.s) x.a _ _
   refine compare_st h2 fun w3 _ h3 => ⟨fun hn => ?_, fun hn => ?_⟩
   · have hn : ltE xs[m] x := (cfE_lt _ _).1 hn
     refine ⟨⟨m + 1, b, rfl, rfl, by omega, hbl, fun k hk hk2 => ?_, hhi, h3⟩, ?_⟩
     · rcases Nat.lt_or_ge k m with c | c
       · exact ltE_trans (srt_lt hs hk hml c) hn
       · have : k = m := by omega
         subst this; exact hn
     · show ((b : Int) - ((m + 1 : Nat) : Int)).toNat < ((b : Int) - (a : Int)).toNat
       omega
   · have hn : ¬ ltE xs[m] x := fun k => hn ((cfE_lt _ _).2 k)
     refine ⟨⟨a, m, rfl, rfl, hm1, by omega, hlo, fun k hk hk2 => ?_, h3⟩, ?_⟩
     · rcases Nat.lt_or_ge m k with c | c
       · exact fun k2 => hn (ltE_trans (srt_lt hs hml hk c) k2)
       · have : k = m := by omega
         subst this; exact hn
     · show ((m : Int) - (a : Int)).toNat < ((b : Int) - (a : Int)).toNat
       omega
 · have hge : a = b := by omega
   subst hge
   have hc : cntE xs x = a := cnt_uniq hbl hlo hhi
   rw [hc] at hR
   refine St.dr h2 fun wa3 h2 => ?_
   refine ⟨fun hlt => ?_, fun hlt => hR false _ h2.drop⟩
   have hlt : a < xs.length := by omega
   obtain ⟨ad, ha, hb2, c0, c1, c2⟩ := Has.ey (hx _ h2.drop) hlt
   refine ⟨ad, ha, by omega, by omega, _, c0, _, c1, _, c2, _, h2.cell0, _, h2.cell 1, _, h2.cell 2, 42, #[], #[], rfl, okChk_spec (by kernel_rfl), ?_⟩
   show F.bucket_compare xs[a].k (tx xs[a].s) xs[a].a x.k (tx x.s) x.a _ _
   exact compare_st h2 fun w3 _ h3 => hR _ w3 h3.drop
end
end Go.Proofs.YtgacpkgaogiocaaGreatDoor

/-
 DERIVED: THE SHELF's CONTRACTS AT THIS DUMP, IN PLAIN WORDS (tools/lay-plain.mjs out of 'YtgacpkgaogiocaaGreatDoorShelfX.lean', which tools/lay-shelf.mjs wrote): THE SAME DECLARATIONS UNDER THE SAME NAMES: 'import', 'namespace', 'open', 'def', 'theorem' AND NOTHING ELSE: no command of the shelf's: FOR A HAND-IN. Each laying: the table of numbers ('.._ren') and one theorem, a field a fact of the dump's own or the kernel's comparison; each contract: ONE APPLICATION.
-/
namespace Go.Proofs
open Go.Shelf
end Go.Proofs

/- entries, sorted. -/
set_option linter.unusedVariables false
namespace Go.Proofs.YtgacpkgaogiocaaGreatDoor
open Go Go.Vc Go.RowKit Go.Lib
instance : Inhabited Ey := ⟨⟨0, [], 0⟩⟩
section
variable {w : World} {X : List As}
end
end Go.Proofs.YtgacpkgaogiocaaGreatDoor
