/- masonryref17: a list of entries, in order. -/
import Derived.Test.YtggachhkcmfijaaGreatDoorQz
import Derived.Test.YtggachhkcmfijaaGreatDoorQr
import Derived.Test.YtggachhkcmfijaaGreatDoorSq
set_option linter.unusedVariables false
namespace Go.Proofs.YtggachhkcmfijaaGreatDoor
open Go Go.Vc Go.RowKit Go.Lib Go.Maps
section
variable {w : World} {X : List As}
theorem RefSize_st {k : Int} {R : Int → World → Prop} (hR : R (szN k.toNat : Int) w) : F.masonryref1_Size k w R := by
 apply E.masonryref1_Size
 unfold V.masonryref1_Size
 try simp -zeta only [ldC, soC, brC, bkA, slC, cnd_all, blk_add2, Nat.reduceAdd]
 unfold szN at hR
 refine ⟨fun e => ?_, fun n1 => ⟨fun e => ?_, fun n2 => ?_⟩⟩
 · rw [if_pos (by omega)] at hR; exact hR
 · rw [if_neg (by omega), if_pos (by omega)] at hR; exact hR
 · rw [if_neg (by omega), if_neg (by omega)] at hR; exact hR
theorem RefValidP_st (h : St w X) {k : Int} {s : Bs} {R : Bool → World → Prop} (hR : ∀ w', St w' X → R (decide (0 < szN k.toNat ∧ s.length = szN k.toNat)) w') : F.masonryref1_ValidPrint k (tx s) w R := by
 apply E.masonryref1_ValidPrint
 unfold V.masonryref1_ValidPrint
 try simp -zeta only [ldC, soC, brC, bkA, slC, cnd_all, blk_add2, Nat.reduceAdd]
 refine St.al h fun wa1 h => ?_
 refine St.dr h fun wa2 h => ?_
 refine ⟨_, h.cell0, RefSize_st ⟨fun hp => ⟨_, h.cell 1, _, h.cell0, RefSize_st ⟨h.cell 1, ?_⟩⟩, fun hn => ?_⟩⟩
 · have := hR _ h.drop
   have e : (((tx s).size : Int) == (szN k.toNat : Int)) = decide (0 < szN k.toNat ∧ s.length = szN k.toNat) := by
     rw [tx_size, Bool.eq_iff_iff, beq_iff_eq, decide_eq_true_eq]
     constructor
     · intro h; exact ⟨by omega, by omega⟩
     · intro h; omega
   rw [e]; exact this
 · have := hR _ h.drop
   rw [decide_eq_false (by omega)] at this
   exact this
end
end Go.Proofs.YtggachhkcmfijaaGreatDoor

/- masonryref17: Add, Drop, Find; masonrybook.SameEntries. -/
set_option linter.unusedVariables false
namespace Go.Proofs.YtggachhkcmfijaaGreatDoor
open Go Go.Vc Go.RowKit Go.Lib Go.Maps
end Go.Proofs.YtggachhkcmfijaaGreatDoor

/- masonrylaw18.alive. -/
set_option linter.unusedVariables false
namespace Go.Proofs.YtggachhkcmfijaaGreatDoor
open Go Go.Vc Go.RowKit Go.Lib Go.Maps
def abcB : Bs := [97, 98, 99]
section
variable {w : World} {X : List As}
theorem print_ok (s : Bs) {a : Int} (h : 1 ≤ a ∧ a < 2000) : okE ⟨1, sumK 1 s, a⟩ := ⟨.inl rfl, sumK_len (.inl rfl) s, h⟩
theorem add_two {p : Bs} (h7 : okE ⟨1, p, 7⟩) (h3 : okE ⟨1, p, 3⟩) : allF addS [] [⟨1, p, 7⟩, ⟨1, p, 3⟩] = ([⟨1, p, 3⟩, ⟨1, p, 7⟩], 0) := by
 have e1 : addS ([], 0) ⟨1, p, 7⟩ = ([⟨1, p, 7⟩], 0) := by
   unfold addS
   rw [if_neg (by simp), if_neg (fun h => h h7), if_neg (by simp), if_neg (by simp)]
   rfl
 have e2 : addS ([⟨1, p, 7⟩], 0) ⟨1, p, 3⟩ = ([⟨1, p, 3⟩, ⟨1, p, 7⟩], 0) := by
   unfold addS
   rw [if_neg (by simp), if_neg (fun h => h h3), if_neg (by simp), if_neg (by simp)]
   have hn : ¬ ltE ⟨1, p, 7⟩ ⟨1, p, 3⟩ := by
     unfold ltE
     rintro (h | ⟨_, h | ⟨_, h⟩⟩)
     · have h : (1 : Int) < 1 := h
       omega
     · exact bs_irrefl _ h
     · have h : (7 : Int) < 3 := h
       omega
   have hc : cntE [(⟨1, p, 7⟩ : Ey)] ⟨1, p, 3⟩ = 0 := by unfold cntE; simp [hn]
   unfold insE
   rw [hc]; rfl
 unfold allF
 rw [List.foldl_cons, e1, List.foldl_cons, e2]; rfl
set_option maxHeartbeats 2000000 in
theorem alive18_st (h : St w X) {R : Bool → World → Prop} (hR : ∀ w', St w' X → R true w') : F.masonrylaw18_alive w R := by
 apply E.masonrylaw18_alive
 unfold V.masonrylaw18_alive
 try simp -zeta only [ldC, soC, brC, bkA, slC, cnd_all, blk_add2, Nat.reduceAdd]
 refine Fresh_st h (n := 150) (by decide) (by decide) fun k g w1 q => ?_
 simp -zeta only [Option.isNone_some, Bool.false_eq_true, false_implies, true_and, forall_const, true_implies]
 refine RefPrint_st q (kind := 1) (.inl rfl) (s := abcB) (by decide) fun w2 q => ?_
 generalize hp : sumK 1 abcB = p
 refine St.al q fun wa1 q => ?_
 refine St.fill2 q fun wa3 q => ?_
 refine ⟨_, q.cell0, _, q.cell 1, _, q.cell0, _, q.cell 1, ?_⟩
 refine St.al q fun wa4 q => ?_
 have h7 : okE ⟨1, p, 7⟩ := by rw [← hp]; exact print_ok abcB (by decide)
 have h3 : okE ⟨1, p, 3⟩ := by rw [← hp]; exact print_ok abcB (by decide)
 have hadd := add_two h7 h3
 have hl : (fmt0 150).bs.length = 39 := by rw [fmt0_bs, bs0_len]
 have hps : p.length = 20 := h7.2.1
 refine TAdd_st q.up2 (Have.fmt (by decide) (by decide)) (TrD.empty 1) (by decide) (by rw [hl]; simp) (xs := [⟨1, p, 7⟩, ⟨1, p, 3⟩]) (fun w' hw => hw.lit (En := EE) (xs := [⟨1, p, 7⟩, ⟨1, p, 3⟩]) rfl rfl 2) (by simp) (fun x hx => by
   simp only [List.mem_cons, List.not_mem_nil, or_false] at hx
   rcases hx with rfl | rfl <;> (show p.length ≤ _; omega)) (by decide) (fun w' e he hne _ => absurd (by rw [← he, hadd]) hne) fun w6 D' es' root' _ hH hS hT q => ?_
 rw [hadd] at hT
 refine ⟨_, q.up2.cell0, _, q.up2.cell 1, TFind_st q hH hT (by simp) (by omega) fun l w7 q => ?_⟩
 have hf : findE ([(⟨1, p, 3⟩ : Ey), ⟨1, p, 7⟩], (0 : Int)).1 ((1 : Nat) : Int) p = [3, 7] := by simp [findE]
 rw [hf] at q
 have hh := St.has q (by decide)
 obtain ⟨a0, ha0, hb0, c0⟩ := Has.int hh (m := 0) (by decide)
 obtain ⟨a1, ha1, hb1, c1⟩ := Has.int hh (m := 1) (by decide)
 have hl2 : l.len = 2 := hh.1
 refine ⟨fun _ => ⟨fun _ => ⟨fun _ => ⟨a0, ha0, by decide, by omega, _, c0, fun _ => ⟨a1, ha1, by decide, by omega, _, c1, fun _ => TCheck_b q.sw hH hT (by simp) fun w8 q => ?_, fun h => absurd rfl h⟩, fun h => absurd rfl h⟩, fun h => absurd (by omega) h⟩, fun h => absurd rfl h⟩, fun h => absurd rfl h⟩
 exact hR _ q.drop.drop.drop.drop
end
end Go.Proofs.YtggachhkcmfijaaGreatDoor

/- masonryref1.Put: a number more, at its place. -/
set_option linter.unusedVariables false
namespace Go.Proofs.YtggachhkcmfijaaGreatDoor
open Go Go.Vc Go.RowKit Go.Lib
/-- one more number, at its place, once -/
def putU : List Int → Int → List Int
 | [], x => [x]
 | a :: r, x => if a < x then a :: putU r x else if a = x then a :: r else x :: a :: r
theorem putU_at : ∀ {l : List Int} {x : Int} {k : Nat}, k ≤ l.length → (∀ i, (hi : i < l.length) → i < k → l[i] < x) → (∀ h : k < l.length, ¬ l[k] < x) →
   (∀ h : k < l.length, l[k] = x → putU l x = l) ∧ ((∀ h : k < l.length, l[k] ≠ x) → putU l x = l.take k ++ [x] ++ l.drop k)
 | [], x, k, hk, _, _ => by
   have : k = 0 := by simpa using hk
   subst this
   exact ⟨fun h => absurd h (by simp), fun _ => by simp [putU]⟩
 | a :: r, x, 0, hk, _, h2 => by
   have h2 : ¬ a < x := h2 (by simp)
   unfold putU
   rw [if_neg h2]
   refine ⟨fun _ he => ?_, fun hne => ?_⟩
   · have he : a = x := he
     rw [if_pos he]
   · have hne : a ≠ x := hne (by simp)
     rw [if_neg hne]; simp
 | a :: r, x, k + 1, hk, h1, h2 => by
   have ha : a < x := h1 0 (by simp) (by omega)
   have ih := putU_at (l := r) (x := x) (k := k) (by simpa using hk) (fun i hi hik => h1 (i + 1) (by simpa using hi) (by omega)) (fun h => h2 (by simpa using h))
   unfold putU
   rw [if_pos ha]
   refine ⟨fun h he => by rw [ih.1 (by simpa using h) he], fun hne => by rw [ih.2 (fun h => hne (by simpa using h))]; simp⟩
end Go.Proofs.YtggachhkcmfijaaGreatDoor

/- masonryref1.Put. -/
set_option linter.unusedVariables false
namespace Go.Proofs.YtggachhkcmfijaaGreatDoor
open Go Go.Vc Go.RowKit Go.Lib
theorem Put_spec {w : World} {l : Sl} {zs : List Int} {id_ : Int} (hO : Own w T.y_int 1 l (intCells zs)) (hb : zs.length ≤ 1000000) {R : Sl → World → Prop}
   (hR : ∀ l' w', Own w' T.y_int 1 l' (intCells (putU zs id_)) → (∀ k, l'.bk k → l.bk k ∨ w.heap.size ≤ k) → Below w.heap.size w w' → R l' w') : F.masonryref1_Put l id_ w R := by
 obtain ⟨i, hi, hz, hs1, hby⟩ := info_int
 apply E.masonryref1_Put
 unfold V.masonryref1_Put
 try simp -zeta only [ldC, soC, brC, bkA, slC, stC, alC, drC]
 have hT := Own.ints hO
 have hlen := hT.1
 have hcap : l.len ≤ l.cap := by
   rcases hO.2 with ⟨h2, h0⟩ | ⟨g, cap, cur, h2, hbg, hgg, hnc, hcm, hcs, htake⟩
   · simp only [Value.slice.injEq] at h2; omega
   · simp only [Value.slice.injEq] at h2; omega
 have hnil : NilOk l := fun ha => (Own.isNil hO ha).1
 refine ⟨fun k w' => w' = w ∧ ∃ m : Nat, k = m ∧ m ≤ zs.length ∧ (∀ i, (hi : i < zs.length) → i < m → zs[i] < id_) ∧ (∀ h : m < zs.length, ¬ zs[m] < id_),
   ⟨fun k w' => w' = w ∧ ∃ m : Nat, k = m ∧ m ≤ zs.length ∧ (∀ i, (hi : i < zs.length) → i < m → zs[i] < id_), fun k _ => (zs.length - k).toNat, ⟨rfl, 0, rfl, Nat.zero_le _, fun _ _ h => absurd h (Nat.not_lt_zero _)⟩, ?_⟩, ?_⟩
 · rintro k w1 ⟨rfl, m, rfl, hm, hlo⟩
   refine ⟨fun hlt => ?_, fun hge => ⟨rfl, m, rfl, hm, hlo, fun h => by have := of_decide_eq_false hge; omega⟩⟩
   have hlt : m < zs.length := by have := of_decide_eq_true hlt; omega
   have e1 : w64 ((m : Int) + 1) = ((m + 1 : Nat) : Int) := by rw [w64_id (by omega) (by omega)]; omega
   obtain ⟨a, ha, hc⟩ := hT.2 m zs[m] (by simp [hlt])
   refine ⟨a, ha, by omega, by omega, zs[m], by simpa using hc, fun h => ⟨⟨rfl, m + 1, e1, hlt, fun i hi hi2 => ?_⟩, ?_⟩, fun h => ⟨rfl, m, rfl, hm, hlo, fun _ => of_decide_eq_false h⟩⟩
   · rcases Nat.lt_succ_iff_lt_or_eq.1 hi2 with h' | h'
     · exact hlo i hi h'
     · subst h'; exact of_decide_eq_true h
   · show ((zs.length : Int) - w64 ((m : Int) + 1)).toNat < ((zs.length : Int) - (m : Int)).toNat
     rw [e1]; omega
 rintro k1 w1 ⟨rfl, k, rfl, hk, hlo, hhi⟩
 obtain ⟨p1, p2⟩ := putU_at hk hlo hhi
 refine ⟨fun w' => w' = w1 ∧ ∀ h : k < zs.length, zs[k] ≠ id_, ⟨fun hlt => ?_, fun hge => ⟨rfl, fun h => by have := of_decide_eq_false hge; omega⟩⟩, ?_⟩
 · have hlt : k < zs.length := by have := of_decide_eq_true hlt; omega
   obtain ⟨a, ha, hc⟩ := hT.2 k zs[k] (by simp [hlt])
   refine ⟨a, ha, by omega, by omega, zs[k], by simpa using hc, fun h => ?_, fun h => ⟨rfl, fun _ => by simpa using h⟩⟩
   have h : zs[k] = id_ := by simpa using h
   exact hR l w1 (by rw [p1 hlt h]; exact hO) (fun _ hk => .inl hk) (Below.refl _ _)
 rintro w2 ⟨rfl, hne⟩
 have hput := p2 hne
 intro w3
 have hB3 : Below w2.heap.size w2 w3 := (Below.refl _ _).drew
 clear_value w3
 refine ⟨by omega, by omega, by omega, by omega, fun w4 hB4 => ?_⟩
 have s3 := hB3.size
 have s4 := hB4.size
 have hT4 := hT.below (hB3.trans (hB4.mono s3))
 rw [slA0 l.a l.cap 1, Int.toNat_natCast]
 have hpre : Ints w4 ⟨l.a, k, l.cap⟩ (zs.take k) := by
   refine ⟨by simp only [List.length_take]; omega, fun j x hj => ?_⟩
   have hlt : j < k := by have := (List.getElem?_eq_some_iff.1 hj).1; simp only [List.length_take] at this; omega
   rw [List.getElem?_take_of_lt hlt] at hj
   exact hT4.2 j x hj
 refine app_any (l := ⟨none, 0, 0⟩) (src := ⟨l.a, k, l.cap⟩) und_ints hi hz hs1 hby rfl (by decide) (Own.nil _ _ _) (fun h => by
     have h' := hnil h
     rw [h'] at hlen
     have : k = 0 := by simp only at hlen; omega
     rw [h', this]) (news := intCells (zs.take k)) (by simp [intCells]; omega) (fun a ha => hpre.cell ha) (intCells_one _) (by simp only [maxLen]; omega) (by simp only; omega) fun l5 w5 hO5 hl5 hF5 hM5 => ?_
 have hF5 : Fr no w4 w5 := hF5.mono (fun k _ hk => bk_nil hk)
 have hO5 : Own w5 T.y_int 1 l5 (intCells (zs.take k)) := by simpa using hO5
 have s5 := hF5.size
 have r5 : ∀ k, l5.bk k → w4.heap.size ≤ k ∧ k < w5.heap.size := fun k hk => ⟨by
   rcases moved_bk hM5 hk with h | h
   · exact bk_nil h
   · exact h, hO5.lt hk⟩
 have hl5' : l5.len = k := by simpa using hl5
 refine ⟨Keep.of hF5 (fun g hg _ => ⟨id, by simp only [inIv, or_false] at hg; omega⟩), fun w6 g hB6 hg _ hgo w7 hB7 => ?_⟩
 have s6 := hB6.size
 have s7 := hB7.size
 have hO7 := (hO5.keep (fr_below hB6) (fun _ _ => id)).keep (fr_below hB7) (fun _ _ => id)
 have hgo7 := (fr_below hB7).heap hgo id
 refine runT_append und_ints hi hz hs1 hby rfl (by decide) hO7 (m := 1) (news := intCells [id_]) rfl (fun j u hu => by rw [blk_cell hgo7 j]; exact hu) (intCells_one _) (by simp only [maxLen]; omega) (by omega) fun l8 w8 hO8 hl8 hF8 hM8 => ?_
 rw [← intCells_app] at hO8
 have s8 := hF8.size
 have r8 : ∀ k, l8.bk k → (w4.heap.size ≤ k ∧ k < w5.heap.size) ∨ (w7.heap.size ≤ k ∧ k < w8.heap.size) := fun k hk => by
   rcases moved_bk hM8 hk with h | h
   · exact .inl (r5 k h)
   · exact .inr ⟨h, hO8.lt hk⟩
 refine ⟨Keep.of hF8 (fun g' hg' hgu => ⟨fun hk => by have := r5 _ hk; simp only [inIv, or_false] at hg'; omega, by simp only [inIv, or_false] at hg'; omega⟩), fun w9 hB9 => ?_⟩
 have s9 := hB9.size
 have hO9 := hO8.keep (fr_below hB9) (fun _ _ => id)
 have b4 : Below w2.heap.size w2 w4 := hB3.trans (hB4.mono s3)
 have b5 := b4.trans ((below_fr hF5).mono b4.size)
 have b6 := b5.trans (hB6.mono b5.size)
 have b7 := b6.trans (hB7.mono b6.size)
 have b8 := b7.trans (hF8.toBelow (B := w2.heap.size) (fun k hk => by have := r5 k hk; omega) b7.size)
 have b9 := b8.trans (hB9.mono b8.size)
 have hT9 := hT.below b9
 have hpost : Ints w9 ⟨slA l.a l.cap k 1, l.len - k, l.cap - k⟩ (zs.drop k) := by
   refine ⟨by simp only [List.length_drop]; omega, fun j x hj => ?_⟩
   have hlt : k + j < zs.length := by have := (List.getElem?_eq_some_iff.1 hj).1; simp only [List.length_drop] at this; omega
   rw [List.getElem?_drop] at hj
   obtain ⟨a, ha, h1⟩ := hT9.2 (k + j) x hj
   have e : slA l.a l.cap k 1 = some (a.add (k * 1)) := by
     unfold slA
     rw [if_neg (by omega), ha]; rfl
   have e2 : k * 1 + j * 1 = (k + j) * 1 := by omega
   exact ⟨_, e, by rw [add_add, e2]; exact h1⟩
 have hl8' : l8.len = k + 1 := by omega
 have hpl := hpost.1
 simp only [List.length_drop] at hpl
 refine app_any (src := ⟨slA l.a l.cap k 1, l.len - k, l.cap - k⟩) und_ints hi hz hs1 hby rfl (by decide) hO9 (fun h => by
     have ha : l.a = none := by
       unfold slA at h
       simp only at h
       split at h
       · exact h
       · cases hs : l.a with
         | none => rfl
         | some x => rw [hs] at h; cases h
     have h' := hnil ha
     rw [h']
     simp [slA]) (news := intCells (zs.drop k)) (by simp [intCells]; omega) (fun a ha => hpost.cell ha) (intCells_one _) (by simp only [maxLen]; omega) (by simp only; omega) fun l10 w10 hO10 hl10 hF10 hM10 => ?_
 rw [← intCells_app, ← hput] at hO10
 have s10 := hF10.size
 refine ⟨Keep.of hF10 (fun g' hg' hgu => ⟨fun hk => by have := r8 _ hk; simp only [inIv, or_false] at hg'; omega, by simp only [inIv, or_false] at hg'; omega⟩), fun w11 hB11 => ?_⟩
 refine hR l10 w11 (hO10.keep (fr_below hB11) (fun _ _ => id)) (fun k hk => .inr ?_) ?_
 · rcases moved_bk hM10 hk with h | h
   · have := r8 k h; omega
   · omega
 · have b10 := b9.trans (hF10.toBelow (B := w2.heap.size) (fun k hk => by have := r8 k hk; omega) b9.size)
   exact b10.trans (hB11.mono b10.size)
theorem PutU_st {w : World} {X : List As} {l : Sl} {zs : List Int} {x : Int} (h : St w (Row EI T.y_int l zs :: X)) (hb : zs.length ≤ 1000000) {R : Sl → World → Prop}
   (hR : ∀ l' w', St w' (Row EI T.y_int l' (putU zs x) :: X) → R l' w') : F.masonryref1_Put l x w R := by
 obtain ⟨S, ⟨hO, e⟩, hlt, hX⟩ := h.out
 subst e
 have hO2 : Own w T.y_int 1 l (intCells zs) := by rw [← EI_all]; exact hO
 exact Put_spec hO2 hb fun l' w' h1 h2 h3 => hR l' w' (hX (S' := l'.bk) ⟨by rw [← EI_all] at h1; exact h1, rfl⟩ ((fr_below h3).mono fun _ _ hk => hk.elim) fun k hk => h2 k hk)
end Go.Proofs.YtggachhkcmfijaaGreatDoor

/- TreeAlike. -/
set_option linter.unusedVariables false
namespace Go.Proofs.YtggachhkcmfijaaGreatDoor
open Go Go.Vc Go.RowKit Go.Lib Go.Maps
/-- places that rise from c on -/
def upI (c n : Nat) : List Int := (List.range' c (n + 1 - c)).map fun i : Nat => (i : Int)
theorem upI_cons {c n : Nat} (h : c ≤ n) : upI c n = (c : Int) :: upI (c + 1) n := by
 unfold upI
 have e : n + 1 - c = (n + 1 - (c + 1)) + 1 := by omega
 rw [e, List.range'_succ, List.map_cons]
theorem upI_mem {c n : Nat} {x : Int} : x ∈ upI c n ↔ ∃ i : Nat, c ≤ i ∧ i ≤ n ∧ x = i := by
 unfold upI
 rw [List.mem_map]
 constructor
 · rintro ⟨i, hi, rfl⟩
   rw [List.mem_range'_1] at hi
   exact ⟨i, hi.1, by omega, rfl⟩
 · rintro ⟨i, h1, h2, rfl⟩
   exact ⟨i, by rw [List.mem_range'_1]; omega, rfl⟩
theorem upI_len {c n : Nat} : (upI c n).length = n + 1 - c := by simp [upI]
theorem upI_put {c n : Nat} (h : c ≤ n) : putU (upI (c + 1) n) (c : Int) = upI c n := by
 rw [upI_cons h]
 cases hq : upI (c + 1) n with
 | nil => rfl
 | cons a r =>
   obtain ⟨i, h1, h2, h3⟩ := upI_mem.1 (show a ∈ upI (c + 1) n by rw [hq]; exact List.mem_cons_self ..)
   unfold putU
   rw [if_neg (by omega), if_neg (by omega)]
section
variable {w : World} {X : List As}
set_option maxHeartbeats 4000000 in
theorem TreeAlike_st (h : St w X) {n pk qk : Int} {ps qs : Bs} {R : Bool → World → Prop} (hR : ∀ w', St w' X → R true w') : F.masonrylaw18_TreeAlike n pk (tx ps) qk (tx qs) w R := by
 apply E.masonrylaw18_TreeAlike
 unfold V.masonrylaw18_TreeAlike
 try simp -zeta only [ldC, soC, brC, bkA, slC, cnd_all, blk_add2, Nat.reduceAdd]
 refine St.al h fun wa1 q => ?_
 generalize w.heap.size = gp at *
 refine St.al q fun wa2 q => ?_
 generalize wa1.heap.size = gq at *
 refine ⟨fun b w' => St w' (Cs gp [.int .i64 pk, .string (tx ps)] T.y_api_Print :: Cs gq [.int .i64 qk, .string (tx qs)] T.y_api_Print :: X) ∧ (b = false → 1 ≤ n ∧ n ≤ 60 ∧ (0 < szN pk.toNat ∧ ps.length = szN pk.toNat) ∧ (0 < szN qk.toNat ∧ qs.length = szN qk.toNat)), ?_, ?_⟩
 · have kt : ∀ w', St w' (Cs gp [.int .i64 pk, .string (tx ps)] T.y_api_Print :: Cs gq [.int .i64 qk, .string (tx qs)] T.y_api_Print :: X) → St w' (Cs gp [.int .i64 pk, .string (tx ps)] T.y_api_Print :: Cs gq [.int .i64 qk, .string (tx qs)] T.y_api_Print :: X) ∧ (true = false → 1 ≤ n ∧ n ≤ 60 ∧ (0 < szN pk.toNat ∧ ps.length = szN pk.toNat) ∧ (0 < szN qk.toNat ∧ qs.length = szN qk.toNat)) := fun w' q => ⟨q, fun h => (by cases h)⟩
   have q := q.sw
   refine ⟨fun _ => kt _ q, fun h1 => ⟨fun _ => kt _ q, fun h2 => ⟨_, q.cell0, _, q.cell 1, RefValidP_st q fun w2 q => ⟨fun _ => kt _ q, fun hv1 => ⟨_, q.sw.cell0, _, q.sw.cell 1, RefValidP_st q fun w3 q => ⟨fun _ => kt _ q, fun hv2 => alive18_st q fun w4 q => ⟨q, fun _ => ⟨by omega, by omega, of_decide_eq_true hv1, of_decide_eq_true hv2⟩⟩⟩⟩⟩⟩⟩⟩
 clear q h
 rintro b w5 ⟨q, hb⟩
 refine ⟨fun _ => alive18_st q fun w6 q => hR w6 q.drop.drop, fun hbf => ?_⟩
 obtain ⟨h1, h60, hvp, hvq⟩ := hb hbf
 obtain ⟨N, rfl⟩ : ∃ m : Nat, n = m := ⟨n.toNat, by omega⟩
 refine Fresh_st q (n := 900) (by decide) (by decide) fun k g w7 q => ?_
 simp -zeta only [Option.isNone_some, Bool.false_eq_true, false_implies, true_and, forall_const, true_implies]
 have hl0 : (fmt0 900).bs.length = 789 := by rw [fmt0_bs, bs0_len]
 have hok : ∀ i : Nat, 1 ≤ i → i ≤ N → okE ⟨pk, ps, (i : Int)⟩ := fun i hi1 hi2 => (okE_iff _).2 ⟨hvp, by show (1 : Int) ≤ (i : Int); omega, by show (i : Int) < 2000; omega⟩
 refine ⟨fun l want i w' => ∃ c : Nat, i = (c : Int) - 1 ∧ 1 ≤ c ∧ c ≤ N + 1 ∧ St w' (Row EE tEy l (upE pk ps c N).reverse :: Row EI T.y_int want (upI c N) :: DeskS k g 1001 (fmt0 900) :: Cs gp [.int .i64 pk, .string (tx ps)] T.y_api_Print :: Cs gq [.int .i64 qk, .string (tx qs)] T.y_api_Print :: X), fun _ _ i _ => i.toNat, ⟨N + 1, by omega, by omega, Nat.le_refl _, ?_⟩, ?_⟩
 · rw [upE_nil (Nat.lt_succ_self N)]
   have e : upI (N + 1) N = [] := by simp [upI]
   rw [e]
   exact St.row0 (St.row0 q EI T.y_int) EE tEy
 clear q
 rintro l want _ w8 ⟨c, rfl, hc1, hcN, q⟩
 have hlen : (upE pk ps c N).reverse.length = N + 1 - c := by rw [List.length_reverse, upE_len]
 refine ⟨fun hge => ?_, fun hlt => ?_⟩
 · obtain ⟨e, rfl⟩ : ∃ e, c = e + 1 := ⟨c - 1, by omega⟩
   have e1 : ((e + 1 : Nat) : Int) - 1 = (e : Int) := by omega
   rw [e1] at hge ⊢
   refine ⟨_, q.up3.cell0, _, q.up3.cell 1, ?_⟩
   refine St.al q fun wa3 q => ?_
   refine app1_ey (y := ⟨pk, ps, (e : Int)⟩) q (by omega) fun l1 w10 q => ?_
   have hul := upI_len (c := e + 1) (n := N)
   refine PutU_st (zs := upI (e + 1) N) q.sw (by omega) fun l2 w11 q => ?_
   rw [upI_put (by omega)] at q
   have e2 : w64 ((e : Int) - 1) = (e : Int) - 1 := w64_id (by omega) (by omega)
   rw [e2]
   refine ⟨⟨e, rfl, by omega, by omega, ?_⟩, by show ((e : Int) - 1).toNat < (e : Int).toNat; omega⟩
   have e3 : (upE pk ps e N).reverse = (upE pk ps (e + 1) N).reverse ++ [⟨pk, ps, (e : Int)⟩] := by rw [upE_cons (by omega), List.reverse_cons]
   rw [e3]
   exact q.sw
 · have hc : c = 1 := by omega
   subst hc
   have hadd := upE_add hok (by omega) N 1 (by omega) (by decide)
   have hxs : ∀ x ∈ (upE pk ps 1 N).reverse, x.s.length ≤ 1000000000 := fun x hx => by
     obtain ⟨i, i1, i2, rfl⟩ := upE_mem.1 (List.mem_reverse.1 hx)
     exact (hok i i1 i2).hash
   -- list, want, desk
   have q := q.up2
   refine TAdd_st (sl := l) (xs := (upE pk ps 1 N).reverse) q (Have.fmt (by decide) (by decide)) (TrD.empty 3) (by decide) (by rw [hl0, hlen]; simp; omega) (fun w' hw => St.has hw (by decide)) (by rw [hlen]; simp; omega) hxs (by decide) (fun w' e he hne _ => absurd (by rw [← he, hadd]) hne) fun w12 D' es' root' _ hH hS hT q => ?_
   rw [hadd] at hT
   simp only at hT
   have hul : (upE pk ps 1 N).length ≤ 161 := by rw [upE_len]; omega
   have hpl : ps.length ≤ 1000000000 := by have := szN_le pk.toNat; omega
   have hql : qs.length ≤ 1000000000 := by have := szN_le qk.toNat; omega
   refine ⟨_, q.up3.cell0, _, q.up3.cell 1, TFind_st q hH hT hul hpl fun l3 w13 q => ⟨_, q.up5.cell0, _, q.up5.cell 1, TFind_st q.sw hH hT hul hql fun l4 w14 q => ?_⟩⟩
   -- found q, desk, found p, list, want, p, q
   have hfp : findE (upE pk ps 1 N) pk ps = upI 1 N := by rw [upE_find, if_pos ⟨rfl, rfl⟩]; rfl
   rw [hfp] at q
   have h4 := (St.has q (by decide)).1
   refine ⟨fun _ => ⟨fun _ => ⟨fun _ => ?_, fun h => absurd rfl h⟩, fun h => absurd rfl h⟩, fun h => absurd rfl h⟩
   refine SameI_st q (xs := upI 1 N) (ys := upI 1 N) (fun w' hw => St.has hw.up2 (by decide)) (fun w' hw => St.has hw.up4 (by decide)) (by rw [upI_len]; omega) fun w15 q => ⟨fun _ => ⟨_, q.up5.cell0, _, q.up5.cell 1, _, q.up6.cell0, _, q.up6.cell 1, ?_⟩, fun h => absurd h (by simp)⟩
   rw [pr_eq]
   refine ⟨fun _ => TCheck_b q.sw hH hT hul fun w16 q => hR w16 q.drop.drop.drop.drop.drop.drop.drop, fun hne => ?_⟩
   have hne : ¬ (pk = qk ∧ ps = qs) := of_decide_eq_false hne
   have hfq : findE (upE pk ps 1 N) qk qs = [] := by rw [upE_find, if_neg hne]
   rw [hfq] at h4
   refine ⟨fun _ => TCheck_b q.sw hH hT hul fun w17 q => hR w17 q.drop.drop.drop.drop.drop.drop.drop, fun hno => ?_⟩
   rw [h4] at hno
   exact absurd rfl hno
theorem TreeAlike_spec {n pr0 qr0 : Int} {pr1 qr1 : Bs} {R : Bool → World → Prop} (hR : ∀ w', Below w.heap.size w w' → R true w') : F.masonrylaw18_TreeAlike n pr0 (tx pr1) qr0 (tx qr1) w R :=
 TreeAlike_st (St.start w) fun w' h => hR w' (St.old h)
end
end Go.Proofs.YtggachhkcmfijaaGreatDoor
