/- masonryref17: a list of entries, in order. -/
import Derived.Test.YtgacpkgaogiocaaGreatDoorEw
set_option linter.unusedVariables false
namespace Go.Proofs.YtgacpkgaogiocaaGreatDoor
open Go Go.Vc Go.RowKit Go.Lib Go.Maps
theorem elt_el : Elt Pg T.y_masonryref17_List T.y_api_Entry 3 32 := by
 obtain ⟨i, hi, hz, h1, h2⟩ := info_ey
 exact ⟨by kernel_rfl, ⟨i, _, hi, hz, h1, h2, rfl⟩, by decide⟩
theorem Has.preE {w : World} {l : Sl} {xs : List Ey} (h : Has EE w l xs) {k : Nat} (hk : k ≤ xs.length) : Has EE w ⟨l.a, k, l.cap⟩ (xs.take k) := by
 have h2 := h
 rw [← List.take_append_drop k xs] at h2
 exact Has.pre (sl := ⟨l.a, k, l.cap⟩) h2 rfl (by rw [List.length_take]; show k = _; omega)
theorem Has.dropE {w : World} {l : Sl} {xs : List Ey} (h : Has EE w l xs) (hc : l.len ≤ l.cap) {k : Nat} (hk : k ≤ xs.length) : Has EE w ⟨slA l.a l.cap k 3, l.len - k, l.cap - k⟩ (xs.drop k) := by
 have hl := h.1
 refine ⟨by rw [List.length_drop]; show l.len - k = _; omega, fun j x hj => ?_⟩
 rw [List.getElem?_drop] at hj
 obtain ⟨a, ha, hcell⟩ := h.2 _ _ hj
 have hlt : k + j < xs.length := (List.getElem?_eq_some_iff.1 hj).1
 refine ⟨a.add (k * 3), ?_, fun i u hu => ?_⟩
 · show slA l.a l.cap k 3 = _
   unfold slA
   rw [if_neg (by omega), ha]; rfl
 · have := hcell i u hu
   rw [add_add]
   have e : k * 3 + (j * EE.n + i) = (k + j) * EE.n + i := by show k * 3 + (j * 3 + i) = (k + j) * 3 + i; omega
   rw [e]; exact this
theorem nil_pre {l : Sl} (hn : NilOk l) (hc : l.len ≤ l.cap) {k : Nat} (hk : k ≤ l.len) : NilOk ⟨l.a, k, l.cap⟩ := fun ha => by
 have hz := hn ha
 have h0 : l.len = 0 := by rw [hz]
 have : k = 0 := by omega
 rw [this, hz]
theorem nil_drop {l : Sl} (hn : NilOk l) {k : Nat} : NilOk ⟨slA l.a l.cap k 3, l.len - k, l.cap - k⟩ := fun ha => by
 have h2 : l.a = none := by
   cases hl : l.a with
   | none => rfl
   | some a =>
     have ha : slA l.a l.cap k 3 = none := ha
     rw [hl] at ha
     unfold slA at ha
     split at ha <;> cases ha
 have hz := hn h2
 rw [hz]
 simp [slA]
section
variable {w : World} {X : List As}
theorem RefCmp_st (h : St w X) {a b : Int} {s u : Bs} {R : Int → World → Prop} (hR : ∀ w', St w' X → R (if a < b ∨ (a = b ∧ s < u) then -1 else if a = b ∧ s = u then 0 else 1) w') : F.masonryref1_Compare a (tx s) b (tx u) w R := by
 apply E.masonryref1_Compare
 unfold V.masonryref1_Compare
 try simp -zeta only [ldC, soC, brC, bkA, slC, cnd_all, blk_add2, Nat.reduceAdd]
 refine St.al h fun wa1 h => ?_
 refine St.al h fun wa2 h => ?_
 refine ⟨fun v w' => v = decide (a < b ∨ (a = b ∧ s < u)) ∧ St w' _, ⟨_, h.sw.cell0, _, h.cell0, fun hlt => ⟨(decide_eq_true (.inl hlt)).symm, h⟩, fun hnlt => ⟨_, h.sw.cell0, _, h.cell0, fun heq => ⟨_, h.sw.cell 1, _, h.cell 1, ?_, h⟩, fun hne => ⟨?_, h⟩⟩⟩, ?_⟩
 · rw [tx_lt, bless, decide_eq_decide]
   exact ⟨fun k => .inr ⟨heq, k⟩, fun k => k.elim (fun k => absurd k hnlt) fun k => k.2⟩
 · symm
   exact decide_eq_false fun k => k.elim hnlt fun k => hne k.1
 rintro v w2 ⟨rfl, h⟩
 refine ⟨fun ht => ?_, fun hf => ⟨_, h.sw.cell0, _, h.sw.cell 1, _, h.cell0, _, h.cell 1, ?_⟩⟩
 · have := hR w2 h.drop.drop
   rw [if_pos (of_decide_eq_true ht)] at this; exact this
 · have hf := of_decide_eq_false hf
   have := hR w2 h.drop.drop
   rw [if_neg hf] at this
   rw [tx_eq]
   refine ⟨fun ht => ?_, fun hn => ?_⟩
   · have ht : a = b ∧ s = u := by simpa using ht
     rw [if_pos ht] at this; exact this
   · have hn : ¬ (a = b ∧ s = u) := by simpa using hn
     rw [if_neg hn] at this; exact this
theorem Ahead_st (h : St w X) {x y : Ey} {R : Bool → World → Prop} (hR : ∀ w', St w' X → R (decide (ltE x y)) w') : F.masonryref17_Ahead x.k (tx x.s) x.a y.k (tx y.s) y.a w R := by
 apply E.masonryref17_Ahead
 unfold V.masonryref17_Ahead
 try simp -zeta only [ldC, soC, brC, bkA, slC, cnd_all, blk_add2, Nat.reduceAdd]
 refine St.al h fun wa1 h => ?_
 refine St.al h fun wa2 h => ?_
 refine ⟨_, h.sw.cell0, _, h.sw.cell 1, _, h.cell0, _, h.cell 1, RefCmp_st h fun w2 h => ?_⟩
 have hr := hR w2 h.drop.drop
 by_cases h1 : x.k < y.k ∨ (x.k = y.k ∧ x.s < y.s)
 · rw [if_pos h1]
   refine ⟨fun _ => ?_, fun hn => absurd (by decide) hn⟩
   rw [decide_eq_true (show ltE x y from h1.imp id fun k => ⟨k.1, .inl k.2⟩)] at hr; exact hr
 · rw [if_neg h1]
   by_cases h2 : x.k = y.k ∧ x.s = y.s
   · rw [if_pos h2]
     refine ⟨fun hn => absurd hn (by decide), fun _ => ⟨fun _ => ⟨_, h.sw.cell 2, _, h.cell 2, ?_⟩, fun hn => absurd rfl hn⟩⟩
     have e : decide (x.a < y.a) = decide (ltE x y) := by
       rw [decide_eq_decide]
       unfold ltE
       exact ⟨fun k => .inr ⟨h2.1, .inr ⟨h2.2, k⟩⟩, fun k => k.elim (fun k => absurd (.inl k) h1) fun k => k.2.elim (fun k2 => absurd (.inr ⟨h2.1, k2⟩) h1) fun k => k.2⟩
     rw [e]; exact hr
   · rw [if_neg h2]
     refine ⟨fun hn => absurd hn (by decide), fun _ => ⟨fun hn => absurd hn (by decide), fun _ => ?_⟩⟩
     rw [decide_eq_false (fun k => by
       unfold ltE at k
       exact k.elim (fun k => h1 (.inl k)) fun k => k.2.elim (fun k2 => h1 (.inr ⟨k.1, k2⟩)) fun k2 => h2 ⟨k.1, k2.1⟩)] at hr
     exact hr
theorem RefSize_st {k : Int} {R : Int → World → Prop} (hR : R (szN k.toNat : Int) w) : F.masonryref1_Size k w R := by
 apply E.masonryref1_Size
 unfold V.masonryref1_Size
 try simp -zeta only [ldC, soC, brC, bkA, slC, cnd_all, blk_add2, Nat.reduceAdd]
 unfold szN at hR
 refine ⟨fun e => ?_, fun n1 => ⟨fun e => ?_, fun n2 => ?_⟩⟩
 · rw [if_pos (by omega)] at hR; exact hR
 · rw [if_neg (by omega), if_pos (by omega)] at hR; exact hR
 · rw [if_neg (by omega), if_neg (by omega)] at hR; exact hR
theorem RefValidP_st (h : St w X) {k : Int} {s : Bs} {R : Bool → World → Prop} (hR : ∀ w', St w' X → R (decide (0 < szN k.toNat ∧ s.length = szN k.toNat)) w') : F.masonryref1_ValidPrint k (tx s) w R := by
 apply E.masonryref1_ValidPrint
 unfold V.masonryref1_ValidPrint
 try simp -zeta only [ldC, soC, brC, bkA, slC, cnd_all, blk_add2, Nat.reduceAdd]
 refine St.al h fun wa1 h => ?_
 refine St.dr h fun wa2 h => ?_
 refine ⟨_, h.cell0, RefSize_st ⟨fun hp => ⟨_, h.cell 1, _, h.cell0, RefSize_st ⟨h.cell 1, ?_⟩⟩, fun hn => ?_⟩⟩
 · have := hR _ h.drop
   have e : (((tx s).size : Int) == (szN k.toNat : Int)) = decide (0 < szN k.toNat ∧ s.length = szN k.toNat) := by
     rw [tx_size, Bool.eq_iff_iff, beq_iff_eq, decide_eq_true_eq]
     constructor
     · intro h; exact ⟨by omega, by omega⟩
     · intro h; omega
   rw [e]; exact this
 · have := hR _ h.drop
   rw [decide_eq_false (by omega)] at this
   exact this
theorem RefValid_st (h : St w X) {x : Ey} {R : Bool → World → Prop} (hR : ∀ w', St w' X → R (decide (okE x)) w') : F.masonryref17_Valid x.k (tx x.s) x.a w R := by
 apply E.masonryref17_Valid
 unfold V.masonryref17_Valid
 try simp -zeta only [ldC, soC, brC, bkA, slC, cnd_all, blk_add2, Nat.reduceAdd]
 refine St.al h fun wa1 h => ?_
 refine ⟨_, h.cell0, _, h.cell 1, RefValidP_st h fun w1 h1 => ?_⟩
 have hr := hR w1 h1.drop
 refine ⟨fun ht => ⟨_, h1.cell 2, fun ha => ⟨_, h1.cell 2, ?_⟩, fun ha => ?_⟩, fun hf => ?_⟩
 · have e : decide (x.a < 2000) = decide (okE x) := by rw [decide_eq_decide, okE_iff]; exact ⟨fun h => ⟨of_decide_eq_true ht, ha, h⟩, fun h => h.2.2⟩
   rw [e]; exact hr
 · rw [decide_eq_false (fun h => ha ((okE_iff x).1 h).2.1)] at hr; exact hr
 · rw [decide_eq_false (fun h => (of_decide_eq_false hf) ((okE_iff x).1 h).1)] at hr; exact hr
/-- the place of an entry, and is it there -/
theorem place_st (h : St w X) {sl : Sl} {xs : List Ey} (hx : ∀ w', St w' X → Has EE w' sl xs) (hs : Srt xs) (hb : xs.length ≤ 1000000) {x : Ey} {R : Int → Bool → World → Prop}
   (hR : ∀ w', St w' X → R (cntE xs x : Int) (decide (x ∈ xs)) w') : F.masonryref17_List_place sl x.k (tx x.s) x.a w R := by
 apply E.masonryref17_List_place
 unfold V.masonryref17_List_place
 try simp -zeta only [ldC, soC, brC, bkA, slC, cnd_all, blk_add2, Nat.reduceAdd]
 have h1 := (hx w h).1
 refine St.al h fun wa1 h => ?_
 generalize w.heap.size = g at *
 refine ⟨fun k w' => k = (cntE xs x : Int) ∧ St w' (Cs g [.int .i64 x.k, .string (tx x.s), .int .i64 x.a] T.y_api_Entry :: X), ⟨Cnt xs.length fun m w' => (∀ k (hk : k < xs.length), k < m → ltE xs[k] x) ∧ St w' (Cs g [.int .i64 x.k, .string (tx x.s), .int .i64 x.a] T.y_api_Entry :: X), cntM xs.length, Cnt.zero ⟨fun k _ hk => absurd hk (Nat.not_lt_zero k), h⟩, ?_⟩, ?_⟩
 · rintro _ w1 ⟨m, rfl, hm, hlo, h2⟩
   refine St.dr h2 fun wa2 h2 => ?_
   refine ⟨fun hlt => ?_, fun hge => ?_⟩
   · have hlt : m < xs.length := by omega
     obtain ⟨ad, ha, hb2, c0, c1, c2⟩ := Has.ey (hx _ h2.drop) hlt
     refine ⟨ad, ha, by omega, by omega, _, c0, _, c1, _, c2, _, h2.cell0, _, h2.cell 1, _, h2.cell 2, Ahead_st h2 fun w3 h3 => ⟨fun ht => Cnt.next hlt (by omega) ⟨fun k hk hk2 => ?_, h3⟩, fun hf => ⟨?_, h3⟩⟩⟩
     · have ht := of_decide_eq_true ht
       rcases Nat.lt_or_ge k m with c | c
       · exact hlo k hk c
       · have : k = m := by omega
         subst this; exact ht
     · have hf := of_decide_eq_false hf
       have := cnt_uniq (l := xs) (x := x) hm hlo fun k hk hk2 => by
         rcases Nat.lt_or_ge m k with c | c
         · exact fun k2 => hf (ltE_trans (srt_lt hs hlt hk c) k2)
         · have : k = m := by omega
           subst this; exact hf
       rw [this]
   · have hmm : m = xs.length := by omega
     subst hmm
     have := cnt_uniq (l := xs) (x := x) (Nat.le_refl _) hlo fun k hk hk2 => absurd hk (by omega)
     exact ⟨by rw [this], h2⟩
 rintro _ w4 ⟨rfl, h2⟩
 have hcl := cntE_le xs x
 have hat := srt_at hs x
 refine St.dr h2 fun wa3 h2 => ?_
 refine ⟨fun hlt => ?_, fun hge => ?_⟩
 · have hlt : cntE xs x < xs.length := by omega
   obtain ⟨ad, ha, hb2, c0, c1, c2⟩ := Has.ey (hx _ h2.drop) hlt
   refine ⟨ad, ha, by omega, by omega, _, c0, _, c1, _, c2, _, h2.cell0, _, h2.cell 1, _, h2.cell 2, ?_⟩
   rw [ey_eq]
   have e : decide (xs[cntE xs x] = x) = decide (x ∈ xs) := by
     rw [decide_eq_decide, hat, List.getElem?_eq_getElem hlt]
     exact ⟨fun h => by rw [h], fun h => Option.some.inj h⟩
   rw [e]
   exact hR _ h2.drop
 · have hno : x ∉ xs := fun hm => by
     rw [hat, List.getElem?_eq_none (by omega)] at hm
     cases hm
   have := hR _ h2.drop
   rw [decide_eq_false hno] at this; exact this
/-- a list that is a given one, or has a row of its own -/
def Nw (X : List As) (l : Sl) (L : List Ey) (now : Sl) (acc : List Ey) (w : World) : Prop := (now = l ∧ acc = L ∧ St w X) ∨ St w (Row EE T.y_api_Entry now acc :: X)
theorem Nw.open {l now : Sl} {L acc : List Ey} (h : Nw X l L now acc w) (hl : ∀ w', St w' X → Has EE w' l L) (hn : NilOk l) (hc : l.len ≤ l.cap) :
   ∃ Z, St w Z ∧ (∀ w', St w' Z → Has EE w' now acc) ∧ NilOk now ∧ now.len ≤ now.cap ∧ (∀ w', St w' Z → St w' X) ∧ (∀ w' A, St w' (A :: Z) → St w' (A :: X)) ∧ ∀ w', St w' Z → Nw X l L now acc w' := by
 rcases h with ⟨rfl, rfl, h⟩ | h
 · exact ⟨X, h, hl, hn, hc, fun _ h => h, fun _ _ h => h, fun _ h => .inl ⟨rfl, rfl, h⟩⟩
 · exact ⟨_, h, fun _ h => St.has h (by decide), Row.nilOk h, Row.cap h, fun _ h => h.drop, fun _ _ h => h.d2, fun _ h => .inr h⟩
end
end Go.Proofs.YtgacpkgaogiocaaGreatDoor

/- masonryref17: Add, Drop, Find; masonrybook.SameEntries. -/
set_option linter.unusedVariables false
namespace Go.Proofs.YtgacpkgaogiocaaGreatDoor
open Go Go.Vc Go.RowKit Go.Lib Go.Maps
theorem addS_ok {l : List Ey} {x : Ey} (h1 : okE x) (h2 : x ∉ l) (h3 : l.length < 1500) : addS (l, 0) x = (insE l x, 0) := by
 unfold addS
 rw [if_neg (by simp), if_neg (fun h => h h1), if_neg h2, if_neg (by show ¬ 1500 ≤ l.length; omega)]
theorem addS_bad {l : List Ey} {x : Ey} (h1 : ¬ okE x) : addS (l, 0) x = (l, 1) := by
 unfold addS
 rw [if_neg (by simp), if_pos h1]
theorem addS_dup {l : List Ey} {x : Ey} (h1 : okE x) (h2 : x ∈ l) : addS (l, 0) x = (l, 9) := by
 unfold addS
 rw [if_neg (by simp), if_neg (fun h => h h1), if_pos h2]
theorem dropS_ok {l : List Ey} {x : Ey} (h2 : x ∈ l) : dropS (l, 0) x = (l.filter fun y => decide (y ≠ x), 0) := by
 unfold dropS
 rw [if_neg (by simp), if_pos h2]
theorem dropS_no {l : List Ey} {x : Ey} (h2 : x ∉ l) : dropS (l, 0) x = (l, 8) := by
 unfold dropS
 rw [if_neg (by simp), if_neg h2]
section
variable {w : World} {X : List As} {l : Sl} {L : List Ey}
set_option maxHeartbeats 4000000 in
theorem RefAdd_st (h : St w X) (hl : ∀ w', St w' X → Has EE w' l L) (hn : NilOk l) (hc : l.len ≤ l.cap) (hG : GoodE L) {ml : Sl} {xs : List Ey} (hx : ∀ w', St w' X → Has EE w' ml xs) (hb : L.length + xs.length ≤ 1400) {R : Sl → Int → World → Prop}
   (hE : ∀ w' e, (allF addS L xs).2 = e → e ≠ 0 → St w' X → R l e w')
   (hR : ∀ w' now, (allF addS L xs).2 = 0 → Nw X l L now (allF addS L xs).1 w' → R now 0 w') : F.masonryref17_List_Add l ml w R := by
 apply E.masonryref17_List_Add
 unfold V.masonryref17_List_Add
 try simp -zeta only [ldC, soC, brC, bkA, slC, cnd_all, blk_add2, Nat.reduceAdd]
 have hlx := (hx w h).1
 refine ⟨fun now i w' => ∃ m : Nat, i = m ∧ m ≤ xs.length ∧ (allF addS L (xs.take m)).2 = 0 ∧ Nw X l L now (allF addS L (xs.take m)).1 w', fun _ i _ => ((xs.length : Int) - i).toNat, ⟨0, rfl, Nat.zero_le _, rfl, .inl ⟨rfl, rfl, h⟩⟩, ?_⟩
 rintro now _ w1 ⟨m, rfl, hm, hz, hN⟩
 refine ⟨fun hlt => ?_, fun hge => ?_⟩
 · have hlt : m < xs.length := by omega
   have hms : ((xs.length : Int) - ((m + 1 : Nat) : Int)).toNat < ((xs.length : Int) - (m : Int)).toNat := by omega
   obtain ⟨Z, q, hnow, hnn, hnc, hZ1, hZ2, hZ3⟩ := hN.open hl hn hc
   have hst : (allF addS L (xs.take m)) = ((allF addS L (xs.take m)).1, 0) := by rw [← hz]
   have hnx := allF_take (f := addS) (L := L) hlt
   rw [hst] at hnx
   have hgd := allF_good (f := addS) (fun {st x} h => addS_good h) hG (xs.take m)
   have hln := allF_len addS_len L (xs.take m)
   rw [List.length_take] at hln
   obtain ⟨ad, ha, hb2, c0, c1, c2⟩ := Has.ey (hx _ (hZ1 _ q)) hlt
   have herr : ∀ e w', addS ((allF addS L (xs.take m)).1, 0) xs[m] = ((allF addS L (xs.take m)).1, e) → e ≠ 0 → St w' Z → R l e w' := fun e w' he hne hq => by
     rw [he] at hnx
     refine hE w' e ?_ hne (hZ1 _ hq)
     rw [allF_err addS_err (m := m + 1) (by rw [hnx]; exact hne), hnx]
   generalize hacc : (allF addS L (xs.take m)).1 = acc at *
   have hal := (hnow _ q).1
   refine ⟨ad, ha, by omega, by omega, _, c0, _, c1, _, c2, ?_⟩
   refine St.al q fun wa1 q => ?_
   refine St.fill3 q fun wa4 q => ?_
   refine ⟨_, q.cell0, _, q.cell 1, _, q.cell 2, place_st q (fun w' hw => hnow _ hw.drop) hgd.1 (by omega) fun w5 q => ⟨_, q.cell0, _, q.cell 1, _, q.cell 2, RefValid_st q fun w6 q => ⟨fun hbad => ?_, fun hok => ⟨fun hdup => ?_, fun hnd => ⟨fun hbig => ?_, fun _ => ?_⟩⟩⟩⟩⟩
   · have hbad : ¬ okE xs[m] := by simpa using hbad
     exact herr 1 w6 (addS_bad hbad) (by decide) q.drop
   · have hok : okE xs[m] := by simpa using hok
     have hdup : xs[m] ∈ acc := by simpa using hdup
     exact herr 9 w6 (addS_dup hok hdup) (by decide) q.drop
   · omega
   have hok : okE xs[m] := by simpa using hok
   have hnd : xs[m] ∉ acc := by simpa using hnd
   have hkl := cntE_le acc xs[m]
   have hins := addS_ok hok hnd (by omega)
   rw [hins] at hnx
   refine St.dr q fun wa5 q => ?_
   refine ⟨by omega, by omega, _, q.cell0, _, q.cell 1, _, q.cell 2, by omega, by omega, fun w8 hB8 => ?_⟩
   have q := q.fz.iv0 hB8
   rw [slA0, Int.toNat_natCast]
   have hh := Has.preE (hnow _ q.drop.drop) hkl
   refine St.appN elt_el (St.row0 q EE T.y_api_Entry) hh (nil_pre hnn hnc (by omega)) (by rw [List.length_take]; simp; omega) (by rw [List.length_take]; simp; omega) fun l1 w9 q _ => ?_
   rw [List.nil_append] at q
   obtain ⟨k9, q⟩ := q.sw.kp
   refine ⟨k9, q.up2.cell0, q.up2.cell 1, q.up2.cell 2, fun w10 g hB10 hg10 hn10 ho10 w11 hB11 => ?_⟩
   have q := (q.iv hB10 hg10 hn10 ho10).iv0 hB11
   refine St.app elt_el q.up2 (sl := ⟨some (blk g), 1, 1⟩) (ys := [xs[m]]) (q.sw.lit (En := EE) (xs := [xs[m]]) rfl rfl 1) rfl (by rw [List.length_take]; simp; omega) (by rw [List.length_take]; simp; omega) fun l2 w12 q _ => ?_
   obtain ⟨k12, q⟩ := q.sw.kp
   refine ⟨k12, q.up3.cell0, q.up3.cell 1, q.up3.cell 2, fun w13 hB13 => ?_⟩
   have q := (q.iv0 hB13).sw
   have hh := Has.dropE (hnow _ q.drop.drop.drop.drop) hnc hkl
   refine St.appN elt_el q hh (nil_drop hnn) (by rw [List.length_append, List.length_take, List.length_drop]; simp; omega) (by rw [List.length_append, List.length_take, List.length_drop]; simp; omega) fun l3 w14 q _ => ?_
   obtain ⟨k14, q⟩ := q.sw.kp
   refine ⟨k14, q.up3.cell0, q.up3.cell 1, q.up3.cell 2, fun w15 hB15 => ?_⟩
   have q := hZ2 _ _ (q.iv0 hB15).drop.d2.d2
   rw [w64_succ (by omega)]
   refine ⟨⟨m + 1, rfl, hlt, by rw [hnx], .inr ?_⟩, hms⟩
   rw [hnx]
   have e : insE acc xs[m] = acc.take (cntE acc xs[m]) ++ [xs[m]] ++ acc.drop (cntE acc xs[m]) := by unfold insE; simp
   rw [e]; exact q
 · have hmm : m = xs.length := by omega
   subst hmm
   rw [List.take_length] at hz hN
   exact hR w1 now hz hN
set_option maxHeartbeats 4000000 in
theorem RefDrop_st (h : St w X) (hl : ∀ w', St w' X → Has EE w' l L) (hn : NilOk l) (hc : l.len ≤ l.cap) (hG : GoodE L) {ml : Sl} {xs : List Ey} (hx : ∀ w', St w' X → Has EE w' ml xs) (hb : L.length + xs.length ≤ 1400) {R : Sl → Int → World → Prop}
   (hE : ∀ w' e, (allF dropS L xs).2 = e → e ≠ 0 → St w' X → R l e w')
   (hR : ∀ w' now, (allF dropS L xs).2 = 0 → Nw X l L now (allF dropS L xs).1 w' → R now 0 w') : F.masonryref17_List_Drop l ml w R := by
 apply E.masonryref17_List_Drop
 unfold V.masonryref17_List_Drop
 try simp -zeta only [ldC, soC, brC, bkA, slC, cnd_all, blk_add2, Nat.reduceAdd]
 have hlx := (hx w h).1
 refine ⟨fun now i w' => ∃ m : Nat, i = m ∧ m ≤ xs.length ∧ (allF dropS L (xs.take m)).2 = 0 ∧ Nw X l L now (allF dropS L (xs.take m)).1 w', fun _ i _ => ((xs.length : Int) - i).toNat, ⟨0, rfl, Nat.zero_le _, rfl, .inl ⟨rfl, rfl, h⟩⟩, ?_⟩
 rintro now _ w1 ⟨m, rfl, hm, hz, hN⟩
 refine ⟨fun hlt => ?_, fun hge => ?_⟩
 · have hlt : m < xs.length := by omega
   have hms : ((xs.length : Int) - ((m + 1 : Nat) : Int)).toNat < ((xs.length : Int) - (m : Int)).toNat := by omega
   obtain ⟨Z, q, hnow, hnn, hnc, hZ1, hZ2, hZ3⟩ := hN.open hl hn hc
   have hst : (allF dropS L (xs.take m)) = ((allF dropS L (xs.take m)).1, 0) := by rw [← hz]
   have hnx := allF_take (f := dropS) (L := L) hlt
   rw [hst] at hnx
   have hgd := allF_good (f := dropS) (fun {st x} h => dropS_good h) hG (xs.take m)
   have hln := allF_len dropS_len L (xs.take m)
   rw [List.length_take] at hln
   obtain ⟨ad, ha, hb2, c0, c1, c2⟩ := Has.ey (hx _ (hZ1 _ q)) hlt
   have herr : ∀ e w', dropS ((allF dropS L (xs.take m)).1, 0) xs[m] = ((allF dropS L (xs.take m)).1, e) → e ≠ 0 → St w' Z → R l e w' := fun e w' he hne hq => by
     rw [he] at hnx
     refine hE w' e ?_ hne (hZ1 _ hq)
     rw [allF_err dropS_err (m := m + 1) (by rw [hnx]; exact hne), hnx]
   generalize hacc : (allF dropS L (xs.take m)).1 = acc at *
   have hal := (hnow _ q).1
   refine ⟨ad, ha, by omega, by omega, _, c0, _, c1, _, c2, place_st q hnow hgd.1 (by omega) fun w5 q => ⟨fun hno => ?_, fun hyes => ?_⟩⟩
   · have hno : xs[m] ∉ acc := by simpa using hno
     exact herr 8 w5 (dropS_no hno) (by decide) q
   have hyes : xs[m] ∈ acc := by simpa using hyes
   have hat := (srt_at hgd.1 xs[m]).1 hyes
   have hkl : cntE acc xs[m] < acc.length := (List.getElem?_eq_some_iff.1 hat).1
   have hdr := dropS_ok hyes
   rw [hdr] at hnx
   refine St.dr q fun wa1 q => ?_
   rw [w64_succ (by omega)]
   refine ⟨by omega, by omega, by omega, by omega, ?_⟩
   rw [slA0, Int.toNat_natCast, Int.toNat_natCast]
   have hh := Has.preE (hnow _ q) (k := cntE acc xs[m]) (by omega)
   refine St.appN elt_el (St.row0 q EE T.y_api_Entry) hh (nil_pre hnn hnc (by omega)) (by rw [List.length_take]; simp; omega) (by rw [List.length_take]; simp; omega) fun l1 w9 q _ => ?_
   rw [List.nil_append] at q
   have hh := Has.dropE (hnow _ q.drop) hnc (k := cntE acc xs[m] + 1) (by omega)
   refine St.appN elt_el q hh (nil_drop hnn) (by rw [List.length_take, List.length_drop]; omega) (by rw [List.length_take, List.length_drop]; omega) fun l3 w14 q _ => ?_
   rw [w64_succ (by omega)]
   refine ⟨⟨m + 1, rfl, hlt, by rw [hnx], .inr ?_⟩, hms⟩
   rw [hnx, ← erase_at hgd.1 hat]
   exact hZ2 _ _ q
 · have hmm : m = xs.length := by omega
   subst hmm
   rw [List.take_length] at hz hN
   exact hR w1 now hz hN
theorem SameE_st (h : St w X) {al bl : Sl} {xs ys : List Ey} (ha : ∀ w', St w' X → Has EE w' al xs) (hb : ∀ w', St w' X → Has EE w' bl ys) (hl : xs.length ≤ 1000000) {R : Bool → World → Prop} (hR : ∀ w', St w' X → R (decide (xs = ys)) w') : F.masonrybook_SameEntries al bl w R := by
 apply E.masonrybook_SameEntries
 unfold V.masonrybook_SameEntries
 try simp -zeta only [ldC, soC, brC, bkA, slC, cnd_all, blk_add2, Nat.reduceAdd]
 have h1 := (ha w h).1
 have h2 := (hb w h).1
 refine ⟨fun hne => ?_, fun heq => ?_⟩
 · have := hR w h
   rw [decide_eq_false (fun e => hne (by rw [h1, h2, e]))] at this
   exact this
 have hlen : xs.length = ys.length := by omega
 refine ⟨Cnt xs.length fun m w' => xs.take m = ys.take m ∧ St w' X, cntM xs.length, Cnt.zero ⟨rfl, h⟩, ?_⟩
 rintro _ w1 ⟨m, rfl, hm, htk, h3⟩
 refine ⟨fun hlt => ?_, fun hge => ?_⟩
 · have hlt : m < xs.length := by omega
   refine St.dr h3 fun wa1 h3 => ?_
   obtain ⟨a, ha1, hal, c0, c1, c2⟩ := Has.ey (ha _ h3) hlt
   obtain ⟨b, hb1, hbl, e0, e1, e2⟩ := Has.ey (hb _ h3) (m := m) (by omega)
   refine ⟨a, ha1, by omega, by omega, _, c0, _, c1, _, c2, b, hb1, by omega, by omega, _, e0, _, e1, _, e2, ?_⟩
   rw [ey_eq]
   refine ⟨fun hf => ?_, fun ht => Cnt.next hlt (by omega) ⟨?_, h3⟩⟩
   · have hf : ¬ xs[m] = ys[m] := by simpa using hf
     have := hR _ h3
     rw [decide_eq_false (fun e => by subst e; exact hf rfl)] at this
     exact this
   · have ht : xs[m] = ys[m] := by simpa using ht
     rw [List.take_succ_eq_append_getElem hlt, List.take_succ_eq_append_getElem (by omega), htk, ht]
 · have hmm : m = xs.length := by omega
   subst hmm
   have e : xs = ys := by rw [List.take_length, hlen, List.take_length] at htk; exact htk
   have := hR _ h3
   rw [decide_eq_true e] at this; exact this
end
end Go.Proofs.YtgacpkgaogiocaaGreatDoor
