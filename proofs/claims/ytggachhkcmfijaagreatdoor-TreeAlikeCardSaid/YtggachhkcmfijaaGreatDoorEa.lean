/- chain: several chains that are there, apart from each other; in plain words. -/
import Derived.Test.YtggachhkcmfijaaGreatDoorCx
set_option linter.unusedVariables false
namespace Go.Proofs.YtggachhkcmfijaaGreatDoor
open Go Go.Vc Go.RowKit Go.Lib
/-- what a chain is told to be -/
structure Th where
 at_ : Int
 gen : Int
 tag : Int
 refs : Int
 data : Bs
structure Ent where
 x : Th
 L : Nat → Lk
 P : Nat → Int
def Ent.n (e : Ent) : Nat := needN e.x.data.length
def Ent.ps (e : Ent) : List Int := (List.range e.n).map e.P
theorem Ent.ps_len (e : Ent) : e.ps.length = e.n := by simp [Ent.ps]
structure EntOk (D : DkV) (e : Ent) : Prop where
 chn : Chn e.n e.L e.P
 has : HasC D e.L e.P e.n
 at_ : e.P 0 = e.x.at_
 hd : (e.L 0).gen = e.x.gen ∧ (e.L 0).tag = e.x.tag ∧ (e.L 0).refs = e.x.refs
 dat : dataOf ((List.range e.n).map e.L) = e.x.data
 len : e.x.data.length ≤ 9440
 rng : ∀ i, i < e.n → 2 ≤ e.P i ∧ e.P i < (D.bs.length : Int)
 refs : 0 ≤ e.x.refs ∧ e.x.refs ≤ 60000
def allP (es : List Ent) : List Int := es.flatMap Ent.ps
structure Have (D : DkV) (es : List Ent) : Prop where
 ok : ∀ e ∈ es, EntOk D e
 nd : (allP es).Nodup
 bs : ∀ i, i < D.bs.length → (D.bs.getD i false = true ↔ i = 0 ∨ i = 1 ∨ (i : Int) ∈ allP es)
 len : 2 ≤ D.bs.length ∧ D.bs.length ≤ 2000
theorem allP_app (a b : List Ent) : allP (a ++ b) = allP a ++ allP b := by simp [allP]
theorem allP_cons (e : Ent) (b : List Ent) : allP (e :: b) = e.ps ++ allP b := by simp [allP]
theorem nodup_ps {n : Nat} {P : Nat → Int} : (∀ i j, i < n → j < n → P i = P j → i = j) → ((List.range n).map P).Nodup := by
 induction n with
 | zero => intro _; simp
 | succ n ih =>
   intro h
   rw [List.range_succ, List.map_append, List.nodup_append]
   refine ⟨ih fun i j hi hj => h i j (by omega) (by omega), by simp, ?_⟩
   intro a ha b hb e
   obtain ⟨i, hi, rfl⟩ := List.mem_map.1 ha
   simp only [List.map_cons, List.map_nil, List.mem_cons, List.not_mem_nil, or_false] at hb
   subst hb
   have hi := List.mem_range.1 hi
   have := h i n (by omega) (by omega) e
   omega
theorem ps_mem {e : Ent} {a : Int} : a ∈ e.ps ↔ ∃ i, i < e.n ∧ e.P i = a := by
 unfold Ent.ps
 rw [List.mem_map]
 constructor
 · rintro ⟨i, hi, h⟩; exact ⟨i, List.mem_range.1 hi, h⟩
 · rintro ⟨i, hi, h⟩; exact ⟨i, List.mem_range.2 hi, h⟩
theorem allP_mem {es : List Ent} {a : Int} : a ∈ allP es ↔ ∃ e ∈ es, ∃ i, i < e.n ∧ e.P i = a := by
 unfold allP
 rw [List.mem_flatMap]
 constructor
 · rintro ⟨e, he, h⟩; exact ⟨e, he, ps_mem.1 h⟩
 · rintro ⟨e, he, h⟩; exact ⟨e, he, ps_mem.2 h⟩
theorem EntOk.frame {D D' : DkV} {e : Ent} (h : EntOk D e) (hl : D'.bs.length = D.bs.length) (hg : ∀ i, i < e.n → getE D' (e.P i) = getE D (e.P i) ∧ getD D' (e.P i) = getD D (e.P i)) : EntOk D' e :=
 ⟨h.chn, fun i hi => by rw [(hg i hi).1, (hg i hi).2]; exact h.has i hi, h.at_, h.hd, h.dat, h.len, fun i hi => by rw [hl]; exact h.rng i hi, h.refs⟩
section
variable {D : DkV} {es : List Ent}
theorem Have.mem_rng (h : Have D es) {a : Int} (ha : a ∈ allP es) : 2 ≤ a ∧ a < (D.bs.length : Int) := by
 obtain ⟨e, he, i, hi, rfl⟩ := allP_mem.1 ha
 exact (h.ok e he).rng i hi
theorem Have.used (h : Have D es) {a : Int} (ha : a ∈ allP es) : usedB D.bs a = true := by
 have hr := h.mem_rng ha
 have := (h.bs a.toNat (by omega)).2 (.inr (.inr (by rw [Int.toNat_of_nonneg (by omega)]; exact ha)))
 unfold usedB
 rw [decide_eq_true (by omega), decide_eq_true (by omega), this]; rfl
theorem Have.all (h : Have D es) : allL D.bs D.bs.length = 0 :: 1 :: nextT (allP es) := by
 have hup : Up (0 :: 1 :: nextT (allP es)) := by
   refine List.pairwise_cons.2 ⟨fun y hy => ?_, List.pairwise_cons.2 ⟨fun y hy => ?_, (nextT_up _).1⟩⟩
   · rcases List.mem_cons.1 hy with e | hy
     · omega
     · have := h.mem_rng (((nextT_up _).2 y).1 hy); omega
   · have := h.mem_rng (((nextT_up _).2 y).1 hy); omega
 refine up_ext ?_ hup fun x => ?_
 · unfold allL Up
   rw [List.pairwise_map]
   refine (List.Pairwise.filter _ List.pairwise_lt_range).imp fun {a b} hab => by omega
 · have hl := h.len
   simp only [allL, List.mem_map, List.mem_filter, List.mem_range, List.mem_cons, (nextT_up _).2]
   constructor
   · rintro ⟨i, ⟨hi, hb⟩, rfl⟩
     rcases (h.bs i hi).1 hb with e | e | e
     · left; omega
     · right; left; omega
     · exact .inr (.inr e)
   · rintro (e | e | e)
     · exact ⟨0, ⟨by omega, (h.bs 0 (by omega)).2 (.inl rfl)⟩, by omega⟩
     · exact ⟨1, ⟨by omega, (h.bs 1 (by omega)).2 (.inr (.inl rfl))⟩, by omega⟩
     · have hr := h.mem_rng e
       exact ⟨x.toNat, ⟨by omega, (h.bs x.toNat (by omega)).2 (.inr (.inr (by rw [Int.toNat_of_nonneg (by omega)]; exact e)))⟩, by omega⟩
theorem nextT_nd {l : List Int} (h : l.Nodup) : (nextT l).length = l.length := by
 have hu : ∀ l : List Int, Up l → l.Nodup := fun l hl => hl.imp fun {a b} hab => by omega
 exact ((List.perm_ext_iff_of_nodup (hu _ (nextT_up l).1) h).2 fun a => (nextT_up l).2 a).length_eq
theorem Have.free (h : Have D es) : freeN D.bs + 2 + (allP es).length = D.bs.length := by
 have h1 := freeN_all D.bs
 have h2 := allL_len D.bs D.bs.length
 rw [h.all] at h1 h2
 simp only [List.length_cons, nextT_nd h.nd] at h1 h2
 omega
/-- one more -/
theorem Have.put (h : Have D es) {gen tag : Int} {b : Bs} (hg : 1 ≤ gen ∧ gen ≤ 3) (ht : 0 ≤ tag ∧ tag ≤ 200) (hb : b.length ≤ 9440) (hf : needN b.length ≤ freeN D.bs) :
   Have (putS D gen tag b (needN b.length) (needN b.length)).1 (es ++ [⟨⟨placeP D (needN b.length) 0, gen, tag, 1, b⟩, linkP D gen tag b (needN b.length), placeP D (needN b.length)⟩]) := by
 have hl := h.len
 have h0 := (h.bs 0 (by omega)).2 (.inl rfl)
 have h1 := (h.bs 1 (by omega)).2 (.inr (.inl rfl))
 have hbs := putS_bs (D := D) (gen := gen) (tag := tag) (b := b) (n := needN b.length) (needN b.length)
 have hbl : (putS D gen tag b (needN b.length) (needN b.length)).1.bs.length = D.bs.length := by rw [hbs, takeN_len]
 have hc := putS_chn (D := D) (gen := gen) (tag := tag) (b := b) hg ht hb rfl hf hl.2 h0
 have hpu : ∀ i, i < needN b.length → D.bs.getD (placeP D (needN b.length) i).toNat false = false := fun i hi => (place_used hi hf).2
 have hpr : ∀ i, i < needN b.length → 2 ≤ placeP D (needN b.length) i ∧ placeP D (needN b.length) i < (D.bs.length : Int) := fun i hi => by
   have h2 := (place_used hi hf).1
   simp only [usedB, Bool.and_eq_true, decide_eq_true_eq] at h2
   rw [takeN_len] at h2
   exact ⟨place_ok hf h0 h1 hi, h2.2.1⟩
 have hne : ∀ a ∈ allP es, ∀ i, i < needN b.length → placeP D (needN b.length) i ≠ a := fun a ha i hi e => by
   have h2 := h.used ha
   rw [← e] at h2
   simp only [usedB, Bool.and_eq_true, decide_eq_true_eq] at h2
   have h3 := h2.2.2
   rw [hpu i hi] at h3; cases h3
 refine ⟨fun e he => ?_, ?_, fun i hi => ?_, by rw [hbl]; exact hl⟩
 · rcases List.mem_append.1 he with he | he
   · exact (h.ok e he).frame hbl fun i hi => put_else hf fun j hj => hne _ (allP_mem.2 ⟨e, he, i, hi, rfl⟩) j hj
   · simp only [List.mem_cons, List.not_mem_nil, or_false] at he
     subst he
     exact ⟨hc, put_has hf, rfl, ⟨rfl, rfl, rfl⟩, dataOf_put hb, hb, fun i hi => by rw [hbl]; exact hpr i hi, ⟨by show (0 : Int) ≤ 1; decide, by show (1 : Int) ≤ 60000; decide⟩⟩
 · rw [allP_app, List.nodup_append]
   refine ⟨h.nd, ?_, fun a ha c hc2 e => ?_⟩
   · rw [allP_cons]
     simp only [allP, List.flatMap_nil, List.append_nil]
     exact nodup_ps hc.inj
   · subst e
     obtain ⟨e2, he2, i, hi, h3⟩ := allP_mem.1 hc2
     simp only [List.mem_cons, List.not_mem_nil, or_false] at he2
     subst he2
     exact hne a ha i hi h3
 · rw [hbl] at hi
   rw [hbs, take_get _ _ _ hi, h.bs i hi, allP_app, List.mem_append]
   have hm : ((i : Int) ∈ allP [⟨⟨placeP D (needN b.length) 0, gen, tag, 1, b⟩, linkP D gen tag b (needN b.length), placeP D (needN b.length)⟩]) ↔ ∃ t, t < needN b.length ∧ freeAt (takeN D.bs t) = i := by
     rw [allP_mem]
     constructor
     · rintro ⟨e, he, j, hj, h3⟩
       simp only [List.mem_cons, List.not_mem_nil, or_false] at he
       subst he
       have hj : j < needN b.length := hj
       have h3 : placeP D (needN b.length) j = (i : Int) := h3
       unfold placeP at h3
       rw [if_pos hj] at h3
       exact ⟨needN b.length - 1 - j, by omega, by omega⟩
     · rintro ⟨t, ht2, h3⟩
       refine ⟨_, List.mem_cons_self .., needN b.length - 1 - t, (by show _ < needN b.length; omega), ?_⟩
       show placeP D (needN b.length) (needN b.length - 1 - t) = (i : Int)
       unfold placeP
       rw [if_pos (by omega)]
       have : needN b.length - 1 - (needN b.length - 1 - t) = t := by omega
       rw [this, h3]
   rw [hm]
   constructor
   · rintro ((e | e | e) | e)
     · exact .inl e
     · exact .inr (.inl e)
     · exact .inr (.inr (.inl e))
     · exact .inr (.inr (.inr e))
   · rintro (e | e | e | e)
     · exact .inl (.inl e)
     · exact .inl (.inr (.inl e))
     · exact .inl (.inr (.inr e))
     · exact .inr e
/-! ### One used more often -/
/-! ### One dropped -/
theorem lastW_filter {ws : List Wr1} {zs : List Int} {y : Int} (hy : y ∉ zs) : lastW (ws.filter fun p => decide (p.1 ∉ zs)) y = lastW ws y := by
 refine snoc_ind (P := fun ws => lastW (ws.filter fun p => decide (p.1 ∉ zs)) y = lastW ws y) rfl (fun l a ih => ?_) ws
 rw [List.filter_append, lastW_app]
 by_cases ha : a.1 ∈ zs
 · have e : [a].filter (fun p => decide (p.1 ∉ zs)) = [] := by simp [ha]
   have hne : a.1 ≠ y := fun h => hy (by rw [← h]; exact ha)
   rw [e, List.append_nil, if_neg hne, ih]
 · have e : [a].filter (fun p => decide (p.1 ∉ zs)) = [a] := by simp [ha]
   rw [e, lastW_app, ih]
theorem get_drop {zs : List Int} {a : Int} (ha : a ∉ zs) : getE (dropD D zs) a = getE D a ∧ getD (dropD D zs) a = getD D a := by
 have hk : a ∈ keysW (dropD D zs).ws ↔ a ∈ keysW D.ws := by
   simp only [keysW, dropD, List.mem_map, List.mem_filter, decide_eq_true_eq]
   constructor
   · rintro ⟨p, ⟨h1, _⟩, h2⟩; exact ⟨p, h1, h2⟩
   · rintro ⟨p, h1, h2⟩; exact ⟨p, ⟨h1, by rw [h2]; exact ha⟩, h2⟩
 have hl : (dropD D zs).bs.length = D.bs.length := giveL_len _ _
 have hw : lastW (dropD D zs).ws a = lastW D.ws a := lastW_filter ha
 unfold getE getD
 rw [hl, hw]
 simp only [hk]
 exact ⟨trivial, rfl⟩
theorem Have.drop_ok {a b : List Ent} {e : Ent} (h : Have D (a ++ e :: b)) : dropOk D.bs e.ps := by
 have he := h.ok e (by simp)
 refine Go.Proofs.YtggachhkcmfijaaGreatDoor.drop_ok he.chn.inj fun i hi => ⟨(he.rng i hi).1, h.used (allP_mem.2 ⟨e, by simp, i, hi, rfl⟩)⟩
theorem Have.drop {a b : List Ent} {e : Ent} (h : Have D (a ++ e :: b)) : Have (dropD D e.ps) (a ++ b) := by
 have hl : (dropD D e.ps).bs.length = D.bs.length := giveL_len _ _
 have hnd := h.nd
 rw [allP_app, allP_cons] at hnd
 have hno : ∀ x ∈ allP (a ++ b), x ∉ e.ps := fun x hx hx2 => by
   rw [allP_app] at hx
   rcases List.mem_append.1 hx with hx | hx
   · exact (List.nodup_append.1 hnd).2.2 _ hx _ (List.mem_append_left _ hx2) rfl
   · exact (List.nodup_append.1 (List.nodup_append.1 hnd).2.1).2.2 _ hx2 _ hx rfl
 have hsub : ∀ e2 ∈ a ++ b, e2 ∈ a ++ e :: b := fun e2 he2 => by
   rcases List.mem_append.1 he2 with h2 | h2
   · exact List.mem_append_left _ h2
   · exact List.mem_append_right _ (List.mem_cons_of_mem _ h2)
 refine ⟨fun e2 he2 => (h.ok e2 (hsub e2 he2)).frame hl fun i hi => get_drop (hno _ (allP_mem.2 ⟨e2, he2, i, hi, rfl⟩)), ?_, fun i hi => ?_, by rw [hl]; exact h.len⟩
 · rw [allP_app]
   refine List.nodup_append.2 ⟨(List.nodup_append.1 hnd).1, (List.nodup_append.1 (List.nodup_append.1 hnd).2.1).2.1, fun x hx y hy => (List.nodup_append.1 hnd).2.2 x hx y (List.mem_append_right _ hy)⟩
 · rw [hl] at hi
   have hg := giveL_get D.bs hi e.ps
   show (giveL D.bs e.ps).getD i false = true ↔ _
   have hme : (i : Int) ∈ allP (a ++ e :: b) ↔ (i : Int) ∈ e.ps ∨ (i : Int) ∈ allP (a ++ b) := by
     rw [allP_app, allP_cons, allP_app]
     simp only [List.mem_append]
     constructor
     · rintro (h | h | h)
       · exact .inr (.inl h)
       · exact .inl h
       · exact .inr (.inr h)
     · rintro (h | h | h)
       · exact .inr (.inl h)
       · exact .inl h
       · exact .inr (.inr h)
   have hps : (i : Int) ∈ e.ps → 2 ≤ i := fun hx => by
     have := h.mem_rng (hme.2 (.inl hx)); omega
   rw [hg, Bool.and_eq_true, h.bs i hi, hme, decide_eq_true_eq]
   constructor
   · rintro ⟨e1 | e1 | e1 | e1, e2⟩
     · exact .inl e1
     · exact .inr (.inl e1)
     · exact absurd e1 e2
     · exact .inr (.inr e1)
   · rintro (e1 | e1 | e1)
     · exact ⟨.inl e1, fun hx => by have := hps hx; omega⟩
     · exact ⟨.inr (.inl e1), fun hx => by have := hps hx; omega⟩
     · exact ⟨.inr (.inr (.inr e1)), hno _ e1⟩
end
end Go.Proofs.YtggachhkcmfijaaGreatDoor

/- chain: its calls, of chains that are there apart from each other. -/
set_option linter.unusedVariables false
namespace Go.Proofs.YtggachhkcmfijaaGreatDoor
open Go Go.Vc Go.RowKit Go.Lib
section
variable {w : World} {X : List As} {k g c : Nat} {D : DkV} {e : Ent} {es : List Ent}
theorem EntOk.walk (h : EntOk D e) : walkD D e.x.at_ = ((List.range e.n).map e.L, e.ps, 0) := by rw [← h.at_]; exact h.chn.walk h.has
theorem Have.at_ (h : Have D es) (he : e ∈ es) : 2 ≤ e.x.at_ ∧ e.x.at_ < (D.bs.length : Int) ∧ e.x.at_ < 2000 := by
 have h1 := h.ok e he
 have hp := h1.chn.pos
 have := h1.rng 0 (by omega)
 have hl := h.len
 rw [h1.at_] at this
 omega
theorem Get_E (h : St w (DeskS k g c D :: X)) (hH : Have D es) (he : e ∈ es) {R : Int → Int → Int → ByteArray → Int → World → Prop}
   (hR : ∀ w', St w' (DeskS k g c D :: X) → R e.x.gen e.x.tag e.x.refs (tx e.x.data) 0 w') : F.chain_Get (some (blk k)) e.x.at_ w R := by
 have h1 := hH.ok e he
 have ha := hH.at_ he
 have hp := h1.chn.pos
 have := Get_chn h h1.chn h1.has (by rw [h1.at_]; omega) (R := R) fun w' hw => by
   rw [h1.hd.1, h1.hd.2.1, h1.hd.2.2, h1.dat]; exact hR w' hw
 rw [h1.at_] at this
 exact this
theorem Drop_E {a b : List Ent} (h : St w (DeskS k g c D :: X)) (hH : Have D (a ++ e :: b)) {R : Int → World → Prop}
   (hR : ∀ w', Have (dropD D e.ps) (a ++ b) → St w' (DeskS k g c (dropD D e.ps) :: X) → R 0 w') : F.chain_Drop (some (blk k)) e.x.at_ w R := by
 have hm : e ∈ a ++ e :: b := by simp
 have h1 := hH.ok e hm
 have ha := hH.at_ hm
 have hw := h1.walk
 refine Drop_chain h (by omega) (fun z hz => ?_) (fun w' he _ => absurd (by rw [hw]) he) (fun w' _ hno _ => absurd (by rw [hw]; exact hH.drop_ok) hno) fun w' _ _ h2 => ?_
 · rw [hw] at hz
   have := hH.mem_rng (a := z) (by rw [allP_app, allP_cons]; exact List.mem_append_right _ (List.mem_append_left _ hz))
   have := hH.len
   omega
 · rw [hw] at h2
   exact hR w' hH.drop h2
theorem Have.fmt {n : Nat} (h1 : 140 ≤ n) (h2 : n ≤ 2000) : Have (fmt0 n) [] := by
 have hl : (fmt0 n).bs.length = n - 111 := by rw [fmt0_bs, bs0_len]
 refine ⟨fun e he => (by cases he), by simp [allP], fun i hi => ?_, by omega⟩
 rw [hl] at hi
 rw [fmt0_bs]
 unfold bs0
 rw [usedL_get _ _ (by decide) hi, decide_eq_true_iff]
 simp only [allP, List.flatMap_nil, List.mem_cons, List.not_mem_nil, or_false]
 omega
end
end Go.Proofs.YtggachhkcmfijaaGreatDoor

/- masonrybook: SameInts, Room; masonrylaw12: need, Light; chain.Need of all numbers. -/
set_option linter.unusedVariables false
namespace Go.Proofs.YtggachhkcmfijaaGreatDoor
open Go Go.Vc Go.RowKit Go.Lib
theorem Has.int {w : World} {l : Sl} {xs : List Int} (h : Has EI w l xs) {m : Nat} (hm : m < xs.length) : ∃ ad, l.a = some ad ∧ m < l.len ∧ w.cell? (ad.add (m * 1)) = some (.int .i64 xs[m]) := by
 obtain ⟨ad, ha, hl, hc⟩ := h.at hm
 have h0 := hc 0 _ rfl
 rw [Vc.addr_add0] at h0
 exact ⟨ad, ha, hl, h0⟩
section
variable {w : World} {X : List As}
theorem SameI_st (h : St w X) {al bl : Sl} {xs ys : List Int} (ha : ∀ w', St w' X → Has EI w' al xs) (hb : ∀ w', St w' X → Has EI w' bl ys) (hl : xs.length ≤ 1000000000000000) {R : Bool → World → Prop} (hR : ∀ w', St w' X → R (decide (xs = ys)) w') : F.masonrybook_SameInts al bl w R := by
 apply E.masonrybook_SameInts
 unfold V.masonrybook_SameInts
 try simp -zeta only [ldC, soC, brC, bkA, slC, stC, alC, drC]
 try simp (config := { zeta := false }) only [cnd_all, Nat.reduceAdd]
 have h1 := (ha w h).1
 have h2 := (hb w h).1
 refine ⟨fun hne => ?_, fun heq => ?_⟩
 · have := hR w h
   rw [decide_eq_false (fun e => hne (by rw [h1, h2, e]))] at this
   exact this
 have hlen : xs.length = ys.length := by omega
 refine ⟨Cnt xs.length fun m w' => xs.take m = ys.take m ∧ St w' X, cntM xs.length, Cnt.zero ⟨rfl, h⟩, ?_⟩
 rintro _ w1 ⟨m, rfl, hm, htk, h3⟩
 refine ⟨fun hlt => ?_, fun hge => ?_⟩
 · have hlt : m < xs.length := by omega
   intro wa1
   replace h3 : St wa1 _ := h3.drew
   clear_value wa1
   obtain ⟨a, ha1, hal, c0⟩ := Has.int (ha _ h3) hlt
   obtain ⟨b, hb1, hbl, e0⟩ := Has.int (hb _ h3) (m := m) (by omega)
   refine ⟨a, ha1, by omega, by omega, _, c0, b, hb1, by omega, by omega, _, e0, fun hf => ?_, fun ht => Cnt.next hlt (by omega) ⟨?_, h3⟩⟩
   · have := hR _ h3
     rw [decide_eq_false (fun e => by subst e; simp at hf)] at this
     exact this
   · rw [List.take_succ_eq_append_getElem hlt, List.take_succ_eq_append_getElem (by omega), htk]
     rw [ht]
 · have hmm : m = xs.length := by omega
   subst hmm
   rw [List.take_length] at htk
   have e : xs = ys := by rw [htk, hlen, List.take_length]
   have := hR _ h3
   rw [decide_eq_true e] at this; exact this
end
/-! ### What is done -/
end Go.Proofs.YtggachhkcmfijaaGreatDoor

/- entries in order, and the buckets that they stand in; plain. -/
set_option linter.unusedVariables false
namespace Go.Proofs.YtggachhkcmfijaaGreatDoor
open Go Go.Vc Go.RowKit Go.Lib
/-- an entry: the print's kind and bytes, a place -/
structure Ey where
 k : Int
 s : Bs
 a : Int
deriving DecidableEq
/-- stands one ahead of the other? -/
def ltE (x y : Ey) : Prop := x.k < y.k ∨ (x.k = y.k ∧ (x.s < y.s ∨ (x.s = y.s ∧ x.a < y.a)))
instance (x y : Ey) : Decidable (ltE x y) := by unfold ltE; infer_instance
theorem bs_irrefl (x : Bs) : ¬ x < x := List.lt_irrefl x
theorem bs_trans {x y z : Bs} (h : x < y) (k : y < z) : x < z := List.lt_trans h k
theorem bs_total (x y : Bs) : x < y ∨ x = y ∨ y < x := by
 by_cases h : x < y
 · exact .inl h
 · by_cases k : y < x
   · exact .inr (.inr k)
   · exact .inr (.inl (List.le_antisymm (List.not_lt.1 k) (List.not_lt.1 h)))
theorem ltE_irrefl (x : Ey) : ¬ ltE x x := by
 unfold ltE
 rintro (h | ⟨_, h | ⟨_, h⟩⟩)
 · omega
 · exact bs_irrefl _ h
 · omega
theorem ltE_trans {x y z : Ey} (h : ltE x y) (k : ltE y z) : ltE x z := by
 unfold ltE at *
 rcases h with h | ⟨h1, h⟩
 · rcases k with k | ⟨k1, _⟩ <;> left <;> omega
 · rcases k with k | ⟨k1, k⟩
   · left; omega
   · refine .inr ⟨h1.trans k1, ?_⟩
     rcases h with h | ⟨h2, h⟩
     · rcases k with k | ⟨k2, _⟩
       · exact .inl (bs_trans h k)
       · rw [← k2]; exact .inl h
     · rcases k with k | ⟨k2, k⟩
       · rw [h2]; exact .inl k
       · exact .inr ⟨h2.trans k2, by omega⟩
theorem ltE_total (x y : Ey) : ltE x y ∨ x = y ∨ ltE y x := by
 unfold ltE
 rcases Int.lt_trichotomy x.k y.k with h | h | h
 · exact .inl (.inl h)
 · rcases bs_total x.s y.s with h2 | h2 | h2
   · exact .inl (.inr ⟨h, .inl h2⟩)
   · rcases Int.lt_trichotomy x.a y.a with h3 | h3 | h3
     · exact .inl (.inr ⟨h, .inr ⟨h2, h3⟩⟩)
     · refine .inr (.inl ?_)
       cases x; cases y; simp_all
     · exact .inr (.inr (.inr ⟨h.symm, .inr ⟨h2.symm, h3⟩⟩))
   · exact .inr (.inr (.inr ⟨h.symm, .inl h2⟩))
 · exact .inr (.inr (.inl h))
abbrev Srt (l : List Ey) : Prop := l.Pairwise ltE
/-- how many stand ahead of an entry -/
def cntE (l : List Ey) (x : Ey) : Nat := l.countP fun y => decide (ltE y x)
/-- an entry put to its place -/
def insE (l : List Ey) (x : Ey) : List Ey := l.take (cntE l x) ++ x :: l.drop (cntE l x)
theorem cntE_le (l : List Ey) (x : Ey) : cntE l x ≤ l.length := List.countP_le_length
theorem insE_mem {l : List Ey} {x y : Ey} : y ∈ insE l x ↔ y = x ∨ y ∈ l := by
 unfold insE
 rw [List.mem_append, List.mem_cons]
 have h := List.take_append_drop (cntE l x) l
 constructor
 · rintro (h1 | h1 | h1)
   · exact .inr (List.mem_of_mem_take h1)
   · exact .inl h1
   · exact .inr (List.mem_of_mem_drop h1)
 · rintro (h1 | h1)
   · exact .inr (.inl h1)
   · rw [← h] at h1
     rcases List.mem_append.1 h1 with h2 | h2
     · exact .inl h2
     · exact .inr (.inr h2)
/-- of a list in order, those ahead of an entry stand first -/
theorem srt_cut : ∀ {l : List Ey} (h : Srt l) (x : Ey), (∀ y ∈ l.take (cntE l x), ltE y x) ∧ (∀ y ∈ l.drop (cntE l x), ¬ ltE y x)
 | [], _, x => by simp [cntE]
 | z :: l, h, x => by
   obtain ⟨h1, h2⟩ := List.pairwise_cons.1 h
   have ih := srt_cut h2 x
   by_cases c : ltE z x
   · have e : cntE (z :: l) x = cntE l x + 1 := by unfold cntE; rw [List.countP_cons, if_pos (by simpa using c)]
     rw [e]
     refine ⟨fun y hy => ?_, fun y hy => ih.2 y hy⟩
     rw [List.take_succ_cons] at hy
     rcases List.mem_cons.1 hy with e2 | e2
     · subst e2; exact c
     · exact ih.1 y e2
   · have e : cntE (z :: l) x = 0 := by
       unfold cntE
       rw [List.countP_cons, if_neg (by simpa using c), List.countP_eq_zero.2]
       intro y hy
       simp only [decide_eq_true_eq]
       exact fun k => c (ltE_trans (h1 y hy) k)
     rw [e]
     refine ⟨fun y hy => (by simp at hy), fun y hy => ?_⟩
     rcases List.mem_cons.1 hy with e2 | e2
     · subst e2; exact c
     · exact fun k => c (ltE_trans (h1 y e2) k)
theorem insE_srt {l : List Ey} (h : Srt l) {x : Ey} (hx : x ∉ l) : Srt (insE l x) := by
 obtain ⟨c1, c2⟩ := srt_cut h x
 unfold insE
 have hs := h
 rw [← List.take_append_drop (cntE l x) l] at hs
 obtain ⟨p1, p2, p3⟩ := List.pairwise_append.1 hs
 refine List.pairwise_append.2 ⟨p1, List.pairwise_cons.2 ⟨fun y hy => ?_, p2⟩, fun a ha b hb => ?_⟩
 · rcases ltE_total x y with c | c | c
   · exact c
   · subst c; exact absurd (List.mem_of_mem_drop hy) hx
   · exact absurd c (c2 y hy)
 · rcases List.mem_cons.1 hb with e | e
   · subst e; exact c1 a ha
   · exact p3 a ha b e
/-- is an entry there: it stands at its place -/
theorem srt_at {l : List Ey} (h : Srt l) (x : Ey) : x ∈ l ↔ l[cntE l x]? = some x := by
 obtain ⟨c1, c2⟩ := srt_cut h x
 constructor
 · intro hx
   rw [← List.take_append_drop (cntE l x) l] at hx
   rcases List.mem_append.1 hx with k | k
   · exact absurd (c1 x k) (ltE_irrefl x)
   · have hs := h
     rw [← List.take_append_drop (cntE l x) l] at hs
     obtain ⟨_, p2, _⟩ := List.pairwise_append.1 hs
     cases hd : l.drop (cntE l x) with
     | nil => rw [hd] at k; cases k
     | cons y r =>
       rw [hd] at k p2 c2
       have e0 : l[cntE l x]? = some y := by rw [← List.head?_drop, hd]; rfl
       rcases List.mem_cons.1 k with e | e
       · rw [e0, e]
       · have := (List.pairwise_cons.1 p2).1 x e
         exact absurd this (c2 y (List.mem_cons_self ..))
 · intro e
   exact List.mem_of_getElem? e
/-- the highest power of two that is not above -/
def powN (n : Nat) : Nat := 2 ^ Nat.log2 n
def slotN (h n : Nat) : Nat := if n = 0 then 0 else if h % (2 * powN n) < n then h % (2 * powN n) else h % powN n
/-- an entry's hash -/
def hashE (x : Ey) : Nat := if x.s.length < 2 then 0 else (x.s.getD 0 0).toNat + 256 * (x.s.getD 1 0).toNat
/-- what a bucket has -/
def bk (L : List Ey) (nb n : Nat) : List Ey := L.filter fun x => decide (slotN (hashE x) nb = n)
/-- the order of texts, as the machine reckons it -/
theorem bless : ∀ (x y : Bs), Op.bytesLess x y = decide (x < y)
 | [], [] => by simp [Op.bytesLess]
 | [], b :: y => by simp [Op.bytesLess]
 | a :: x, [] => by simp [Op.bytesLess]
 | a :: x, b :: y => by
   rw [Op.bytesLess, bless x y]
   rw [Bool.eq_iff_iff]
   simp only [Bool.or_eq_true, decide_eq_true_eq, Bool.and_eq_true, beq_iff_eq, List.cons_lt_cons_iff]
end Go.Proofs.YtggachhkcmfijaaGreatDoor
