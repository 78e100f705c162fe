/- chain: of two chains, one that is spoilt; in plain words. -/
import Derived.Test.YtmokmbhhnbcelaaGreatDoorCu
import Derived.Test.YtmokmbhhnbcelaaGreatDoorCw
set_option linter.unusedVariables false
namespace Go.Proofs.YtmokmbhhnbcelaaGreatDoor
open Go Go.Vc Go.RowKit Go.Lib

structure Two (D : DkV) (na nb : Nat) (Lx Ly : Nat → Lk) (Px Py : Nat → Int) : Prop where
  cx : Chn na Lx Px
  cy : Chn nb Ly Py
  hx : HasC D Lx Px na
  hy : HasC D Ly Py nb
  ne : ∀ i j, i < na → j < nb → Px i ≠ Py j

section
variable {D : DkV} {na nb : Nat} {Lx Ly : Nat → Lk} {Px Py : Nat → Int}
theorem HasC.set {L : Nat → Lk} {P : Nat → Int} {n : Nat} (h : HasC D L P n) {a : Int} {t : Bs} (hn : ∀ i, i < n → P i ≠ a) : HasC (setD D a t) L P n := fun i hi => by
  obtain ⟨g1, g2⟩ := get_set D a t (P i)
  rw [g1, g2, if_neg (hn i hi), if_neg (hn i hi)]
  exact h i hi
theorem Two.other (h : Two D na nb Lx Ly Px Py) {i : Nat} (hi : i < na) (t : Bs) : HasC (setD D (Px i) t) Ly Py nb := h.hy.set fun j hj e => h.ne i j hi hj e.symm
theorem Two.bad (h : Two D na nb Lx Ly Px Py) {i : Nat} (hi : i < na) {t : Bs} (hb : ((readLk t).2 && lkStep ((List.range i).map Lx) (readLk t).1) = false) : walkD (setD D (Px i) t) (Px 0) = ([], [], 25) := by
  obtain ⟨g1, g2⟩ := get_set D (Px i) t (Px i)
  rw [if_pos rfl] at g1 g2
  have hf : HasC D Lx Px i := fun j hj => h.hx j (by omega)
  refine h.cx.bad hi (hf.set fun j hj e => ?_) g2 (by rw [g1]; exact hb)
  have := h.cx.inj j i (by omega) hi e
  omega
/-- two chains that Put made, one behind the other -/
theorem Two.puts {gen tag gen' tag' : Int} {a b : Bs} (hg : 1 ≤ gen ∧ gen ≤ 3) (ht : 0 ≤ tag ∧ tag ≤ 200) (hg' : 1 ≤ gen' ∧ gen' ≤ 3) (ht' : 0 ≤ tag' ∧ tag' ≤ 200) (ha : a.length ≤ 9440) (hb : b.length ≤ 9440) (hl : D.bs.length ≤ 2000) (h0 : D.bs.getD 0 false = true)
    (hf : needN a.length + needN b.length ≤ freeN D.bs) :
    Two (putS (putS D gen tag a (needN a.length) (needN a.length)).1 gen' tag' b (needN b.length) (needN b.length)).1 (needN a.length) (needN b.length) (linkP D gen tag a (needN a.length)) (linkP (putS D gen tag a (needN a.length) (needN a.length)).1 gen' tag' b (needN b.length)) (placeP D (needN a.length)) (placeP (putS D gen tag a (needN a.length) (needN a.length)).1 (needN b.length)) := by
  have hbs := putS_bs (D := D) (gen := gen) (tag := tag) (b := a) (n := needN a.length) (needN a.length)
  have hfr := freeN_take (bs := D.bs) (j := needN a.length) (by omega)
  have hpa := needN_pos a.length
  have hh := put_has (D := D) (gen := gen) (tag := tag) (b := a) (by omega)
  have hc := putS_chn (D := D) (gen := gen) (tag := tag) (b := a) hg ht ha rfl (by omega) hl h0
  have hbl : (putS D gen tag a (needN a.length) (needN a.length)).1.bs.length = D.bs.length := by rw [hbs, takeN_len]
  have hf2 : needN b.length ≤ freeN (putS D gen tag a (needN a.length) (needN a.length)).1.bs := by rw [hbs]; omega
  have h02 : (putS D gen tag a (needN a.length) (needN a.length)).1.bs.getD 0 false = true := by
    rw [hbs]
    by_cases hz : 0 < D.bs.length
    · exact (take_get D.bs _ 0 hz).2 (.inl h0)
    · have : D.bs = [] := List.eq_nil_of_length_eq_zero (by omega)
      rw [this] at h0; simp at h0
  have hused : ∀ i, i < needN a.length → usedB (putS D gen tag a (needN a.length) (needN a.length)).1.bs (placeP D (needN a.length) i) = true := fun i hi => by rw [hbs]; exact (place_used hi (by omega)).1
  generalize (putS D gen tag a (needN a.length) (needN a.length)).1 = D1 at *
  have hne : ∀ i j, i < needN a.length → j < needN b.length → placeP D (needN a.length) i ≠ placeP D1 (needN b.length) j := fun i j hi hj e => by
    have h1 := hused i hi
    have h2 := (place_used (D := D1) (n := needN b.length) hj hf2).2
    rw [e] at h1
    simp only [usedB, Bool.and_eq_true, decide_eq_true_eq] at h1
    have h3 := h1.2
    rw [h2] at h3; simp at h3
  refine ⟨hc, putS_chn hg' ht' hb rfl hf2 (by omega) h02, fun i hi => ?_, put_has hf2, hne⟩
  obtain ⟨e1, e2⟩ := put_else (D := D1) (gen := gen') (tag := tag') (b := b) hf2 (a := placeP D (needN a.length) i) fun j hj e => hne i j hi hj e.symm
  rw [e1, e2]
  exact hh i hi
end
end Go.Proofs.YtmokmbhhnbcelaaGreatDoor

/- chain: several chains that are there, apart from each other; in plain words. -/
set_option linter.unusedVariables false
namespace Go.Proofs.YtmokmbhhnbcelaaGreatDoor
open Go Go.Vc Go.RowKit Go.Lib

/-- what a chain is told to be -/
structure Th where
  at_ : Int
  gen : Int
  tag : Int
  refs : Int
  data : Bs
structure Ent where
  x : Th
  L : Nat → Lk
  P : Nat → Int
def Ent.n (e : Ent) : Nat := needN e.x.data.length
def Ent.ps (e : Ent) : List Int := (List.range e.n).map e.P
structure EntOk (D : DkV) (e : Ent) : Prop where
  chn : Chn e.n e.L e.P
  has : HasC D e.L e.P e.n
  at_ : e.P 0 = e.x.at_
  hd : (e.L 0).gen = e.x.gen ∧ (e.L 0).tag = e.x.tag ∧ (e.L 0).refs = e.x.refs
  dat : dataOf ((List.range e.n).map e.L) = e.x.data
  len : e.x.data.length ≤ 9440
  rng : ∀ i, i < e.n → 2 ≤ e.P i ∧ e.P i < (D.bs.length : Int)
  refs : 0 ≤ e.x.refs ∧ e.x.refs ≤ 60000
def allP (es : List Ent) : List Int := es.flatMap Ent.ps
structure Have (D : DkV) (es : List Ent) : Prop where
  ok : ∀ e ∈ es, EntOk D e
  nd : (allP es).Nodup
  bs : ∀ i, i < D.bs.length → (D.bs.getD i false = true ↔ i = 0 ∨ i = 1 ∨ (i : Int) ∈ allP es)
  len : 2 ≤ D.bs.length ∧ D.bs.length ≤ 2000

theorem allP_app (a b : List Ent) : allP (a ++ b) = allP a ++ allP b := by simp [allP]
theorem allP_cons (e : Ent) (b : List Ent) : allP (e :: b) = e.ps ++ allP b := by simp [allP]
theorem nodup_ps {n : Nat} {P : Nat → Int} : (∀ i j, i < n → j < n → P i = P j → i = j) → ((List.range n).map P).Nodup := by
  induction n with
  | zero => intro _; simp
  | succ n ih =>
    intro h
    rw [List.range_succ, List.map_append, List.nodup_append]
    refine ⟨ih fun i j hi hj => h i j (by omega) (by omega), by simp, ?_⟩
    intro a ha b hb e
    obtain ⟨i, hi, rfl⟩ := List.mem_map.1 ha
    simp only [List.map_cons, List.map_nil, List.mem_cons, List.not_mem_nil, or_false] at hb
    subst hb
    have hi := List.mem_range.1 hi
    have := h i n (by omega) (by omega) e
    omega
theorem ps_mem {e : Ent} {a : Int} : a ∈ e.ps ↔ ∃ i, i < e.n ∧ e.P i = a := by
  unfold Ent.ps
  rw [List.mem_map]
  constructor
  · rintro ⟨i, hi, h⟩; exact ⟨i, List.mem_range.1 hi, h⟩
  · rintro ⟨i, hi, h⟩; exact ⟨i, List.mem_range.2 hi, h⟩
theorem allP_mem {es : List Ent} {a : Int} : a ∈ allP es ↔ ∃ e ∈ es, ∃ i, i < e.n ∧ e.P i = a := by
  unfold allP
  rw [List.mem_flatMap]
  constructor
  · rintro ⟨e, he, h⟩; exact ⟨e, he, ps_mem.1 h⟩
  · rintro ⟨e, he, h⟩; exact ⟨e, he, ps_mem.2 h⟩

theorem EntOk.frame {D D' : DkV} {e : Ent} (h : EntOk D e) (hl : D'.bs.length = D.bs.length) (hg : ∀ i, i < e.n → getE D' (e.P i) = getE D (e.P i) ∧ getD D' (e.P i) = getD D (e.P i)) : EntOk D' e :=
  ⟨h.chn, fun i hi => by rw [(hg i hi).1, (hg i hi).2]; exact h.has i hi, h.at_, h.hd, h.dat, h.len, fun i hi => by rw [hl]; exact h.rng i hi, h.refs⟩

section
variable {D : DkV} {es : List Ent}
theorem Have.mem_rng (h : Have D es) {a : Int} (ha : a ∈ allP es) : 2 ≤ a ∧ a < (D.bs.length : Int) := by
  obtain ⟨e, he, i, hi, rfl⟩ := allP_mem.1 ha
  exact (h.ok e he).rng i hi
theorem Have.used (h : Have D es) {a : Int} (ha : a ∈ allP es) : usedB D.bs a = true := by
  have hr := h.mem_rng ha
  have := (h.bs a.toNat (by omega)).2 (.inr (.inr (by rw [Int.toNat_of_nonneg (by omega)]; exact ha)))
  unfold usedB
  rw [decide_eq_true (by omega), decide_eq_true (by omega), this]; rfl
theorem Have.all (h : Have D es) : allL D.bs D.bs.length = 0 :: 1 :: nextT (allP es) := by
  have hup : Up (0 :: 1 :: nextT (allP es)) := by
    refine List.pairwise_cons.2 ⟨fun y hy => ?_, List.pairwise_cons.2 ⟨fun y hy => ?_, (nextT_up _).1⟩⟩
    · rcases List.mem_cons.1 hy with e | hy
      · omega
      · have := h.mem_rng (((nextT_up _).2 y).1 hy); omega
    · have := h.mem_rng (((nextT_up _).2 y).1 hy); omega
  refine up_ext ?_ hup fun x => ?_
  · unfold allL Up
    rw [List.pairwise_map]
    refine (List.Pairwise.filter _ List.pairwise_lt_range).imp fun {a b} hab => by omega
  · have hl := h.len
    simp only [allL, List.mem_map, List.mem_filter, List.mem_range, List.mem_cons, (nextT_up _).2]
    constructor
    · rintro ⟨i, ⟨hi, hb⟩, rfl⟩
      rcases (h.bs i hi).1 hb with e | e | e
      · left; omega
      · right; left; omega
      · exact .inr (.inr e)
    · rintro (e | e | e)
      · exact ⟨0, ⟨by omega, (h.bs 0 (by omega)).2 (.inl rfl)⟩, by omega⟩
      · exact ⟨1, ⟨by omega, (h.bs 1 (by omega)).2 (.inr (.inl rfl))⟩, by omega⟩
      · have hr := h.mem_rng e
        exact ⟨x.toNat, ⟨by omega, (h.bs x.toNat (by omega)).2 (.inr (.inr (by rw [Int.toNat_of_nonneg (by omega)]; exact e)))⟩, by omega⟩
theorem nextT_nd {l : List Int} (h : l.Nodup) : (nextT l).length = l.length := by
  have hu : ∀ l : List Int, Up l → l.Nodup := fun l hl => hl.imp fun {a b} hab => by omega
  exact ((List.perm_ext_iff_of_nodup (hu _ (nextT_up l).1) h).2 fun a => (nextT_up l).2 a).length_eq
theorem Have.free (h : Have D es) : freeN D.bs + 2 + (allP es).length = D.bs.length := by
  have h1 := freeN_all D.bs
  have h2 := allL_len D.bs D.bs.length
  rw [h.all] at h1 h2
  simp only [List.length_cons, nextT_nd h.nd] at h1 h2
  omega

/-- one more -/
theorem Have.put (h : Have D es) {gen tag : Int} {b : Bs} (hg : 1 ≤ gen ∧ gen ≤ 3) (ht : 0 ≤ tag ∧ tag ≤ 200) (hb : b.length ≤ 9440) (hf : needN b.length ≤ freeN D.bs) :
    Have (putS D gen tag b (needN b.length) (needN b.length)).1 (es ++ [⟨⟨placeP D (needN b.length) 0, gen, tag, 1, b⟩, linkP D gen tag b (needN b.length), placeP D (needN b.length)⟩]) := by
  have hl := h.len
  have h0 := (h.bs 0 (by omega)).2 (.inl rfl)
  have h1 := (h.bs 1 (by omega)).2 (.inr (.inl rfl))
  have hbs := putS_bs (D := D) (gen := gen) (tag := tag) (b := b) (n := needN b.length) (needN b.length)
  have hbl : (putS D gen tag b (needN b.length) (needN b.length)).1.bs.length = D.bs.length := by rw [hbs, takeN_len]
  have hc := putS_chn (D := D) (gen := gen) (tag := tag) (b := b) hg ht hb rfl hf hl.2 h0
  have hpu : ∀ i, i < needN b.length → D.bs.getD (placeP D (needN b.length) i).toNat false = false := fun i hi => (place_used hi hf).2
  have hpr : ∀ i, i < needN b.length → 2 ≤ placeP D (needN b.length) i ∧ placeP D (needN b.length) i < (D.bs.length : Int) := fun i hi => by
    have h2 := (place_used hi hf).1
    simp only [usedB, Bool.and_eq_true, decide_eq_true_eq] at h2
    rw [takeN_len] at h2
    exact ⟨place_ok hf h0 h1 hi, h2.2.1⟩
  have hne : ∀ a ∈ allP es, ∀ i, i < needN b.length → placeP D (needN b.length) i ≠ a := fun a ha i hi e => by
    have h2 := h.used ha
    rw [← e] at h2
    simp only [usedB, Bool.and_eq_true, decide_eq_true_eq] at h2
    have h3 := h2.2.2
    rw [hpu i hi] at h3; cases h3
  refine ⟨fun e he => ?_, ?_, fun i hi => ?_, by rw [hbl]; exact hl⟩
  · rcases List.mem_append.1 he with he | he
    · exact (h.ok e he).frame hbl fun i hi => put_else hf fun j hj => hne _ (allP_mem.2 ⟨e, he, i, hi, rfl⟩) j hj
    · simp only [List.mem_cons, List.not_mem_nil, or_false] at he
      subst he
      exact ⟨hc, put_has hf, rfl, ⟨rfl, rfl, rfl⟩, dataOf_put hb, hb, fun i hi => by rw [hbl]; exact hpr i hi, ⟨by show (0 : Int) ≤ 1; decide, by show (1 : Int) ≤ 60000; decide⟩⟩
  · rw [allP_app, List.nodup_append]
    refine ⟨h.nd, ?_, fun a ha c hc2 e => ?_⟩
    · rw [allP_cons]
      simp only [allP, List.flatMap_nil, List.append_nil]
      exact nodup_ps hc.inj
    · subst e
      obtain ⟨e2, he2, i, hi, h3⟩ := allP_mem.1 hc2
      simp only [List.mem_cons, List.not_mem_nil, or_false] at he2
      subst he2
      exact hne a ha i hi h3
  · rw [hbl] at hi
    rw [hbs, take_get _ _ _ hi, h.bs i hi, allP_app, List.mem_append]
    have hm : ((i : Int) ∈ allP [⟨⟨placeP D (needN b.length) 0, gen, tag, 1, b⟩, linkP D gen tag b (needN b.length), placeP D (needN b.length)⟩]) ↔ ∃ t, t < needN b.length ∧ freeAt (takeN D.bs t) = i := by
      rw [allP_mem]
      constructor
      · rintro ⟨e, he, j, hj, h3⟩
        simp only [List.mem_cons, List.not_mem_nil, or_false] at he
        subst he
        have hj : j < needN b.length := hj
        have h3 : placeP D (needN b.length) j = (i : Int) := h3
        unfold placeP at h3
        rw [if_pos hj] at h3
        exact ⟨needN b.length - 1 - j, by omega, by omega⟩
      · rintro ⟨t, ht2, h3⟩
        refine ⟨_, List.mem_cons_self .., needN b.length - 1 - t, (by show _ < needN b.length; omega), ?_⟩
        show placeP D (needN b.length) (needN b.length - 1 - t) = (i : Int)
        unfold placeP
        rw [if_pos (by omega)]
        have : needN b.length - 1 - (needN b.length - 1 - t) = t := by omega
        rw [this, h3]
    rw [hm]
    constructor
    · rintro ((e | e | e) | e)
      · exact .inl e
      · exact .inr (.inl e)
      · exact .inr (.inr (.inl e))
      · exact .inr (.inr (.inr e))
    · rintro (e | e | e | e)
      · exact .inl (.inl e)
      · exact .inl (.inr (.inl e))
      · exact .inl (.inr (.inr e))
      · exact .inr e

/-! ### One used more often -/
/-! ### One dropped -/
theorem lastW_filter {ws : List Wr1} {zs : List Int} {y : Int} (hy : y ∉ zs) : lastW (ws.filter fun p => decide (p.1 ∉ zs)) y = lastW ws y := by
  refine snoc_ind (P := fun ws => lastW (ws.filter fun p => decide (p.1 ∉ zs)) y = lastW ws y) rfl (fun l a ih => ?_) ws
  rw [List.filter_append, lastW_app]
  by_cases ha : a.1 ∈ zs
  · have e : [a].filter (fun p => decide (p.1 ∉ zs)) = [] := by simp [ha]
    have hne : a.1 ≠ y := fun h => hy (by rw [← h]; exact ha)
    rw [e, List.append_nil, if_neg hne, ih]
  · have e : [a].filter (fun p => decide (p.1 ∉ zs)) = [a] := by simp [ha]
    rw [e, lastW_app, ih]
theorem get_drop {zs : List Int} {a : Int} (ha : a ∉ zs) : getE (dropD D zs) a = getE D a ∧ getD (dropD D zs) a = getD D a := by
  have hk : a ∈ keysW (dropD D zs).ws ↔ a ∈ keysW D.ws := by
    simp only [keysW, dropD, List.mem_map, List.mem_filter, decide_eq_true_eq]
    constructor
    · rintro ⟨p, ⟨h1, _⟩, h2⟩; exact ⟨p, h1, h2⟩
    · rintro ⟨p, h1, h2⟩; exact ⟨p, ⟨h1, by rw [h2]; exact ha⟩, h2⟩
  have hl : (dropD D zs).bs.length = D.bs.length := giveL_len _ _
  have hw : lastW (dropD D zs).ws a = lastW D.ws a := lastW_filter ha
  unfold getE getD
  rw [hl, hw]
  simp only [hk]
  exact ⟨trivial, rfl⟩
theorem Have.drop {a b : List Ent} {e : Ent} (h : Have D (a ++ e :: b)) : Have (dropD D e.ps) (a ++ b) := by
  have hl : (dropD D e.ps).bs.length = D.bs.length := giveL_len _ _
  have hnd := h.nd
  rw [allP_app, allP_cons] at hnd
  have hno : ∀ x ∈ allP (a ++ b), x ∉ e.ps := fun x hx hx2 => by
    rw [allP_app] at hx
    rcases List.mem_append.1 hx with hx | hx
    · exact (List.nodup_append.1 hnd).2.2 _ hx _ (List.mem_append_left _ hx2) rfl
    · exact (List.nodup_append.1 (List.nodup_append.1 hnd).2.1).2.2 _ hx2 _ hx rfl
  have hsub : ∀ e2 ∈ a ++ b, e2 ∈ a ++ e :: b := fun e2 he2 => by
    rcases List.mem_append.1 he2 with h2 | h2
    · exact List.mem_append_left _ h2
    · exact List.mem_append_right _ (List.mem_cons_of_mem _ h2)
  refine ⟨fun e2 he2 => (h.ok e2 (hsub e2 he2)).frame hl fun i hi => get_drop (hno _ (allP_mem.2 ⟨e2, he2, i, hi, rfl⟩)), ?_, fun i hi => ?_, by rw [hl]; exact h.len⟩
  · rw [allP_app]
    refine List.nodup_append.2 ⟨(List.nodup_append.1 hnd).1, (List.nodup_append.1 (List.nodup_append.1 hnd).2.1).2.1, fun x hx y hy => (List.nodup_append.1 hnd).2.2 x hx y (List.mem_append_right _ hy)⟩
  · rw [hl] at hi
    have hg := giveL_get D.bs hi e.ps
    show (giveL D.bs e.ps).getD i false = true ↔ _
    have hme : (i : Int) ∈ allP (a ++ e :: b) ↔ (i : Int) ∈ e.ps ∨ (i : Int) ∈ allP (a ++ b) := by
      rw [allP_app, allP_cons, allP_app]
      simp only [List.mem_append]
      constructor
      · rintro (h | h | h)
        · exact .inr (.inl h)
        · exact .inl h
        · exact .inr (.inr h)
      · rintro (h | h | h)
        · exact .inr (.inl h)
        · exact .inl h
        · exact .inr (.inr h)
    have hps : (i : Int) ∈ e.ps → 2 ≤ i := fun hx => by
      have := h.mem_rng (hme.2 (.inl hx)); omega
    rw [hg, Bool.and_eq_true, h.bs i hi, hme, decide_eq_true_eq]
    constructor
    · rintro ⟨e1 | e1 | e1 | e1, e2⟩
      · exact .inl e1
      · exact .inr (.inl e1)
      · exact absurd e1 e2
      · exact .inr (.inr e1)
    · rintro (e1 | e1 | e1)
      · exact ⟨.inl e1, fun hx => by have := hps hx; omega⟩
      · exact ⟨.inr (.inl e1), fun hx => by have := hps hx; omega⟩
      · exact ⟨.inr (.inr (.inr e1)), hno _ e1⟩
end
end Go.Proofs.YtmokmbhhnbcelaaGreatDoor
