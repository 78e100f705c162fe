/- Trees: adding (plain). -/
import Derived.Test.YtggachhkcmfijaaGreatDoorJa
import Derived.Test.YtggachhkcmfijaaGreatDoorBq
set_option linter.unusedVariables false
namespace Go.Proofs.YtggachhkcmfijaaGreatDoor
open Go Go.Vc
theorem KidsOk.of {d : Nat} {A : Nd (d + 1)} (h : Bd (d + 1) A) : KidsOk d (kidsOf A) := ⟨h.2.1, h.2.2⟩
theorem KidsOk.bdy {d : Nat} {ks : List (Nd d)} (h : KidsOk d ks) (a : Int) (w : Bool) : Bd (d + 1) (⟨a, w, keyL ks, ks⟩ : Nd (d + 1)) := ⟨rfl, h.bd, h.srt⟩
theorem flatL_sub {d : Nat} {js ks : List (Nd d)} (h : js.Sublist ks) : (flatL d js).Sublist (flatL d ks) := by
 induction h with
 | slnil => exact List.Sublist.refl _
 | cons a _ ih => rw [flatL_cons]; exact ih.trans (List.sublist_append_right ..)
 | cons_cons a _ ih => rw [flatL_cons, flatL_cons]; exact (List.Sublist.refl _).append ih
theorem KidsOk.sub {d : Nat} {ks js : List (Nd d)} (h : KidsOk d ks) (hs : js.Sublist ks) : KidsOk d js :=
 ⟨fun k hk => h.bd k (hs.subset hk), h.srt.sublist (flatL_sub hs)⟩
/-- a part that has too many, cut in two -/
def cutN {d : Nat} (A : Nd d) : Nd d × Option (Nd d) :=
 if A.l.length ≤ 6 then (A, none) else (⟨A.at_, A.wr, A.l.take (A.l.length / 2), A.ks.take (A.l.length / 2)⟩, some ⟨0, true, A.l.drop (A.l.length / 2), A.ks.drop (A.l.length / 2)⟩)
def insAt {d : Nat} (ks : List (Nd d)) (i : Nat) : Option (Nd d) → List (Nd d)
 | none => ks
 | some m => ks.take (i + 1) ++ m :: ks.drop (i + 1)
def addN : (d : Nat) → Nd d → Ey → Nd d × Option (Nd d)
 | 0, A, x => cutN (d := 0) ⟨A.at_, true, insE A.l x, A.ks⟩
 | d + 1, A, x =>
   match (kidsOf A)[belowN A.l x]? with
   | none => (A, none)
   | some k => cutN (d := d + 1) ⟨A.at_, true, keyL (insAt ((kidsOf A).set (belowN A.l x) (addN d k x).1) (belowN A.l x) (addN d k x).2), insAt ((kidsOf A).set (belowN A.l x) (addN d k x).1) (belowN A.l x) (addN d k x).2⟩
theorem insAt_set {d : Nat} {ks : List (Nd d)} {i : Nat} (hi : i < ks.length) (r : Nd d × Option (Nd d)) : insAt (ks.set i r.1) i r.2 = ks.take i ++ r.1 :: (r.2.toList ++ ks.drop (i + 1)) := by
 have e : ks.set i r.1 = ks.take i ++ r.1 :: ks.drop (i + 1) := List.set_eq_take_append_cons_drop.trans (if_pos hi)
 obtain ⟨r1, r2⟩ := r
 cases r2 with
 | none => simpa [insAt] using e
 | some m =>
   show (ks.set i r1).take (i + 1) ++ m :: (ks.set i r1).drop (i + 1) = _
   have hl : (ks.take i).length = i := by rw [List.length_take]; omega
   simp only at e
   rw [e, List.take_append, List.drop_append, hl, Nat.add_sub_cancel_left, List.take_of_length_le (by omega : (ks.take i).length ≤ i + 1), List.drop_of_length_le (by omega : (ks.take i).length ≤ i + 1)]
   simp
/-- what cutting leaves -/
structure CutOk (d : Nat) (l : List Ey) (n : Nat) (r : Nd d × Option (Nd d)) : Prop where
 bd : Bd d r.1
 le : r.1.l.length ≤ 6
 fl : flatL d (r.1 :: r.2.toList) = l
 no : r.2 = none → n ≤ r.1.l.length
 so : ∀ m, r.2 = some m → Bd d m ∧ 3 ≤ m.l.length ∧ m.l.length ≤ 6 ∧ 3 ≤ r.1.l.length
theorem cut_ok {d : Nat} {A : Nd d} (h : Bd d A) (hl : A.l.length ≤ 7) : CutOk d (flat d A) A.l.length (cutN A) := by
 unfold cutN
 by_cases h6 : A.l.length ≤ 6
 · rw [if_pos h6]
   exact ⟨h, h6, by simp [flatL], fun _ => Nat.le_refl _, fun m hm => (by cases hm)⟩
 · rw [if_neg h6]
   have e7 : A.l.length / 2 = 3 := by omega
   rw [e7]
   have l1 : (A.l.take 3).length = 3 := by rw [List.length_take]; omega
   have l2 : (A.l.drop 3).length = 4 := by rw [List.length_drop]; omega
   have bds : ∀ a w, Bd d (⟨a, w, A.l.take 3, A.ks.take 3⟩ : Nd d) ∧ Bd d (⟨a, w, A.l.drop 3, A.ks.drop 3⟩ : Nd d) := by
     cases d with
     | zero => exact fun a w => ⟨⟨h.1.sublist (List.take_sublist ..), fun x hx => h.2 x (List.mem_of_mem_take hx)⟩, ⟨h.1.sublist (List.drop_sublist ..), fun x hx => h.2 x (List.mem_of_mem_drop hx)⟩⟩
     | succ d =>
       intro a w
       have hk := KidsOk.of h
       have e1 : A.l.take 3 = keyL ((kidsOf A).take 3) := by rw [h.1]; simp [keyL, List.map_take]
       have e2 : A.l.drop 3 = keyL ((kidsOf A).drop 3) := by rw [h.1]; simp [keyL, List.map_drop]
       rw [e1, e2]
       exact ⟨(hk.sub (List.take_sublist ..)).bdy a w, (hk.sub (List.drop_sublist ..)).bdy a w⟩
   refine ⟨(bds _ _).1, by show (A.l.take 3).length ≤ 6; omega, ?_, fun h => (by cases h), fun m hm => ?_⟩
   · show flatL d [_, _] = _
     rw [flatL_cons, flatL_one]
     cases d with
     | zero => exact List.take_append_drop 3 A.l
     | succ d =>
       show flatL d ((kidsOf A).take 3) ++ flatL d ((kidsOf A).drop 3) = flatL d (kidsOf A)
       rw [← flatL_app, List.take_append_drop]
   · injection hm with hm
     subst hm
     exact ⟨(bds _ _).2, by show 3 ≤ (A.l.drop 3).length; omega, by show (A.l.drop 3).length ≤ 6; omega, by show 3 ≤ (A.l.take 3).length; omega⟩
theorem below_at {d : Nat} {A : Nd (d + 1)} (h : Bd (d + 1) A) (h0 : A.l ≠ []) (x : Ey) : ∃ hlt : belowN A.l x < (kidsOf A).length, (∀ y ∈ flatL d ((kidsOf A).take (belowN A.l x)), ltE y x) ∧ (∀ y ∈ flatL d ((kidsOf A).drop (belowN A.l x + 1)), ltE x y) ∧
   flat (d + 1) A = flatL d ((kidsOf A).take (belowN A.l x)) ++ flat d ((kidsOf A)[belowN A.l x]) ++ flatL d ((kidsOf A).drop (belowN A.l x + 1)) ∧ (x ∈ flat (d + 1) A ↔ x ∈ flat d ((kidsOf A)[belowN A.l x])) := by
 have hk := KidsOk.of h
 have h1 := h.1
 have hk0 : kidsOf A ≠ [] := fun e => h0 (by rw [h1, e]; rfl)
 obtain ⟨s1, s2⟩ := below_split hk hk0 x
 rw [← h1] at s1 s2
 have hlt : belowN A.l x < (kidsOf A).length := by
   rw [h1, ← keyL_len (kidsOf A)]
   exact belowN_lt hk.keys (fun e => hk0 (List.eq_nil_of_length_eq_zero (by rw [← keyL_len, e]; rfl))) x
 have e : flat (d + 1) A = flatL d ((kidsOf A).take (belowN A.l x)) ++ flat d ((kidsOf A)[belowN A.l x]) ++ flatL d ((kidsOf A).drop (belowN A.l x + 1)) := by
   show flatL d (kidsOf A) = _
   rw [List.append_assoc, ← flatL_cons, ← flatL_app, ← List.drop_eq_getElem_cons hlt, List.take_append_drop]
 exact ⟨hlt, s1, s2, e, by rw [e]; exact mem_mid s1 s2⟩
theorem add_ok : ∀ (d : Nat) (A : Nd d) (x : Ey), Bd d A → A.l ≠ [] → A.l.length ≤ 6 → okE x → x ∉ flat d A → CutOk d (insE (flat d A) x) A.l.length (addN d A x)
 | 0, A, x, h, h0, h6, hx, hn => by
   have e := insE_len A.l x
   have hb : Bd 0 (⟨A.at_, true, insE A.l x, A.ks⟩ : Nd 0) := ⟨insE_srt h.1 hn, fun y hy => by
     rcases insE_mem.1 hy with rfl | h1
     · exact hx
     · exact h.2 y h1⟩
   have hc := cut_ok hb (by show (insE A.l x).length ≤ 7; omega)
   exact ⟨hc.bd, hc.le, hc.fl, fun h => Nat.le_trans (by show A.l.length ≤ (insE A.l x).length; omega) (hc.no h), hc.so⟩
 | d + 1, A, x, h, h0, h6, hx, hn => by
   obtain ⟨hlt, s1, s2, e, hm⟩ := below_at h h0 x
   have hk := KidsOk.of h
   have h1 := h.1
   have hll : A.l.length = (kidsOf A).length := by rw [h1, keyL_len]
   have hsrt : Srt (insE (flat (d + 1) A) x) := insE_srt h.srt hn
   have hun : addN (d + 1) A x = cutN (d := d + 1) ⟨A.at_, true, keyL (insAt ((kidsOf A).set (belowN A.l x) (addN d (kidsOf A)[belowN A.l x] x).1) (belowN A.l x) (addN d (kidsOf A)[belowN A.l x] x).2), insAt ((kidsOf A).set (belowN A.l x) (addN d (kidsOf A)[belowN A.l x] x).1) (belowN A.l x) (addN d (kidsOf A)[belowN A.l x] x).2⟩ := by
     show (match (kidsOf A)[belowN A.l x]? with | none => _ | some k => _) = _
     rw [List.getElem?_eq_getElem hlt]
   rw [hun, insAt_set hlt]
   obtain ⟨b1, b3, b6⟩ := hk.bd _ (List.getElem_mem hlt)
   have ih := add_ok d _ x b1 (fun e => by rw [e] at b3; simp at b3) b6 hx (fun h => hn (hm.2 h))
   generalize addN d (kidsOf A)[belowN A.l x] x = r at *
   generalize (kidsOf A)[belowN A.l x] = k at *
   generalize belowN A.l x = i at *
   have efl : flatL d ((kidsOf A).take i ++ r.1 :: (r.2.toList ++ (kidsOf A).drop (i + 1))) = insE (flat (d + 1) A) x := by
     rw [e, insE_mid s1 s2, ← ih.fl, flatL_app, flatL_cons, flatL_app, flatL_cons]
     simp [List.append_assoc]
   have hks : KidsOk d ((kidsOf A).take i ++ r.1 :: (r.2.toList ++ (kidsOf A).drop (i + 1))) := by
     refine ⟨fun q hq => ?_, by rw [efl]; exact hsrt⟩
     have hr1 : 3 ≤ r.1.l.length := by
       cases hr : r.2 with
       | none => have := ih.no hr; omega
       | some m => exact (ih.so m hr).2.2.2
     rcases List.mem_append.1 hq with hq | hq
     · exact hk.bd q (List.mem_of_mem_take hq)
     rcases List.mem_cons.1 hq with rfl | hq
     · exact ⟨ih.bd, hr1, ih.le⟩
     rcases List.mem_append.1 hq with hq | hq
     · have hq := Option.mem_toList.1 hq
       obtain ⟨c1, c2, c3, _⟩ := ih.so q hq
       exact ⟨c1, c2, c3⟩
     · exact hk.bd q (List.mem_of_mem_drop hq)
   have hlen : ((kidsOf A).take i ++ r.1 :: (r.2.toList ++ (kidsOf A).drop (i + 1))).length = (kidsOf A).length + r.2.toList.length := by
     simp only [List.length_append, List.length_cons, List.length_take, List.length_drop]
     omega
   have h2l : r.2.toList.length ≤ 1 := by cases r.2 <;> simp
   generalize (kidsOf A).take i ++ r.1 :: (r.2.toList ++ (kidsOf A).drop (i + 1)) = js at *
   have hc := cut_ok (hks.bdy A.at_ true) (by show (keyL js).length ≤ 7; rw [keyL_len]; omega)
   refine ⟨hc.bd, hc.le, hc.fl.trans efl, fun h => Nat.le_trans ?_ (hc.no h), hc.so⟩
   show A.l.length ≤ (keyL js).length
   rw [keyL_len]
   omega
end Go.Proofs.YtggachhkcmfijaaGreatDoor

/- Trees: dropping (plain). -/
set_option linter.unusedVariables false
namespace Go.Proofs.YtggachhkcmfijaaGreatDoor
open Go Go.Vc
end Go.Proofs.YtggachhkcmfijaaGreatDoor

/- Trees: the places of their parts; what lies on the disk (plain). -/
set_option linter.unusedVariables false
namespace Go.Proofs.YtggachhkcmfijaaGreatDoor
open Go Go.Vc
theorem nz_perm {X Y : List Int} (h : ∀ p, p ≠ 0 → X.count p = Y.count p) : (nz X).Perm (nz Y) := by
 refine List.perm_iff_count.2 fun p => ?_
 by_cases hp : p = 0
 · subst hp
   rw [List.count_eq_zero.2 (fun h => (nz_mem.1 h).2 rfl), List.count_eq_zero.2 (fun h => (nz_mem.1 h).2 rfl)]
 · unfold nz
   rw [List.count_filter (by simpa using hp), List.count_filter (by simpa using hp)]
   exact h p hp
/-- the places of all that is below a part -/
def plB : (d : Nat) → Nd d → List Int
 | 0, _ => []
 | d + 1, A => (kidsOf A).flatMap fun k => k.at_ :: plB d k
def pl (d : Nat) (A : Nd d) : List Int := A.at_ :: plB d A
abbrev plL (d : Nat) (ks : List (Nd d)) : List Int := ks.flatMap (pl d)
section
variable {d : Nat} {p : Int}
theorem plL_app (a b : List (Nd d)) : plL d (a ++ b) = plL d a ++ plL d b := by simp [plL]
theorem plL_cons (k : Nd d) (b : List (Nd d)) : plL d (k :: b) = pl d k ++ plL d b := by simp [plL]
theorem plL_nil : plL d [] = [] := rfl
theorem pl_mk (a : Int) (w : Bool) (l : List Ey) (ks : List (Nd d)) : pl (d + 1) (⟨a, w, l, ks⟩ : Nd (d + 1)) = a :: plL d ks := rfl
theorem pl_succ (A : Nd (d + 1)) : pl (d + 1) A = A.at_ :: plL d (kidsOf A) := rfl
theorem pl_zero (A : Nd 0) : pl 0 A = [A.at_] := rfl
theorem cn_app (a b : List (Nd d)) : (plL d (a ++ b)).count p = (plL d a).count p + (plL d b).count p := by rw [plL_app, List.count_append]
theorem cn_cons (k : Nd d) (b : List (Nd d)) : (plL d (k :: b)).count p = (pl d k).count p + (plL d b).count p := by rw [plL_cons, List.count_append]
theorem cn_split {ks : List (Nd d)} {i : Nat} (hi : i < ks.length) : (plL d ks).count p = (plL d (ks.take i)).count p + (pl d ks[i]).count p + (plL d (ks.drop (i + 1))).count p := by
 have e : ks = ks.take i ++ ks[i] :: ks.drop (i + 1) := by rw [← List.drop_eq_getElem_cons hi, List.take_append_drop]
 have := cn_app (p := p) (ks.take i) (ks[i] :: ks.drop (i + 1))
 rw [← e, cn_cons] at this
 omega
theorem cn_opt (k : Nd d) (o : Option (Nd d)) (b : List (Nd d)) : (plL d (k :: (o.toList ++ b))).count p = (plL d (k :: o.toList)).count p + (plL d b).count p := by
 rw [cn_cons, cn_cons, cn_app]; omega
theorem cut_cn {A : Nd d} (hp : p ≠ 0) : (plL d ((cutN A).1 :: (cutN A).2.toList)).count p = (pl d A).count p := by
 unfold cutN
 split
 · simp [plL]
 · show (plL d [_, _]).count p = _
   rw [cn_cons, cn_cons, plL_nil]
   cases d with
   | zero =>
     rw [pl_zero, pl_zero, pl_zero]
     simp [List.count_cons, Ne.symm hp]
   | succ d =>
     rw [pl_succ, pl_succ, pl_succ]
     show (A.at_ :: plL d ((kidsOf A).take _)).count p + ((0 :: plL d ((kidsOf A).drop _)).count p + _) = _
     have := cn_app (p := p) ((kidsOf A).take (A.l.length / 2)) ((kidsOf A).drop (A.l.length / 2))
     rw [List.take_append_drop] at this
     simp only [List.count_cons, this, beq_iff_eq, Ne.symm hp, if_false, List.count_nil]
     omega
end
theorem add_cn {p : Int} (hp : p ≠ 0) : ∀ (d : Nat) (A : Nd d) (x : Ey), (plL d ((addN d A x).1 :: (addN d A x).2.toList)).count p = (pl d A).count p
 | 0, A, x => by
   have := cut_cn (d := 0) (A := ⟨A.at_, true, insE A.l x, A.ks⟩) hp
   exact this
 | d + 1, A, x => by
   have ih := fun k => add_cn hp d k x
   unfold addN
   split
   · simp [plL]
   · rename_i k hk
     obtain ⟨hlt, rfl⟩ := List.getElem?_eq_some_iff.1 hk
     rw [cut_cn hp, pl_mk, insAt_set hlt, pl_succ]
     have h1 := cn_split (p := p) hlt
     have h2 := ih (kidsOf A)[belowN A.l x]
     rw [List.count_cons, List.count_cons, cn_app, cn_opt, h2, h1]
     omega
/-! ### What lies on the disk -/
def encLf (l : List Ey) : Bs := 1 :: UInt8.ofNat l.length :: l.flatMap encE
def encIn (l : List Ey) (ats : List Int) : Bs := 0 :: UInt8.ofNat l.length :: (l.zip ats).flatMap fun q => encE q.1 ++ leBytes 2 q.2
/-- what is not another one now lies at its place, and all below it -/
def Dk (es : List Ent) (gen : Int) : (d : Nat) → Nd d → Prop
 | 0, A => A.wr = false → Ch es gen A.at_ 4 (encLf A.l)
 | d + 1, A => (A.wr = false → Ch es gen A.at_ 4 (encIn A.l ((kidsOf A).map (·.at_))) ∧ ∀ k ∈ kidsOf A, k.wr = false) ∧ ∀ k ∈ kidsOf A, Dk es gen d k
section
variable {es : List Ent} {gen : Int} {d : Nat}
theorem Dk.mk {ks : List (Nd d)} (h : ∀ k ∈ ks, Dk es gen d k) (a : Int) (l : List Ey) : Dk es gen (d + 1) (⟨a, true, l, ks⟩ : Nd (d + 1)) := ⟨fun h => (by cases h), h⟩
theorem Dk.mk0 (a : Int) (l : List Ey) (ks : List Empty) : Dk es gen 0 (⟨a, true, l, ks⟩ : Nd 0) := fun h => (by cases h)
theorem cut_dk {A : Nd d} (h : Dk es gen d A) (hw : A.wr = true) : ∀ k ∈ (cutN A).1 :: (cutN A).2.toList, Dk es gen d k := by
 unfold cutN
 split
 · intro k hk
   simp only [Option.toList_none, List.mem_singleton] at hk
   subst hk; exact h
 · intro k hk
   rw [hw] at hk
   cases d with
   | zero =>
     rcases List.mem_cons.1 hk with rfl | hk
     · exact Dk.mk0 _ _ _
     · simp only [Option.toList_some, List.mem_singleton] at hk
       subst hk; exact Dk.mk0 _ _ _
   | succ d =>
     rcases List.mem_cons.1 hk with rfl | hk
     · exact Dk.mk (ks := (kidsOf A).take _) (fun k hk => h.2 k (List.mem_of_mem_take hk)) _ _
     · simp only [Option.toList_some, List.mem_singleton] at hk
       subst hk
       exact Dk.mk (ks := (kidsOf A).drop _) (fun k hk => h.2 k (List.mem_of_mem_drop hk)) _ _
end
theorem add_dk {es : List Ent} {gen : Int} : ∀ (d : Nat) (A : Nd d) (x : Ey), Dk es gen d A → ∀ k ∈ (addN d A x).1 :: (addN d A x).2.toList, Dk es gen d k
 | 0, A, x, h => cut_dk (Dk.mk0 _ _ _) rfl
 | d + 1, A, x, h => by
   have ih := fun k => add_dk (es := es) (gen := gen) d k x
   unfold addN
   split
   · intro k hk
     simp only [Option.toList_none, List.mem_singleton] at hk
     subst hk; exact h
   · rename_i k hk
     obtain ⟨hlt, rfl⟩ := List.getElem?_eq_some_iff.1 hk
     refine cut_dk (Dk.mk (fun k hk => ?_) _ _) rfl
     rw [insAt_set hlt] at hk
     rcases List.mem_append.1 hk with h1 | h1
     · exact h.2 k (List.mem_of_mem_take h1)
     · rw [← List.cons_append] at h1
       rcases List.mem_append.1 h1 with h2 | h2
       · exact ih _ (h.2 _ (List.getElem_mem hlt)) k h2
       · exact h.2 k (List.mem_of_mem_drop h2)
end Go.Proofs.YtggachhkcmfijaaGreatDoor

/- Trees: the places of a print; how deep they are (plain). -/
set_option linter.unusedVariables false
namespace Go.Proofs.YtggachhkcmfijaaGreatDoor
open Go Go.Vc
/-- prints in order -/
def ltP (k : Int) (s : Bs) (k' : Int) (s' : Bs) : Prop := k < k' ∨ (k = k' ∧ s < s')
instance (k : Int) (s : Bs) (k' : Int) (s' : Bs) : Decidable (ltP k s k' s') := by unfold ltP; infer_instance
theorem ltE_ltP {x y : Ey} (h : ltE x y) : ¬ ltP y.k y.s x.k x.s := by
 unfold ltE at h
 unfold ltP
 rcases h with h | ⟨h1, h2 | ⟨h2, h3⟩⟩
 · rintro (h4 | ⟨h4, _⟩) <;> omega
 · rintro (h4 | ⟨h4, h5⟩)
   · omega
   · exact bs_irrefl _ (bs_trans h2 h5)
 · rintro (h4 | ⟨h4, h5⟩)
   · omega
   · rw [h2] at h5; exact bs_irrefl _ h5
theorem findE_app (a b : List Ey) (k : Int) (s : Bs) : findE (a ++ b) k s = findE a k s ++ findE b k s := by simp [findE]
theorem findE_none {l : List Ey} {k : Int} {s : Bs} (h : ∀ x ∈ l, ¬ (x.k = k ∧ x.s = s)) : findE l k s = [] := by
 unfold findE
 rw [List.filter_eq_nil_iff.2 (fun x hx => by simpa using h x hx)]
 rfl
/-- children in which a print can't be -/
theorem skip_hi {d : Nat} {ks : List (Nd d)} (h : KidsOk d ks) {i : Nat} (hi : i < ks.length) {k : Int} {s : Bs} (hl : ltP k s (hdE ks[i].l).k (hdE ks[i].l).s) : findE (flat d ks[i]) k s = [] := by
 refine findE_none fun x hx ⟨h1, h2⟩ => ?_
 obtain ⟨a1, a2⟩ := h.hd hi
 have hle := hdE_le ((h.bd _ (List.getElem_mem hi)).1.srt) hx
 rw [a2] at hle
 rw [← h1, ← h2] at hl
 rcases hle with e | e
 · rw [← e] at hl
   rcases hl with h3 | ⟨_, h3⟩
   · omega
   · exact bs_irrefl _ h3
 · exact ltE_ltP e hl
theorem skip_lo {d : Nat} {ks : List (Nd d)} (h : KidsOk d ks) {i : Nat} (hi : i + 1 < ks.length) {k : Int} {s : Bs} (hl : ltP (hdE ks[i + 1].l).k (hdE ks[i + 1].l).s k s) : findE (flat d (ks[i]'(by omega))) k s = [] := by
 refine findE_none fun x hx ⟨h1, h2⟩ => ?_
 obtain ⟨a1, a2⟩ := h.hd hi
 have hlt : ltE x (hdE (flat d ks[i + 1])) := flat_lt h.srt (Nat.lt_succ_self i) hi hx (hdE_mem a1)
 rw [a2] at hlt
 rw [← h1, ← h2] at hl
 exact ltE_ltP hlt hl
/-- how many there are at least -/
theorem flat_many : ∀ {d : Nat} {A : Nd d}, Bd d A → A.l.length * 3 ^ d ≤ (flat d A).length
 | 0, A, h => by show A.l.length * 1 ≤ A.l.length; omega
 | d + 1, A, h => by
   have hk := KidsOk.of h
   have hl : A.l.length = (kidsOf A).length := by rw [h.1, keyL_len]
   have hall : ∀ ks : List (Nd d), (∀ k ∈ ks, Bd d k ∧ 3 ≤ k.l.length ∧ k.l.length ≤ 6) → ks.length * 3 ^ (d + 1) ≤ (flatL d ks).length := fun ks => by
     induction ks with
     | nil => intro _; simp
     | cons k r ih =>
       intro hb
       have h1 := ih fun q hq => hb q (List.mem_cons_of_mem _ hq)
       obtain ⟨b1, b3, _⟩ := hb k (List.mem_cons_self ..)
       have h2 := flat_many b1
       have h3 : 3 * 3 ^ d ≤ k.l.length * 3 ^ d := Nat.mul_le_mul_right _ b3
       rw [flatL_cons, List.length_append, List.length_cons, Nat.add_mul, Nat.one_mul]
       have h4 : 3 ^ (d + 1) = 3 * 3 ^ d := by rw [Nat.pow_succ, Nat.mul_comm]
       omega
   rw [hl]
   exact hall _ hk.bd
theorem depth_le {d : Nat} {A : Nd d} (h : Bd d A) (h0 : min d 1 + 1 ≤ A.l.length) {n : Nat} (hn : (flat d A).length ≤ n) (h161 : n ≤ 161) : d ≤ 3 := by
 have h1 := flat_many h
 rcases Nat.lt_or_ge 3 d with h2 | h2
 · exfalso
   have h3 : 3 ^ 4 ≤ 3 ^ d := Nat.pow_le_pow_right (by decide) h2
   have h4 : 2 * 3 ^ d ≤ A.l.length * 3 ^ d := Nat.mul_le_mul_right _ (by omega)
   have h5 : (3 : Nat) ^ 4 = 81 := by decide
   omega
 · exact h2
/-! ### A tree: none, or a root -/
/-- a tree: how deep its root stands above the leaves, and the root -/
abbrev Tree := Option ((d : Nat) × Nd d)
def flatT : Tree → List Ey
 | none => []
 | some ⟨d, A⟩ => flat d A
def plT : Tree → List Int
 | none => []
 | some ⟨d, A⟩ => pl d A
def DkT (es : List Ent) (gen : Int) : Tree → Prop
 | none => True
 | some ⟨d, A⟩ => Dk es gen d A
/-- a tree that is sound -/
def OkT : Tree → Prop
 | none => True
 | some ⟨d, A⟩ => Bd d A ∧ min d 1 + 1 ≤ A.l.length ∧ A.l.length ≤ 6
def ndK {d : Nat} (a : Int) (w : Bool) (ks : List (Nd d)) : Nd (d + 1) := ⟨a, w, keyL ks, ks⟩
theorem pl_ndK {d : Nat} (a : Int) (w : Bool) (ks : List (Nd d)) : pl (d + 1) (ndK a w ks) = a :: plL d ks := rfl
def addT : Tree → Ey → Tree
 | none, x => some ⟨0, ⟨0, true, [x], []⟩⟩
 | some ⟨d, A⟩, x =>
   match addN d A x with
   | (A', none) => some ⟨d, A'⟩
   | (A', some m) => some ⟨d + 1, ndK 0 true [A', m]⟩
theorem OkT.srt : ∀ {t : Tree}, OkT t → Srt (flatT t)
 | none, _ => List.Pairwise.nil
 | some ⟨d, A⟩, h => h.1.srt
theorem OkT.ok : ∀ {t : Tree}, OkT t → ∀ x ∈ flatT t, okE x
 | none, _, x, hx => by cases hx
 | some ⟨d, A⟩, h, x, hx => h.1.ok x hx
theorem addT_ok : ∀ {t : Tree} {x : Ey}, OkT t → okE x → x ∉ flatT t → OkT (addT t x) ∧ flatT (addT t x) = insE (flatT t) x
 | none, x, _, hx, _ => ⟨⟨⟨List.pairwise_singleton .., fun y hy => by
     rcases List.mem_singleton.1 hy with rfl
     exact hx⟩, by simp, by simp⟩, by simp [addT, flatT, flat, insE, cntE]⟩
 | some ⟨d, A⟩, x, h, hx, hn => by
   obtain ⟨h1, h2, h3⟩ := h
   have hc := add_ok d A x h1 (fun e => by rw [e] at h2; simp at h2) h3 hx hn
   unfold addT
   simp only
   generalize addN d A x = r at *
   obtain ⟨A', o⟩ := r
   cases o with
   | none =>
     have hfl := hc.fl
     simp only [Option.toList_none, flatL_one] at hfl
     exact ⟨⟨hc.bd, Nat.le_trans h2 (hc.no rfl), hc.le⟩, hfl⟩
   | some m =>
     obtain ⟨m1, m2, m3, m4⟩ := hc.so m rfl
     have hfl := hc.fl
     simp only [Option.toList_some] at hfl
     have hks : KidsOk d [A', m] := ⟨fun k hk => by
       rcases List.mem_cons.1 hk with rfl | hk
       · exact ⟨hc.bd, m4, hc.le⟩
       · rcases List.mem_singleton.1 hk with rfl
         exact ⟨m1, m2, m3⟩, by rw [hfl]; exact insE_srt h1.srt hn⟩
     refine ⟨⟨hks.bdy 0 true, by simp [keyL, ndK], by simp [keyL, ndK]⟩, hfl⟩
theorem addT_cn {p : Int} (hp : p ≠ 0) : ∀ (t : Tree) (x : Ey), (plT (addT t x)).count p = (plT t).count p
 | none, x => by simp [addT, plT, pl, plB, List.count_cons, Ne.symm hp]
 | some ⟨d, A⟩, x => by
   have h := add_cn hp d A x
   unfold addT
   simp only
   generalize addN d A x = r at *
   obtain ⟨A', o⟩ := r
   cases o with
   | none =>
     show (pl d A').count p = (pl d A).count p
     simpa [plL] using h
   | some m =>
     simp only [Option.toList_some] at h
     show (pl (d + 1) (ndK 0 true [A', m])).count p = (pl d A).count p
     rw [pl_ndK, List.count_cons, h]
     simp only [beq_iff_eq, Ne.symm hp, if_false, Nat.add_zero]
theorem addT_dk {es : List Ent} {gen : Int} : ∀ {t : Tree} (x : Ey), DkT es gen t → DkT es gen (addT t x)
 | none, x, _ => Dk.mk0 _ _ _
 | some ⟨d, A⟩, x, h => by
   have h := add_dk d A x h
   unfold addT
   simp only
   generalize addN d A x = r at *
   obtain ⟨A', o⟩ := r
   cases o with
   | none => exact h A' (List.mem_cons_self ..)
   | some m => exact Dk.mk (ks := [A', m]) (by simpa using h) _ _
end Go.Proofs.YtggachhkcmfijaaGreatDoor

/- Trees that are built at once (plain). -/
set_option linter.unusedVariables false
namespace Go.Proofs.YtggachhkcmfijaaGreatDoor
open Go Go.Vc
end Go.Proofs.YtggachhkcmfijaaGreatDoor
