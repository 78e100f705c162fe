/- Trees in memory: a part that was read, or not; what is below it. -/
import Derived.Test.YtggachhkcmfijaaGreatDoorJf
import Derived.Test.YtggachhkcmfijaaGreatDoorEe
import Derived.Test.YtggachhkcmfijaaGreatDoorJa
set_option linter.unusedVariables false
namespace Go.Proofs.YtggachhkcmfijaaGreatDoor
open Go Go.Vc Go.RowKit Go.Lib
section
variable {w : World} {X : List As}
theorem All.split {a b : List As} {A : As} (h : St w (As.all (a ++ A :: b) :: X)) : St w (A :: As.all a :: As.all b :: X) := by
 have h1 := h.unfold
 have h2 : St w (b ++ (a ++ (A :: X))) := St.perm h1 (by
   have p1 : (a ++ A :: b ++ X).Perm (A :: (a ++ b) ++ X) := List.Perm.append_right X List.perm_middle
   refine p1.trans ?_
   have p2 : (b ++ (a ++ A :: X)).Perm (A :: (b ++ (a ++ X))) := by
     rw [← List.append_assoc, ← List.append_assoc]
     exact List.perm_middle
   refine List.Perm.trans ?_ p2.symm
   rw [List.cons_append]
   refine List.Perm.cons _ ?_
   rw [← List.append_assoc]
   exact List.Perm.append_right X List.perm_append_comm)
 have h3 := h2.fold b
 have h4 := (St.perm h3 (L' := a ++ (As.all b :: A :: X)) (List.perm_middle).symm).fold a
 exact h4.up2
theorem All.join {a b : List As} {A : As} (h : St w (A :: As.all a :: As.all b :: X)) : St w (As.all (a ++ A :: b) :: X) := by
 have h1 := h.sw.unfold
 have h2 : St w (As.all b :: (a ++ (A :: X))) := St.perm h1 (by
   have : (a ++ A :: As.all b :: X).Perm (a ++ As.all b :: A :: X) := List.Perm.append_left _ (List.Perm.swap _ _ _)
   exact this.trans List.perm_middle)
 have h3 := h2.unfold
 refine St.fold (a ++ A :: b) (St.perm h3 ?_)
 have p2 : (b ++ (a ++ A :: X)).Perm (A :: (b ++ (a ++ X))) := by
   rw [← List.append_assoc, ← List.append_assoc]
   exact List.perm_middle
 refine p2.trans ?_
 have p1 : (a ++ A :: b ++ X).Perm (A :: (a ++ b) ++ X) := List.Perm.append_right X List.perm_middle
 refine List.Perm.trans ?_ p1.symm
 rw [List.cons_append]
 refine List.Perm.cons _ ?_
 rw [← List.append_assoc]
 exact List.Perm.append_right X List.perm_append_comm
theorem All.nil (h : St w X) : St w (As.all [] :: X) := h.fold []
theorem All.two {a b : List As} (h : St w (As.all (a ++ b) :: X)) : St w (As.all a :: As.all b :: X) := by
 have h1 := h.unfold
 have h2 : St w (b ++ (a ++ X)) := St.perm h1 (by
   rw [← List.append_assoc]
   exact List.Perm.append_right X List.perm_append_comm)
 have h3 : St w (a ++ (As.all b :: X)) := St.perm (h2.fold b) (List.perm_middle).symm
 exact h3.fold a
theorem All.one {a b : List As} (h : St w (As.all a :: As.all b :: X)) : St w (As.all (a ++ b) :: X) := by
 have h1 := h.unfold
 have h2 : St w (As.all b :: (a ++ X)) := St.perm h1 List.perm_middle
 refine St.fold (a ++ b) (St.perm h2.unfold ?_)
 rw [← List.append_assoc]
 exact List.Perm.append_right X List.perm_append_comm
end
/-- pointers in cells -/
def EPt : Enc Nat := ⟨fun g => [.pointer (some (blk g))], 1, fun _ => rfl, fun _ u hu => by simp only [List.mem_cons, List.not_mem_nil, or_false] at hu; subst hu; rfl⟩
theorem Has.pt {w : World} {l : Sl} {xs : List Nat} (h : Has EPt w l xs) {m : Nat} (hm : m < xs.length) : ∃ ad, l.a = some ad ∧ m < l.len ∧ w.cell? (ad.add (m * 1)) = some (.pointer (some (blk xs[m]))) := by
 obtain ⟨ad, ha, hl, hc⟩ := h.at hm
 have h0 := hc 0 _ rfl
 rw [Vc.addr_add0] at h0
 exact ⟨ad, ha, hl, h0⟩
section
variable (tn tp : TypeId)
/-- a part's cells -/
abbrev ndC (at_ : Int) (rd lf wr : Bool) (l k : Sl) : List Value := [.int .i64 at_, .bool rd, .bool lf, .bool wr, .slice l.a l.len l.cap, .slice k.a k.len k.cap]
/-- where the rows of a part lie, and the parts below it -/
structure NdP where
 l : Sl
 k : Sl
 gs : List Nat
/-- a part in memory (tn: the type of a part, tp: of a pointer to one): not read; or read, with its rows and what is below -/
def NodeS : (d : Nat) → Nat → Nd d → As
 | 0, g, A => As.ex fun b : Bool => bif b
     then As.ex fun l : Sl => As.all [Cs g (ndC A.at_ true true A.wr l ⟨none, 0, 0⟩) tn, Row EE T.y_api_Entry l A.l]
     else As.wh (A.wr = false) (Cs g (ndC A.at_ false false false ⟨none, 0, 0⟩ ⟨none, 0, 0⟩) tn)
 | d + 1, g, A => As.ex fun b : Bool => bif b
     then As.ex fun p : NdP => As.wh (p.gs.length = (kidsOf A).length) (As.all [Cs g (ndC A.at_ true false A.wr p.l p.k) tn, Row EE T.y_api_Entry p.l A.l, Row EPt tp p.k p.gs, As.all (List.zipWith (NodeS d) p.gs (kidsOf A))])
     else As.wh (A.wr = false) (Cs g (ndC A.at_ false false false ⟨none, 0, 0⟩ ⟨none, 0, 0⟩) tn)
/-- parts beside each other -/
abbrev KidsS (d : Nat) (gs : List Nat) (ks : List (Nd d)) : As := As.all (List.zipWith (NodeS tn tp d) gs ks)
/-- a part that was read -/
def NodeR : (d : Nat) → Nat → Nd d → As
 | 0, g, A => As.ex fun l : Sl => As.all [Cs g (ndC A.at_ true true A.wr l ⟨none, 0, 0⟩) tn, Row EE T.y_api_Entry l A.l]
 | d + 1, g, A => As.ex fun p : NdP => As.wh (p.gs.length = (kidsOf A).length) (As.all [Cs g (ndC A.at_ true false A.wr p.l p.k) tn, Row EE T.y_api_Entry p.l A.l, Row EPt tp p.k p.gs, KidsS tn tp d p.gs (kidsOf A)])
/-- one that was not -/
def NodeU (d : Nat) (g : Nat) (A : Nd d) : As := As.wh (A.wr = false) (Cs g (ndC A.at_ false false false ⟨none, 0, 0⟩ ⟨none, 0, 0⟩) tn)
variable {tn tp} {w : World} {X : List As} {d g : Nat}
theorem NodeS.or {A : Nd d} (h : St w (NodeS tn tp d g A :: X)) : St w (NodeR tn tp d g A :: X) ∨ St w (NodeU tn d g A :: X) := by
 cases d with
 | zero =>
   obtain ⟨b, h⟩ := St.ex h
   cases b
   · exact .inr h
   · exact .inl h
 | succ d =>
   obtain ⟨b, h⟩ := St.ex h
   cases b
   · exact .inr h
   · exact .inl h
theorem NodeR.s {A : Nd d} (h : St w (NodeR tn tp d g A :: X)) : St w (NodeS tn tp d g A :: X) := by
 cases d with
 | zero => exact St.mk (f := fun b : Bool => bif b then As.ex fun l : Sl => As.all [Cs g (ndC A.at_ true true A.wr l ⟨none, 0, 0⟩) tn, Row EE T.y_api_Entry l A.l] else As.wh (A.wr = false) (Cs g (ndC A.at_ false false false ⟨none, 0, 0⟩ ⟨none, 0, 0⟩) tn)) true h
 | succ d => exact St.mk (f := fun b : Bool => bif b then As.ex fun p : NdP => As.wh (p.gs.length = (kidsOf A).length) (As.all [Cs g (ndC A.at_ true false A.wr p.l p.k) tn, Row EE T.y_api_Entry p.l A.l, Row EPt tp p.k p.gs, As.all (List.zipWith (NodeS tn tp d) p.gs (kidsOf A))]) else As.wh (A.wr = false) (Cs g (ndC A.at_ false false false ⟨none, 0, 0⟩ ⟨none, 0, 0⟩) tn)) true h
theorem NodeU.s {A : Nd d} (h : St w (NodeU tn d g A :: X)) : St w (NodeS tn tp d g A :: X) := by
 cases d with
 | zero => exact St.mk (f := fun b : Bool => bif b then As.ex fun l : Sl => As.all [Cs g (ndC A.at_ true true A.wr l ⟨none, 0, 0⟩) tn, Row EE T.y_api_Entry l A.l] else As.wh (A.wr = false) (Cs g (ndC A.at_ false false false ⟨none, 0, 0⟩ ⟨none, 0, 0⟩) tn)) false h
 | succ d => exact St.mk (f := fun b : Bool => bif b then As.ex fun p : NdP => As.wh (p.gs.length = (kidsOf A).length) (As.all [Cs g (ndC A.at_ true false A.wr p.l p.k) tn, Row EE T.y_api_Entry p.l A.l, Row EPt tp p.k p.gs, As.all (List.zipWith (NodeS tn tp d) p.gs (kidsOf A))]) else As.wh (A.wr = false) (Cs g (ndC A.at_ false false false ⟨none, 0, 0⟩ ⟨none, 0, 0⟩) tn)) false h
/-- a leaf that was read -/
theorem NodeR.leaf {A : Nd 0} (h : St w (NodeR tn tp 0 g A :: X)) : ∃ l, St w (Cs g (ndC A.at_ true true A.wr l ⟨none, 0, 0⟩) tn :: Row EE T.y_api_Entry l A.l :: X) := by
 obtain ⟨l, h⟩ := St.ex h
 exact ⟨l, h.unfold⟩
theorem NodeR.ofLeaf {A : Nd 0} {l : Sl} (h : St w (Cs g (ndC A.at_ true true A.wr l ⟨none, 0, 0⟩) tn :: Row EE T.y_api_Entry l A.l :: X)) : St w (NodeR tn tp 0 g A :: X) :=
 St.mk (f := fun l : Sl => As.all [Cs g (ndC A.at_ true true A.wr l ⟨none, 0, 0⟩) tn, Row EE T.y_api_Entry l A.l]) l (St.fold [Cs g (ndC A.at_ true true A.wr l ⟨none, 0, 0⟩) tn, Row EE T.y_api_Entry l A.l] h)
/-- one above others that was read -/
theorem NodeR.kids {A : Nd (d + 1)} (h : St w (NodeR tn tp (d + 1) g A :: X)) : ∃ l k gs, gs.length = (kidsOf A).length ∧ St w (Cs g (ndC A.at_ true false A.wr l k) tn :: Row EE T.y_api_Entry l A.l :: Row EPt tp k gs :: KidsS tn tp d gs (kidsOf A) :: X) := by
 obtain ⟨⟨l, k, gs⟩, h⟩ := St.ex h
 obtain ⟨hl, h⟩ := h.wh
 exact ⟨l, k, gs, hl, h.unfold⟩
theorem NodeR.ofKids {A : Nd (d + 1)} {l k : Sl} {gs : List Nat} (hl : gs.length = (kidsOf A).length) (h : St w (Cs g (ndC A.at_ true false A.wr l k) tn :: Row EE T.y_api_Entry l A.l :: Row EPt tp k gs :: KidsS tn tp d gs (kidsOf A) :: X)) : St w (NodeR tn tp (d + 1) g A :: X) :=
 St.mk (f := fun p : NdP => As.wh (p.gs.length = (kidsOf A).length) (As.all [Cs g (ndC A.at_ true false A.wr p.l p.k) tn, Row EE T.y_api_Entry p.l A.l, Row EPt tp p.k p.gs, KidsS tn tp d p.gs (kidsOf A)])) ⟨l, k, gs⟩
   (St.whmk hl (St.fold [Cs g (ndC A.at_ true false A.wr l k) tn, Row EE T.y_api_Entry l A.l, Row EPt tp k gs, KidsS tn tp d gs (kidsOf A)] h))
theorem zip_cut {α β γ : Type} (f : α → β → γ) {us : List α} {bs : List β} (hl : us.length = bs.length) {i : Nat} (hi : i < bs.length) :
   List.zipWith f us bs = List.zipWith f (us.take i) (bs.take i) ++ f (us[i]'(by omega)) bs[i] :: List.zipWith f (us.drop (i + 1)) (bs.drop (i + 1)) := by
 have e1 : us = us.take i ++ (us[i]'(by omega)) :: us.drop (i + 1) := by rw [← List.drop_eq_getElem_cons (by omega), List.take_append_drop]
 have e2 : bs = bs.take i ++ bs[i] :: bs.drop (i + 1) := by rw [← List.drop_eq_getElem_cons hi, List.take_append_drop]
 refine (congrArg (fun z => List.zipWith f z bs) e1).trans ((congrArg (fun z => List.zipWith f _ z) e2).trans ?_)
 rw [List.zipWith_append (by rw [List.length_take, List.length_take]; omega), List.zipWith_cons_cons]
/-- one of several parts -/
theorem KidsS.out {gs : List Nat} {ks : List (Nd d)} (hl : gs.length = ks.length) {i : Nat} (hi : i < ks.length) (h : St w (KidsS tn tp d gs ks :: X)) :
   St w (NodeS tn tp d (gs[i]'(by omega)) ks[i] :: KidsS tn tp d (gs.take i) (ks.take i) :: KidsS tn tp d (gs.drop (i + 1)) (ks.drop (i + 1)) :: X) := by
 unfold KidsS at h
 rw [zip_cut _ hl hi] at h
 exact All.split h
theorem KidsS.into {us bs : List Nat} {ps qs : List (Nd d)} {q : Nat} {A : Nd d} (hl : us.length = ps.length) (h : St w (NodeS tn tp d q A :: KidsS tn tp d us ps :: KidsS tn tp d bs qs :: X)) : St w (KidsS tn tp d (us ++ q :: bs) (ps ++ A :: qs) :: X) := by
 unfold KidsS
 rw [List.zipWith_append hl, List.zipWith_cons_cons]
 exact All.join h
theorem KidsS.two {us bs : List Nat} {ps qs : List (Nd d)} (hl : us.length = ps.length) (h : St w (KidsS tn tp d (us ++ bs) (ps ++ qs) :: X)) : St w (KidsS tn tp d us ps :: KidsS tn tp d bs qs :: X) := by
 unfold KidsS at h
 rw [List.zipWith_append hl] at h
 exact All.two h
theorem KidsS.app {us bs : List Nat} {ps qs : List (Nd d)} (hl : us.length = ps.length) (h : St w (KidsS tn tp d us ps :: KidsS tn tp d bs qs :: X)) : St w (KidsS tn tp d (us ++ bs) (ps ++ qs) :: X) := by
 unfold KidsS
 rw [List.zipWith_append hl]
 exact All.one h
end
end Go.Proofs.YtggachhkcmfijaaGreatDoor

/- Trees: parts alike but for their places; parts that were not read; what is laid (plain, and words). -/
set_option linter.unusedVariables false
namespace Go.Proofs.YtggachhkcmfijaaGreatDoor
open Go Go.Vc Go.RowKit Go.Lib
/-- alike but for places, and whether they are others now -/
def Like : (d : Nat) → Nd d → Nd d → Prop
 | 0, A, B => A.l = B.l
 | d + 1, A, B => A.l = B.l ∧ (kidsOf A).length = (kidsOf B).length ∧ ∀ (i : Nat) (a b : Nd d), (kidsOf A)[i]? = some a → (kidsOf B)[i]? = some b → Like d a b
theorem Like.l : ∀ {d : Nat} {A B : Nd d}, Like d A B → A.l = B.l
 | 0, A, B, h => h
 | d + 1, A, B, h => h.1
theorem Like.refl : ∀ {d : Nat} (A : Nd d), Like d A A
 | 0, A => rfl
 | d + 1, A => ⟨rfl, rfl, fun i a b ha hb => by
   rw [ha] at hb
   injection hb with hb
   subst hb; exact Like.refl a⟩
theorem flatL_like {d : Nat} (ih : ∀ {a b : Nd d}, Like d a b → flat d a = flat d b) : ∀ {ks js : List (Nd d)}, ks.length = js.length → (∀ (i : Nat) (a b : Nd d), ks[i]? = some a → js[i]? = some b → Like d a b) → flatL d ks = flatL d js ∧ keyL ks = keyL js
 | [], [], _, _ => ⟨rfl, rfl⟩
 | k :: ks, j :: js, hl, h => by
   obtain ⟨h1, h2⟩ := flatL_like ih (ks := ks) (js := js) (by simpa using hl) fun i a b ha hb => h (i + 1) a b (by simpa using ha) (by simpa using hb)
   have h0 := h 0 k j rfl rfl
   rw [flatL_cons, flatL_cons, h1, ih h0]
   refine ⟨rfl, ?_⟩
   show hdE k.l :: keyL ks = hdE j.l :: keyL js
   rw [h2, h0.l]
 | [], _ :: _, hl, _ => by simp at hl
 | _ :: _, [], hl, _ => by simp at hl
theorem Like.flat : ∀ {d : Nat} {A B : Nd d}, Like d A B → Go.Proofs.YtggachhkcmfijaaGreatDoor.flat d A = Go.Proofs.YtggachhkcmfijaaGreatDoor.flat d B
 | 0, A, B, h => h
 | d + 1, A, B, h => (flatL_like (fun h => Like.flat h) h.2.1 h.2.2).1
theorem Like.bd : ∀ {d : Nat} {A B : Nd d}, Like d A B → Bd d A → Bd d B
 | 0, A, B, h, hb => by
   have h : A.l = B.l := h
   exact ⟨h ▸ hb.1, h ▸ hb.2⟩
 | d + 1, A, B, h, hb => by
   obtain ⟨f1, f2⟩ := flatL_like (fun h => Like.flat h) h.2.1 h.2.2
   refine ⟨by rw [← h.1, hb.1, f2], fun k hk => ?_, by rw [← f1]; exact hb.2.2⟩
   obtain ⟨i, hi, rfl⟩ := List.mem_iff_getElem.1 hk
   have hi' : i < (kidsOf A).length := by rw [h.2.1]; exact hi
   have hl := h.2.2 i _ _ (List.getElem?_eq_getElem hi') (List.getElem?_eq_getElem hi)
   obtain ⟨c1, c2, c3⟩ := hb.2.1 _ (List.getElem_mem hi')
   exact ⟨Like.bd hl c1, by rw [← hl.l]; exact c2, by rw [← hl.l]; exact c3⟩
theorem Dk.mono {es es' : List Ent} (hs : ∀ e ∈ es, e ∈ es') {gen : Int} : ∀ {d : Nat} {A : Nd d}, Dk es gen d A → Dk es' gen d A
 | 0, A, h => fun hw => by
   obtain ⟨e, he, r⟩ := h hw
   exact ⟨e, hs e he, r⟩
 | d + 1, A, h => ⟨fun hw => by
   obtain ⟨⟨e, he, r⟩, h2⟩ := h.1 hw
   exact ⟨⟨e, hs e he, r⟩, h2⟩, fun k hk => Dk.mono hs (h.2 k hk)⟩
/-! ### Bytes -/
theorem encLf_len {l : List Ey} (ho : ∀ x ∈ l, okE x) : (encLf l).length = 2 + 35 * l.length := by
 have : (l.flatMap encE).length = 35 * l.length := encL_len ho
 unfold encLf
 simp only [List.length_cons, this]
 omega
theorem encIn_len : ∀ {l : List Ey} {ps : List Int}, l.length = ps.length → (∀ x ∈ l, okE x) → (encIn l ps).length = 2 + 37 * l.length := by
 have : ∀ {l : List Ey} {ps : List Int}, l.length = ps.length → (∀ x ∈ l, okE x) → ((l.zip ps).flatMap fun q => encE q.1 ++ leBytes 2 q.2).length = 37 * l.length := fun {l} => by
   induction l with
   | nil => intro ps _ _; simp
   | cons x r ih =>
     intro ps hl ho
     cases ps with
     | nil => simp at hl
     | cons p q =>
       have h1 := ih (ps := q) (by simpa using hl) fun y hy => ho y (List.mem_cons_of_mem _ hy)
       have h2 : (encE x).length = 35 := by
         have := encL_len (l := [x]) fun y hy => by
           rw [List.mem_singleton] at hy
           rw [hy]; exact ho x (List.mem_cons_self ..)
         simpa [encL] using this
       rw [List.zip_cons_cons, List.flatMap_cons, List.length_append, List.length_append, leBytes_len, h1, h2, List.length_cons]
       omega
 intro l ps hl ho
 unfold encIn
 simp only [List.length_cons, this hl ho]
 omega
/-! ### Parts that were not read -/
section
variable (tn tp : TypeId)
abbrev UnS (gs : List Nat) (ps : List Int) : As := As.all (List.zipWith (fun g (p : Int) => Cs g (ndC p false false false ⟨none, 0, 0⟩ ⟨none, 0, 0⟩) tn) gs ps)
variable {tn tp} {w : World} {X : List As}
theorem UnS.snoc {gs : List Nat} {ps : List Int} (hl : gs.length = ps.length) {g : Nat} {p : Int} (h : St w (Cs g (ndC p false false false ⟨none, 0, 0⟩ ⟨none, 0, 0⟩) tn :: UnS tn gs ps :: X)) : St w (UnS tn (gs ++ [g]) (ps ++ [p]) :: X) := by
 unfold UnS
 rw [List.zipWith_append hl]
 exact All.join (b := []) (All.nil h).dn2
theorem UnS.kids {d : Nat} : ∀ {gs : List Nat} {ks : List (Nd d)} {X : List As}, gs.length = ks.length → (∀ k ∈ ks, k.wr = false) → St w (UnS tn gs (ks.map (·.at_)) :: X) → St w (KidsS tn tp d gs ks :: X)
 | [], [], X, _, _, h => h
 | g :: gs, k :: ks, X, hl, hw, h => by
   have h1 : St w (Cs g (ndC k.at_ false false false ⟨none, 0, 0⟩ ⟨none, 0, 0⟩) tn :: As.all [] :: UnS tn gs (ks.map (·.at_)) :: X) := All.split (a := []) h
   have h2 := UnS.kids (X := Cs g (ndC k.at_ false false false ⟨none, 0, 0⟩ ⟨none, 0, 0⟩) tn :: X) (by simpa using hl) (fun q hq => hw q (List.mem_cons_of_mem _ hq)) (h1.d2.sw)
   have h3 : St w (NodeS tn tp d g k :: KidsS tn tp d gs ks :: X) := NodeU.s (St.whmk (hw k (List.mem_cons_self ..)) h2.sw)
   exact All.join (a := []) (All.nil h3).sw
 | [], _ :: _, _, hl, _, _ => by simp at hl
 | _ :: _, [], _, hl, _, _ => by simp at hl
end
end Go.Proofs.YtggachhkcmfijaaGreatDoor

/- Trees: what is given back is dropped (plain). -/
set_option linter.unusedVariables false
namespace Go.Proofs.YtggachhkcmfijaaGreatDoor
open Go Go.Vc Go.RowKit Go.Lib
theorem ats_nodup {D : DkV} {es : List Ent} (h : Have D es) : (es.map fun e => e.x.at_).Nodup := by
 have hnd := h.nd
 have hf : ∀ e ∈ es, e.x.at_ ∈ e.ps := fun e he => Ent.first (h.ok e he)
 clear h
 induction es with
 | nil => exact List.nodup_nil
 | cons e r ih =>
   rw [allP_cons] at hnd
   obtain ⟨n1, n2, n3⟩ := List.nodup_append.1 hnd
   rw [List.map_cons, List.nodup_cons]
   refine ⟨fun hm => ?_, ih n2 fun q hq => hf q (List.mem_cons_of_mem _ hq)⟩
   obtain ⟨q, hq, e1⟩ := List.mem_map.1 hm
   exact n3 _ (hf e (List.mem_cons_self ..)) _ (List.mem_flatMap.2 ⟨q, hq, e1 ▸ hf q (List.mem_cons_of_mem _ hq)⟩) rfl
/-- one that is given back is there -/
theorem drop_step {es : List Ent} {P o : List Int} {x : Int} (h : (es.map fun e => e.x.at_).Perm (P ++ x :: o)) : ∃ a e b, es = a ++ e :: b ∧ e.x.at_ = x ∧ ((a ++ b).map fun e => e.x.at_).Perm (P ++ o) := by
 have hm : x ∈ es.map fun e => e.x.at_ := h.mem_iff.2 (by simp)
 obtain ⟨e, he, rfl⟩ := List.mem_map.1 hm
 obtain ⟨a, b, rfl⟩ := List.append_of_mem he
 refine ⟨a, e, b, rfl, rfl, ?_⟩
 have h1 : (e.x.at_ :: (a ++ b).map fun e => e.x.at_).Perm (e.x.at_ :: (P ++ o)) := by
   refine List.Perm.trans ?_ (h.trans List.perm_middle)
   rw [List.map_append, List.map_append, List.map_cons]
   exact List.perm_middle.symm
 exact h1.cons_inv
/-- what stays there is there still -/
theorem Ch.stay {a b : List Ent} {e : Ent} {gen p tag : Int} {dt : Bs} (h : Ch (a ++ e :: b) gen p tag dt) (hp : p ≠ e.x.at_) : Ch (a ++ b) gen p tag dt := by
 obtain ⟨q, hq, h1, r⟩ := h
 refine ⟨q, ?_, h1, r⟩
 rcases List.mem_append.1 hq with h2 | h2
 · exact List.mem_append_left _ h2
 rcases List.mem_cons.1 h2 with rfl | h2
 · exact absurd h1.symm hp
 · exact List.mem_append_right _ h2
theorem Dk.stay {a b : List Ent} {e : Ent} {gen : Int} : ∀ {d : Nat} {A : Nd d}, Dk (a ++ e :: b) gen d A → e.x.at_ ∉ pl d A → Dk (a ++ b) gen d A
 | 0, A, h, hn => fun hw => (h hw).stay fun e => hn (by rw [pl_zero, e]; exact List.mem_singleton.2 rfl)
 | d + 1, A, h, hn => by
   rw [pl_succ] at hn
   refine ⟨fun hw => ⟨(h.1 hw).1.stay fun e => hn (by rw [e]; exact List.mem_cons_self ..), (h.1 hw).2⟩, fun k hk => Dk.stay (h.2 k hk) fun h2 => hn (List.mem_cons_of_mem _ (List.mem_flatMap.2 ⟨k, hk, h2⟩))⟩
theorem DkT.stay {a b : List Ent} {e : Ent} {gen : Int} : ∀ {t : Tree}, DkT (a ++ e :: b) gen t → e.x.at_ ∉ plT t → DkT (a ++ b) gen t
 | none, _, _ => trivial
 | some ⟨d, A⟩, h, hn => Dk.stay h hn
/-- nothing of a part is another one now -/
def Quiet' : (d : Nat) → Nd d → Prop
 | 0, A => A.wr = false
 | d + 1, A => A.wr = false ∧ ∀ k ∈ kidsOf A, Quiet' d k
theorem Quiet'.of {es : List Ent} {gen : Int} : ∀ {d : Nat} {A : Nd d}, Dk es gen d A → A.wr = false → Quiet' d A
 | 0, A, h, hw => hw
 | d + 1, A, h, hw => ⟨hw, fun k hk => Quiet'.of (h.2 k hk) ((h.1 hw).2 k hk)⟩
/-- places of what lies on the disk -/
theorem Quiet'.at_ {es : List Ent} {gen : Int} (hz : ∀ e ∈ es, e.x.at_ ≠ 0) : ∀ {d : Nat} {A : Nd d}, Dk es gen d A → A.wr = false → ∀ p ∈ pl d A, p ≠ 0
 | 0, A, h, hw, p, hp => by
   rw [pl_zero, List.mem_singleton] at hp
   obtain ⟨e, he, h1, _⟩ := h hw
   rw [hp, ← h1]; exact hz e he
 | d + 1, A, h, hw, p, hp => by
   rw [pl_succ] at hp
   rcases List.mem_cons.1 hp with rfl | hp
   · obtain ⟨e, he, h1, _⟩ := (h.1 hw).1
     rw [← h1]; exact hz e he
   · obtain ⟨k, hk, hp⟩ := List.mem_flatMap.1 hp
     exact Quiet'.at_ hz (h.2 k hk) ((h.1 hw).2 k hk) p hp
theorem nz_self {X : List Int} (h : ∀ p ∈ X, p ≠ 0) : nz X = X := List.filter_eq_self.2 fun p hp => by simpa using h p hp
/-- a tree on the disk: these are all chains that there are -/
structure TrD (es : List Ent) (gen root : Int) (L : List Ey) : Prop where
 tree : ∃ t : Tree, OkT t ∧ flatT t = L ∧ DkT es gen t ∧ Cov es (plT t) ∧ (match t with | none => root = 0 | some ⟨_, A⟩ => A.wr = false ∧ A.at_ = root ∧ root ≠ 0)
 gens : ∀ e ∈ es, e.x.gen = gen
 lens : ∀ e ∈ es, e.x.data.length ≤ 236
theorem TrD.empty (gen : Int) : TrD [] gen 0 [] := ⟨⟨none, trivial, rfl, trivial, List.Perm.refl _, rfl⟩, fun e h => (by cases h), fun e h => (by cases h)⟩
end Go.Proofs.YtggachhkcmfijaaGreatDoor

/- Trees: how many parts there are (plain). -/
set_option linter.unusedVariables false
namespace Go.Proofs.YtggachhkcmfijaaGreatDoor
open Go Go.Vc Go.RowKit Go.Lib
/-- fewer parts than entries -/
theorem nodes_le : ∀ {d : Nat} {A : Nd d}, Bd d A → 2 ≤ A.l.length → (pl d A).length + 1 ≤ (flat d A).length
 | 0, A, h, h2 => h2
 | d + 1, A, h, h2 => by
   have hl : A.l.length = (kidsOf A).length := by rw [h.1, keyL_len]
   have hk := KidsOk.of h
   have hall : ∀ ks : List (Nd d), (∀ k ∈ ks, Bd d k ∧ 3 ≤ k.l.length ∧ k.l.length ≤ 6) → (plL d ks).length + ks.length ≤ (flatL d ks).length := fun ks => by
     induction ks with
     | nil => intro _; simp [plL]
     | cons k r ih =>
       intro hb
       have h1 := ih fun q hq => hb q (List.mem_cons_of_mem _ hq)
       obtain ⟨b1, b3, _⟩ := hb k (List.mem_cons_self ..)
       have h2 := nodes_le b1 (by omega)
       rw [plL_cons, flatL_cons, List.length_append, List.length_append, List.length_cons]
       omega
   have := hall _ hk.bd
   rw [pl_succ, List.length_cons]
   show (plL d (kidsOf A)).length + 1 + 1 ≤ (flatL d (kidsOf A)).length
   omega
theorem nodesT_le : ∀ {t : Tree}, OkT t → (plT t).length ≤ (flatT t).length
 | none, _ => Nat.le_refl _
 | some ⟨0, A⟩, h => by
   have h2 := h.2.1
   show 1 ≤ A.l.length
   omega
 | some ⟨d + 1, A⟩, h => by
   have h2 := h.2.1
   have := nodes_le h.1 (by omega)
   show (pl (d + 1) A).length ≤ (flat (d + 1) A).length
   omega
end Go.Proofs.YtggachhkcmfijaaGreatDoor

/- Words that buckets and trees share. -/
set_option linter.unusedVariables false
namespace Go.Proofs.YtggachhkcmfijaaGreatDoor
open Go Go.Vc Go.RowKit Go.Lib Go.Maps
section
variable {w : World} {X : List As} {k g c cd : Nat} {D : DkV} {es : List Ent} {ps : List Int}
theorem InS.left {g : Nat} {l : Bs} (h : St w (InS g l 0 :: X)) {R : Int → World → Prop} (hR : R (l.length : Int) w) : F.bits_In_Left (some (blk g)) w R := by
 have ho := (InS.put h).1.obj
 apply E.bits_In_Left
 unfold V.bits_In_Left
 try simp -zeta only [ldC, soC, brC, bkA, slC, cnd_all, blk_add2, Nat.reduceAdd]
 refine ⟨_, by rw [blk_cell ho]; rfl, fun e => absurd rfl e, fun _ => ⟨_, by rw [blk_cell0 ho]; rfl, ?_⟩⟩
 rw [tx_size]; exact hR
theorem InS.fin {g : Nat} (h : St w (InS g [] 0 :: X)) {R : Int → World → Prop} (hR : ∀ w', St w' (InS g [] 0 :: X) → R 0 w') : F.bits_In_End (some (blk g)) w R := by
 have ho := (InS.put h).1.obj
 apply E.bits_In_End
 unfold V.bits_In_End
 try simp -zeta only [ldC, soC, brC, bkA, slC, cnd_all, blk_add2, Nat.reduceAdd]
 refine ⟨_, by rw [blk_cell ho]; rfl, fun _ => InS.rest h (by decide) fun w' h' => ⟨fun e => (by simp at e), fun _ => ⟨_, by rw [blk_cell (InS.put h').1.obj]; rfl, hR w' h'⟩⟩, fun e => absurd rfl e⟩
/-- another desk, of which only what is on it, and what is in use, is another one -/
def Sm (M D : DkV) : Prop := backD D M = M ∧ D.bs.length = M.bs.length
theorem Sm.refl (D : DkV) : Sm D D := ⟨rfl, rfl⟩
theorem Sm.trans {A B C : DkV} (h : Sm A B) (k : Sm B C) : Sm A C := by
 refine ⟨?_, k.2.trans h.2⟩
 have h1 := h.1
 have k1 := k.1
 cases A; cases B; cases C
 simp only [backD, DkV.mk.injEq] at h1 k1 ⊢
 exact ⟨k1.1.trans h1.1, k1.2.1.trans h1.2.1, k1.2.2.1.trans h1.2.2.1, k1.2.2.2.1.trans h1.2.2.2.1, trivial, trivial⟩
theorem Sm.drop (D : DkV) (zs : List Int) : Sm D (dropD D zs) := ⟨rfl, by unfold dropD; exact giveL_len _ _⟩
theorem Put_E2 (h : St w (DeskS k g c D :: X)) (hH : Have D es) {gen tag : Int} {b : Bs} (hg : 1 ≤ gen ∧ gen ≤ 3) (ht : 0 ≤ tag ∧ tag ≤ 200) (hb : b.length ≤ 9440) (hc : c ≤ 900000) (hf : needN b.length ≤ freeN D.bs) {R : Int → Int → World → Prop}
   (hR : ∀ w' D' e', e'.x.gen = gen → e'.x.tag = tag → e'.x.data = b → Sm D D' → Have D' (es ++ [e']) → St w' (DeskS k g (c + 40) D' :: X) → R e'.x.at_ 0 w') : F.chain_Put (some (blk k)) gen tag (tx b) w R := by
 refine Put_chain h hg ht hb hc (fun w' hlt _ => absurd hlt (by omega)) fun w' hle h' => ?_
 exact hR w' _ ⟨⟨placeP D (needN b.length) 0, gen, tag, 1, b⟩, linkP D gen tag b (needN b.length), placeP D (needN b.length)⟩ rfl rfl rfl ⟨putS_back _, by rw [putS_bs, takeN_len]⟩ (hH.put hg ht hb hle) h'
theorem Sort_I {sl : Sl} {zs : List Int} (h : St w (Row EI T.y_int sl zs :: X)) (hb : zs.length ≤ 1000000) {R : World → Prop}
   (hR : ∀ w', St w' (Row EI T.y_int sl (zs.mergeSort fun x y => decide (x ≤ y)) :: X) → R w') : F.slices_Sort_sl_int_int sl w R := by
 obtain ⟨S, ⟨hO, e⟩, _, hX⟩ := h.out
 subst e
 rw [EI_all] at hO
 exact Sort_ints hO (by omega) fun w' ho hf => hR w' (hX (A' := Row EI T.y_int sl _) ⟨by rw [EI_all]; exact ho, rfl⟩ hf fun j hj => .inl hj)
theorem sort_up {l : List Int} (h : l.Pairwise (· < ·)) : (l.mergeSort fun x y => decide (x ≤ y)) = l := mergeSort_up l (up_pw.2 h)
theorem okE.hash {x : Ey} (h : okE x) : x.s.length ≤ 1000000000 := by
 have := szN_le x.k.toNat
 have := h.2.1
 omega
end
end Go.Proofs.YtggachhkcmfijaaGreatDoor
