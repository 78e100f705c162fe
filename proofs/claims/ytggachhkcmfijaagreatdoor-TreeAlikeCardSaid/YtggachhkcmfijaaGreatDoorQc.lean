/- Trees: parts of slices; pointers; the bytes of a part, read and laid step by step (plain). -/
import Derived.Test.YtggachhkcmfijaaGreatDoorQz
set_option linter.unusedVariables false
namespace Go.Proofs.YtggachhkcmfijaaGreatDoor
open Go Go.Vc Go.RowKit Go.Lib
/-- a part of a slice -/
theorem Has.sub {α : Type} {En : Enc α} {w : World} {l : Sl} {xs : List α} (h : Has En w l xs) {i j c n : Nat} (hn : n = En.n) (hij : i ≤ j) (hj : j ≤ xs.length) (hc : l.len ≤ l.cap) : Has En w ⟨slA l.a l.cap i n, j - i, c⟩ ((xs.drop i).take (j - i)) := by
 subst hn
 refine ⟨by simp only [List.length_take, List.length_drop]; omega, fun k x hk => ?_⟩
 have hlt := (List.getElem?_eq_some_iff.1 hk).1
 rw [List.length_take, List.length_drop] at hlt
 rw [List.getElem?_take_of_lt (by omega), List.getElem?_drop] at hk
 obtain ⟨a, ha, hcl⟩ := h.2 (i + k) x hk
 have hl := h.1
 refine ⟨a.add (i * En.n), by unfold slA; rw [if_neg (by omega), ha]; rfl, fun m u hu => ?_⟩
 have := hcl m u hu
 rw [Vc.addr_add]
 have e : i * En.n + (k * En.n + m) = (i + k) * En.n + m := by rw [Nat.add_mul]; omega
 rw [e]; exact this
theorem NilOk.sub {l : Sl} (h : NilOk l) {i j n : Nat} (hij : i ≤ j) (hj : j ≤ l.len) (hc : l.len ≤ l.cap) : NilOk ⟨slA l.a l.cap i n, j - i, l.cap - i⟩ := by
 intro ha
 have ha : slA l.a l.cap i n = none := ha
 have hl : l.a = none := by
   unfold slA at ha
   split at ha
   · exact ha
   · cases hh : l.a with
     | none => rfl
     | some a => rw [hh] at ha; cases ha
 have hz := h hl
 subst hz
 simp only at hj hc ha ⊢
 have : i = 0 := by omega
 have : j = 0 := by omega
 subst this; subst i
 simp [slA]
/-! ### Bytes -/
def encB (lf : Bool) (ls : List Ey) (ats : List Int) : Bs := bif lf then encLf ls else encIn ls ats
def rowB (lf : Bool) (ls : List Ey) (ats : List Int) (j : Nat) : Bs := bif lf then (ls.take j).flatMap encE else ((ls.zip ats).take j).flatMap fun q => encE q.1 ++ leBytes 2 q.2
def lfB (lf : Bool) : UInt8 := bif lf then 1 else 0
def tailB (lf : Bool) (a : Option Int) : Bs := bif lf then [] else leBytes 2 (a.getD 0)
section
variable {lf : Bool} {ls : List Ey} {ats : List Int}
theorem rowB_zero : rowB lf ls ats 0 = [] := by cases lf <;> simp [rowB]
theorem rowB_succ {j : Nat} (hj : j < ls.length) (hl : lf = false → ats.length = ls.length) : rowB lf ls ats (j + 1) = rowB lf ls ats j ++ layPr ls[j].k.toNat ls[j].s ++ leBytes 2 ls[j].a ++ tailB lf ats[j]? := by
 cases lf with
 | true =>
   show (ls.take (j + 1)).flatMap encE = (ls.take j).flatMap encE ++ _ ++ _ ++ []
   rw [List.take_succ_eq_append_getElem hj, List.flatMap_append]
   simp [encE]
 | false =>
   have hl := hl rfl
   have hja : j < ats.length := by omega
   have hz : j < (ls.zip ats).length := by rw [List.length_zip]; omega
   show ((ls.zip ats).take (j + 1)).flatMap _ = ((ls.zip ats).take j).flatMap _ ++ _ ++ _ ++ leBytes 2 (ats[j]?.getD 0)
   rw [List.take_succ_eq_append_getElem hz, List.flatMap_append]
   simp [encE, hja]
theorem rowB_all (hl : lf = false → ats.length = ls.length) : lfB lf :: UInt8.ofNat ls.length :: rowB lf ls ats ls.length = encB lf ls ats := by
 cases lf with
 | true => show (1 : UInt8) :: _ :: (ls.take ls.length).flatMap encE = _; rw [List.take_length]; rfl
 | false =>
   have hl := hl rfl
   show (0 : UInt8) :: _ :: ((ls.zip ats).take ls.length).flatMap _ = encIn ls ats
   rw [List.take_of_length_le (by rw [List.length_zip]; omega)]; rfl
theorem encB_len (ho : ∀ x ∈ ls, okE x) (hl : lf = false → ats.length = ls.length) : (encB lf ls ats).length ≤ 2 + 37 * ls.length := by
 cases lf with
 | true =>
   have := encLf_len ho
   show (encLf ls).length ≤ _
   omega
 | false =>
   have := encIn_len (hl rfl).symm ho
   show (encIn ls ats).length ≤ _
   omega
/-- what is left to be read from an entry on -/
def restB (lf : Bool) (ls : List Ey) (ats : List Int) (j : Nat) : Bs := bif lf then (ls.drop j).flatMap encE else ((ls.zip ats).drop j).flatMap fun q => encE q.1 ++ leBytes 2 q.2
theorem restB_zero : lfB lf :: UInt8.ofNat ls.length :: restB lf ls ats 0 = encB lf ls ats := by cases lf <;> rfl
theorem restB_end (hl : lf = false → ats.length = ls.length) : restB lf ls ats ls.length = [] := by
 cases lf with
 | true => show (ls.drop ls.length).flatMap encE = []; rw [List.drop_length]; rfl
 | false =>
   show ((ls.zip ats).drop ls.length).flatMap _ = []
   rw [List.drop_of_length_le (by rw [List.length_zip]; omega)]; rfl
theorem restB_step {j : Nat} (hj : j < ls.length) (hl : lf = false → ats.length = ls.length) : restB lf ls ats j = encE ls[j] ++ (tailB lf ats[j]? ++ restB lf ls ats (j + 1)) := by
 cases lf with
 | true =>
   show (ls.drop j).flatMap encE = encE ls[j] ++ ([] ++ (ls.drop (j + 1)).flatMap encE)
   rw [List.drop_eq_getElem_cons hj, List.flatMap_cons]; rfl
 | false =>
   have hl := hl rfl
   have hja : j < ats.length := by omega
   have hz : j < (ls.zip ats).length := by rw [List.length_zip]; omega
   show ((ls.zip ats).drop j).flatMap _ = encE ls[j] ++ (leBytes 2 (ats[j]?.getD 0) ++ ((ls.zip ats).drop (j + 1)).flatMap _)
   rw [List.drop_eq_getElem_cons hz, List.flatMap_cons]
   simp [hja]
theorem restB_len (ho : ∀ x ∈ ls, okE x) (hl : lf = false → ats.length = ls.length) : ∀ j, (restB lf ls ats j).length ≤ 37 * ls.length := fun j => by
 have h0 : ∀ n, (∀ m, m + n = ls.length → (restB lf ls ats m).length ≤ 37 * n) := fun n => by
   induction n with
   | zero =>
     intro m hm
     have : m = ls.length := by omega
     subst this
     rw [restB_end hl]; simp
   | succ n ih =>
     intro m hm
     have h1 := ih (m + 1) (by omega)
     rw [restB_step (j := m) (by omega) hl, List.length_append, List.length_append, encE_len (ho _ (List.getElem_mem _))]
     have : (tailB lf ats[m]?).length ≤ 2 := by
       cases lf with
       | true => exact Nat.zero_le _
       | false => show (leBytes 2 _).length ≤ 2; rw [leBytes_len]; exact Nat.le_refl _
     omega
 rcases Nat.le_total j ls.length with h | h
 · have := h0 (ls.length - j) j (by omega)
   omega
 · have e : restB lf ls ats j = [] := by
     cases lf with
     | true => show (ls.drop j).flatMap encE = []; rw [List.drop_of_length_le h]; rfl
     | false => show ((ls.zip ats).drop j).flatMap _ = []; rw [List.drop_of_length_le (by rw [List.length_zip]; omega)]; rfl
   rw [e]; simp
end
theorem lfB_byte (lf : Bool) (r : Bs) : lowIn 1 (lfB lf :: r) 0 = ((bif lf then 1 else 0 : Int), r, 0) := by
 rw [lowIn_at (by decide) (by simp)]
 cases lf <;> rfl
theorem len_byte {n : Nat} (hn : n ≤ 255) (r : Bs) : lowIn 1 (UInt8.ofNat n :: r) 0 = ((n : Int), r, 0) := by
 rw [lowIn_at (by decide) (by simp)]
 show ((((UInt8.ofNat n).toNat + 256 * 0 : Nat) : Int), r, 0) = _
 have : (UInt8.ofNat n).toNat = n := by
   rw [UInt8.toNat_ofNat']
   exact Nat.mod_eq_of_lt (by omega)
 rw [this]; rfl
end Go.Proofs.YtggachhkcmfijaaGreatDoor

/- Trees in memory: what can be seen of a part; parts that were all read. -/
set_option linter.unusedVariables false
namespace Go.Proofs.YtggachhkcmfijaaGreatDoor
open Go Go.Vc Go.RowKit Go.Lib
section
variable {tn tp : TypeId} {w : World} {X : List As} {d g : Nat}
/-- what can be seen of a part -/
structure Seen {α : Type} (w : World) (g : Nat) (A : NdF α) (b lf : Bool) (l k : Sl) : Prop where
 c0 : w.cell? (blk g) = some (.int .i64 A.at_)
 c1 : w.cell? ((blk g).add 1) = some (.bool b)
 c2 : w.cell? ((blk g).add 2) = some (.bool lf)
 c3 : w.cell? ((blk g).add 3) = some (.bool A.wr)
 c4 : w.cell? ((blk g).add 4) = some (.slice l.a l.len l.cap)
 c5 : w.cell? ((blk g).add 5) = some (.slice k.a k.len k.cap)
 has : b = true → Has EE w l A.l
 no : b = false → l = ⟨none, 0, 0⟩ ∧ A.wr = false
theorem NodeR.see {A : Nd d} (h : St w (NodeR tn tp d g A :: X)) : ∃ l k, Seen w g A true (decide (d = 0)) l k := by
 cases d with
 | zero =>
   obtain ⟨l, q⟩ := NodeR.leaf h
   exact ⟨l, ⟨none, 0, 0⟩, q.cell0, q.cell 1, q.cell 2, q.cell 3, q.cell 4, q.cell 5, fun _ => St.has q.sw (by decide), fun h => (by cases h)⟩
 | succ d =>
   obtain ⟨l, k, gs, _, q⟩ := NodeR.kids h
   exact ⟨l, k, q.cell0, q.cell 1, q.cell 2, q.cell 3, q.cell 4, q.cell 5, fun _ => St.has q.sw (by decide), fun h => (by cases h)⟩
theorem NodeU.see {A : Nd d} (h : St w (NodeU tn d g A :: X)) : ∃ l k, Seen w g A false false l k := by
 obtain ⟨hw, q⟩ := h.wh
 exact ⟨⟨none, 0, 0⟩, ⟨none, 0, 0⟩, q.cell0, q.cell 1, q.cell 2, by rw [hw]; exact q.cell 3, q.cell 4, q.cell 5, fun h => (by cases h), fun _ => ⟨rfl, hw⟩⟩
theorem NodeS.see {A : Nd d} (h : St w (NodeS tn tp d g A :: X)) : ∃ b lf l k, Seen w g A b lf l k := by
 rcases NodeS.or h with q | q
 · obtain ⟨l, k, s⟩ := NodeR.see q
   exact ⟨_, _, l, k, s⟩
 · obtain ⟨l, k, s⟩ := NodeU.see q
   exact ⟨_, _, l, k, s⟩
theorem KidsS.see {gs : List Nat} {ks : List (Nd d)} (hl : gs.length = ks.length) {i : Nat} (hi : i < ks.length) (h : St w (KidsS tn tp d gs ks :: X)) : ∃ b lf l k, Seen w (gs[i]'(by omega)) ks[i] b lf l k := NodeS.see (KidsS.out hl hi h)
variable (tn tp) in
/-- parts that were all read -/
abbrev KidsR (d : Nat) (gs : List Nat) (ks : List (Nd d)) : As := As.all (List.zipWith (NodeR tn tp d) gs ks)
theorem KidsR.out {gs : List Nat} {ks : List (Nd d)} (hl : gs.length = ks.length) {i : Nat} (hi : i < ks.length) (h : St w (KidsR tn tp d gs ks :: X)) :
   St w (NodeR tn tp d (gs[i]'(by omega)) ks[i] :: KidsR tn tp d (gs.take i) (ks.take i) :: KidsR tn tp d (gs.drop (i + 1)) (ks.drop (i + 1)) :: X) := by
 unfold KidsR at h
 rw [zip_cut _ hl hi] at h
 exact All.split h
theorem KidsR.see {gs : List Nat} {ks : List (Nd d)} (hl : gs.length = ks.length) {i : Nat} (hi : i < ks.length) (h : St w (KidsR tn tp d gs ks :: X)) : ∃ l k, Seen w (gs[i]'(by omega)) ks[i] true (decide (d = 0)) l k := NodeR.see (KidsR.out hl hi h)
theorem KidsR.s : ∀ {gs : List Nat} {ks : List (Nd d)} {X : List As}, gs.length = ks.length → St w (KidsR tn tp d gs ks :: X) → St w (KidsS tn tp d gs ks :: X)
 | [], [], X, _, h => h
 | g :: gs, k :: ks, X, hl, h => by
   have h1 : St w (NodeR tn tp d g k :: As.all [] :: KidsR tn tp d gs ks :: X) := All.split (a := []) h
   have h2 := KidsR.s (gs := gs) (ks := ks) (X := NodeR tn tp d g k :: X) (by simpa using hl) (h1.d2.sw)
   have h3 : St w (NodeS tn tp d g k :: KidsS tn tp d gs ks :: X) := NodeR.s h2.sw
   exact All.join (a := []) (All.nil h3).sw
 | [], _ :: _, _, hl, _ => by simp at hl
 | _ :: _, [], _, hl, _ => by simp at hl
theorem KidsR.one {k : Nd d} (h : St w (NodeR tn tp d g k :: X)) : St w (KidsR tn tp d [g] [k] :: X) := All.join (a := []) (b := []) (All.nil (All.nil h)).up2
theorem KidsR.two {a b : Nd d} {u v : Nat} (h : St w (NodeR tn tp d u a :: NodeR tn tp d v b :: X)) : St w (KidsR tn tp d [u, v] [a, b] :: X) := by
 have h1 := KidsR.one h.sw
 exact All.join (a := []) (b := [NodeR tn tp d v b]) (All.nil (h1.sw)).sw
/-- parts of which some were read -/
theorem KidsS.mid {us vs bs : List Nat} {ps qs rs : List (Nd d)} (h1 : us.length = ps.length) (h2 : vs.length = qs.length) (h : St w (KidsS tn tp d us ps :: KidsR tn tp d vs qs :: KidsS tn tp d bs rs :: X)) : St w (KidsS tn tp d (us ++ vs ++ bs) (ps ++ qs ++ rs) :: X) := by
 have q := KidsR.s h2 h.sw
 exact KidsS.app (by rw [List.length_append, List.length_append, h1, h2]) (KidsS.app h1 q.sw)
end
variable (tn tp : TypeId) in
/-- a part that may be none -/
def OptN (d : Nat) : Option Nat → Option (Nd d) → As
 | some g, some m => NodeR tn tp d g m
 | none, none => As.all []
 | _, _ => As.wh False (As.all [])
def ptO (o : Option Nat) : Option Addr := o.map blk
section
variable {tn tp : TypeId} {w : World} {X : List As} {d : Nat}
theorem OptN.none_ (h : St w X) : St w (OptN tn tp d none none :: X) := All.nil h
theorem OptN.cases {o : Option Nat} {m : Option (Nd d)} (h : St w (OptN tn tp d o m :: X)) : (o = none ∧ m = none ∧ St w X) ∨ ∃ g n, o = some g ∧ m = some n ∧ St w (NodeR tn tp d g n :: X) := by
 cases o with
 | none =>
   cases m with
   | none => exact .inl ⟨rfl, rfl, h.drop⟩
   | some n => exact (h.wh).1.elim
 | some g =>
   cases m with
   | none => exact (h.wh).1.elim
   | some n => exact .inr ⟨g, n, rfl, rfl, h⟩
end
end Go.Proofs.YtggachhkcmfijaaGreatDoor

/- Trees: a tree that is worked on; what is saved; what is dropped behind it (plain). -/
set_option linter.unusedVariables false
namespace Go.Proofs.YtggachhkcmfijaaGreatDoor
open Go Go.Vc Go.RowKit Go.Lib Go.Maps
theorem nz_id {X : List Int} : nz (nz X) = nz X := List.filter_eq_self.2 fun p hp => (List.mem_filter.1 hp).2
theorem nz_count {X : List Int} {p : Int} (h : p ≠ 0) : (nz X).count p = X.count p := List.count_filter (by simpa using h)
theorem ats_nz {D : DkV} {es : List Ent} (hH : Have D es) : nz (es.map fun e => e.x.at_) = es.map fun e => e.x.at_ := nz_self fun p hp => by
 obtain ⟨e, he, rfl⟩ := List.mem_map.1 hp
 have := hH.at_ he
 omega
/-- a tree that is worked on: what lies on the disk of it, what was given back -/
structure MTr (D : DkV) (es : List Ent) (gen : Int) (T : Tree) (ol : List Int) (L : List Ey) : Prop where
 hv : Have D es
 ok : OkT T
 fl : flatT T = L
 dk : DkT es gen T
 cov : Cov es (plT T ++ ol)
 gens : ∀ e ∈ es, e.x.gen = gen
 lens : ∀ e ∈ es, e.x.data.length ≤ 236
 olz : nz ol = ol
section
variable {D : DkV} {es : List Ent} {gen root : Int} {T : Tree} {ol : List Int} {L : List Ey}
theorem MTr.good (h : MTr D es gen T ol L) : GoodE L := ⟨h.fl ▸ h.ok.srt, fun x hx => h.ok.ok x (h.fl ▸ hx)⟩
theorem cov_count (h : Cov es (plT T ++ ol)) {T' : Tree} {ol' : List Int} (hc : ∀ p, p ≠ 0 → (plT T').count p + ol'.count p = (plT T).count p + ol.count p) : Cov es (plT T' ++ ol') :=
 h.trans (nz_perm fun p hp => by rw [List.count_append, List.count_append, hc p hp])
theorem MTr.add {x : Ey} (h : MTr D es gen T ol L) (hx : okE x) (hn : x ∉ L) : MTr D es gen (addT T x) ol (insE L x) := by
 obtain ⟨a1, a2⟩ := addT_ok h.ok hx (by rw [h.fl]; exact hn)
 exact ⟨h.hv, a1, by rw [a2, h.fl], addT_dk x h.dk, cov_count h.cov fun p hp => by rw [addT_cn hp], h.gens, h.lens, h.olz⟩
theorem TrD.few (h : TrD es gen root L) : es.length ≤ L.length := by
 obtain ⟨t, h1, h2, _, h4, _⟩ := h.tree
 have := h4.len
 have h6 := nodesT_le h1
 rw [h2] at h6
 omega
end
/-! ### What is saved -/
/-- what a part is behind its being saved -/
structure Sv (D : DkV) (es : List Ent) (gen : Int) {d : Nat} (A : Nd d) (ol : List Int) (D' : DkV) (es' : List Ent) (A' : Nd d) (ol' : List Int) : Prop where
 like : Like d A A'
 wr : A'.wr = false
 dk : Dk es' gen d A'
 hv : Have D' es'
 sm : Sm D D'
 sub : ∀ e ∈ es, e ∈ es'
 few : es.length ≤ es'.length ∧ es'.length ≤ es.length + (pl d A).length
 new : ∀ e ∈ es', e ∈ es ∨ (e.x.gen = gen ∧ e.x.data.length ≤ 236)
 cn : ∀ p, p ≠ 0 → (pl d A').count p + ol'.count p + (es.map fun e => e.x.at_).count p = (pl d A).count p + ol.count p + (es'.map fun e => e.x.at_).count p
 olz : nz ol = ol → nz ol' = ol'
/-- what several parts beside each other are, of which the first m were saved -/
structure SvL (D : DkV) (es : List Ent) (gen : Int) {d : Nat} (ks : List (Nd d)) (ol : List Int) (m : Nat) (D' : DkV) (es' : List Ent) (ks' : List (Nd d)) (ol' : List Int) : Prop where
 len : ks'.length = ks.length
 rest : ∀ i, m ≤ i → ks'[i]? = ks[i]?
 like : ∀ (i : Nat) (a b : Nd d), ks[i]? = some a → ks'[i]? = some b → Like d a b
 wr : ∀ (i : Nat) (b : Nd d), i < m → ks'[i]? = some b → b.wr = false
 dk : ∀ k ∈ ks', Dk es' gen d k
 hv : Have D' es'
 sm : Sm D D'
 sub : ∀ e ∈ es, e ∈ es'
 few : es.length ≤ es'.length ∧ es'.length ≤ es.length + (plL d (ks.take m)).length
 new : ∀ e ∈ es', e ∈ es ∨ (e.x.gen = gen ∧ e.x.data.length ≤ 236)
 cn : ∀ p, p ≠ 0 → (plL d ks').count p + ol'.count p + (es.map fun e => e.x.at_).count p = (plL d ks).count p + ol.count p + (es'.map fun e => e.x.at_).count p
 olz : nz ol = ol → nz ol' = ol'
section
variable {D D' D'' : DkV} {es es' es'' : List Ent} {gen : Int} {d : Nat} {ol ol' ol'' : List Int}
theorem Sv.none_ {A : Nd d} (hH : Have D es) (hD : Dk es gen d A) (hw : A.wr = false) : Sv D es gen A ol D es A ol :=
 ⟨Like.refl A, hw, hD, hH, Sm.refl D, fun _ h => h, ⟨Nat.le_refl _, Nat.le_add_right _ _⟩, fun _ h => .inl h, fun p _ => rfl, fun h => h⟩
theorem SvL.zero {ks : List (Nd d)} (hH : Have D es) (hD : ∀ k ∈ ks, Dk es gen d k) : SvL D es gen ks ol 0 D es ks ol :=
 ⟨rfl, fun _ _ => rfl, fun i a b ha hb => by
   rw [ha] at hb
   injection hb with hb
   subst hb; exact Like.refl a, fun i b h _ => absurd h (Nat.not_lt_zero _), hD, hH, Sm.refl D, fun _ h => h, ⟨Nat.le_refl _, Nat.le_add_right _ _⟩, fun _ h => .inl h, fun p _ => rfl, fun h => h⟩
theorem SvL.next {ks ks' : List (Nd d)} {m : Nat} (h : SvL D es gen ks ol m D' es' ks' ol') (hm : m < ks'.length) {A' : Nd d} (hs : Sv D' es' gen ks'[m] ol' D'' es'' A' ol'') : SvL D es gen ks ol (m + 1) D'' es'' (ks'.set m A') ol'' := by
 have hl := h.len
 have hkm : ks[m]? = some ks'[m] := by rw [← h.rest m (Nat.le_refl _), List.getElem?_eq_getElem hm]
 have hlt : m < ks.length := by omega
 have hkm' : ks'[m] = ks[m] := by rw [List.getElem?_eq_getElem hlt] at hkm; injection hkm with e; exact e.symm
 have hcs : ∀ (p : Int) (r : Nd d), (plL d (ks'.set m r)).count p = (plL d (ks'.take m)).count p + (pl d r).count p + (plL d (ks'.drop (m + 1))).count p := fun p r => by
   rw [List.set_eq_take_append_cons_drop, if_pos hm, cn_app, cn_cons]; omega
 refine ⟨by rw [List.length_set]; exact hl, fun i hi => ?_, fun i a b ha hb => ?_, fun i b hi hb => ?_, fun k hk => ?_, hs.hv, h.sm.trans hs.sm, fun e he => hs.sub e (h.sub e he), ?_, fun e he => ?_, fun p hp => ?_, fun h0 => hs.olz (h.olz h0)⟩
 · rw [List.getElem?_set_ne (by omega)]; exact h.rest i (by omega)
 · by_cases c : i = m
   · subst c
     rw [List.getElem?_set_self hm] at hb
     injection hb with hb
     subst hb
     rw [hkm] at ha
     injection ha with ha
     subst ha; exact hs.like
   · rw [List.getElem?_set_ne (Ne.symm c)] at hb
     exact h.like i a b ha hb
 · by_cases c : i = m
   · subst c
     rw [List.getElem?_set_self hm] at hb
     injection hb with hb
     subst hb; exact hs.wr
   · rw [List.getElem?_set_ne (Ne.symm c)] at hb
     exact h.wr i b (by omega) hb
 · rcases List.mem_or_eq_of_mem_set hk with h1 | rfl
   · exact Dk.mono hs.sub (h.dk k h1)
   · exact hs.dk
 · have h1 := h.few
   have h2 := hs.few
   rw [List.take_succ_eq_append_getElem hlt, plL_app, List.length_append, plL_cons, plL_nil, List.append_nil, ← hkm']
   omega
 · rcases hs.new e he with h1 | h1
   · exact h.new e h1
   · exact .inr h1
 · have h1 := h.cn p hp
   have h2 := hs.cn p hp
   have h3 := cn_split (p := p) hm
   rw [hcs]
   omega
/-- a part whose children were all saved is written -/
theorem Sv.put {A : Nd (d + 1)} {ks' : List (Nd d)} (hD : Dk es gen (d + 1) A) (h : SvL D es gen (kidsOf A) ol (kidsOf A).length D' es' ks' ol') {e : Ent} (hH : Have D'' (es' ++ [e])) (hS : Sm D' D'') (hg : e.x.gen = gen) (ht : e.x.tag = 4) (hd : e.x.data = encIn A.l (ks'.map (·.at_))) (hn : e.x.data.length ≤ 236) :
   Sv D es gen A ol D'' (es' ++ [e]) (⟨e.x.at_, false, A.l, ks'⟩ : Nd (d + 1)) (ol' ++ nz [A.at_]) := by
 have hat := hH.at_ (e := e) (by simp)
 have hf := h.few
 refine ⟨⟨rfl, h.len.symm, h.like⟩, rfl, ⟨fun _ => ⟨⟨e, by simp, rfl, hg, ht, hd⟩, fun k hk => ?_⟩, fun k hk => Dk.mono (fun e he => List.mem_append_left _ he) (h.dk k hk)⟩, hH, h.sm.trans hS, fun x hx => List.mem_append_left _ (h.sub x hx), ?_, fun x hx => ?_, fun p hp => ?_, fun h0 => by rw [nz_app, h.olz h0, nz_id]⟩
 · obtain ⟨i, hi, rfl⟩ := List.mem_iff_getElem.1 hk
   have hi : i < ks'.length := hi
   exact h.wr i ks'[i] (by rw [← h.len]; exact hi) (List.getElem?_eq_getElem hi)
 · rw [List.take_length] at hf
   rw [List.length_append, List.length_singleton, pl_succ, List.length_cons]
   omega
 · rcases List.mem_append.1 hx with h1 | h1
   · exact h.new x h1
   · rw [List.mem_singleton] at h1
     subst h1; exact .inr ⟨hg, hn⟩
 · have h1 := h.cn p hp
   have e1 : pl (d + 1) (⟨e.x.at_, false, A.l, ks'⟩ : Nd (d + 1)) = e.x.at_ :: plL d ks' := rfl
   rw [e1, pl_succ, List.map_append, List.count_append, List.count_append, nz_count hp]
   simp only [List.count_cons, List.count_nil, List.map_cons, List.map_nil]
   omega
theorem Sv.put0 {A : Nd 0} (hH0 : Have D es) {e : Ent} (hH : Have D'' (es ++ [e])) (hS : Sm D D'') (hg : e.x.gen = gen) (ht : e.x.tag = 4) (hd : e.x.data = encLf A.l) (hn : e.x.data.length ≤ 236) :
   Sv D es gen A ol D'' (es ++ [e]) (⟨e.x.at_, false, A.l, A.ks⟩ : Nd 0) (ol ++ nz [A.at_]) := by
 refine ⟨rfl, rfl, fun _ => ⟨e, by simp, rfl, hg, ht, hd⟩, hH, hS, fun x hx => List.mem_append_left _ hx, ?_, fun x hx => ?_, fun p hp => ?_, fun h0 => by rw [nz_app, h0, nz_id]⟩
 · rw [List.length_append, List.length_singleton, pl_zero, List.length_singleton]
   omega
 · rcases List.mem_append.1 hx with h1 | h1
   · exact .inl h1
   · rw [List.mem_singleton] at h1
     subst h1; exact .inr ⟨hg, hn⟩
 · have e1 : pl 0 (⟨e.x.at_, false, A.l, A.ks⟩ : Nd 0) = [e.x.at_] := rfl
   rw [e1, pl_zero, List.map_append, List.count_append, List.count_append, nz_count hp, List.map_singleton]
   omega
end
/-- what lies there behind the saving, less what was given back already -/
structure Dn (D : DkV) (gen : Int) (T : Tree) (ol : List Int) (D1 : DkV) (es1 : List Ent) : Prop where
 hv : Have D1 es1
 sm : Sm D D1
 dk : DkT es1 gen T
 cov : (es1.map fun e => e.x.at_).Perm (plT T ++ ol)
 gens : ∀ e ∈ es1, e.x.gen = gen
 lens : ∀ e ∈ es1, e.x.data.length ≤ 236
theorem Dn.step {D D1 : DkV} {gen x : Int} {T : Tree} {ol : List Int} {es1 : List Ent} (h : Dn D gen T (x :: ol) D1 es1) : ∃ a e b, es1 = a ++ e :: b ∧ e.x.at_ = x ∧ (Have (dropD D1 e.ps) (a ++ b) → Dn D gen T ol (dropD D1 e.ps) (a ++ b)) := by
 obtain ⟨a, e, b, h1, h2, h3⟩ := drop_step h.cov
 refine ⟨a, e, b, h1, h2, fun hH => ?_⟩
 have hs : ∀ q ∈ a ++ b, q ∈ es1 := fun q hq => by
   rw [h1]
   rcases List.mem_append.1 hq with h | h
   · exact List.mem_append_left _ h
   · exact List.mem_append_right _ (List.mem_cons_of_mem _ h)
 have hnd := h.cov.nodup_iff.1 (ats_nodup h.hv)
 have hx : x ∉ plT T := fun hx => (List.nodup_append.1 hnd).2.2 x hx x (List.mem_cons_self ..) rfl
 have hdk := h.dk
 rw [h1] at hdk
 exact ⟨hH, h.sm.trans (Sm.drop _ _), DkT.stay hdk (by rw [h2]; exact hx), h3, fun q hq => h.gens q (hs q hq), fun q hq => h.lens q (hs q hq)⟩
theorem Dn.of {D D' : DkV} {es es' : List Ent} {gen : Int} {d : Nat} {A A' : Nd d} {ol ol' : List Int} {L : List Ey} (h : MTr D es gen (some ⟨d, A⟩) ol L) (hs : Sv D es gen A ol D' es' A' ol') : Dn D gen (some ⟨d, A'⟩) ol' D' es' := by
 have hq := Quiet'.of hs.dk hs.wr
 refine ⟨hs.hv, hs.sm, hs.dk, ?_, fun e he => (hs.new e he).elim (h.gens e) (·.1), fun e he => (hs.new e he).elim (h.lens e) (·.2)⟩
 have hp := Quiet'.at_ (es := es') (gen := gen) (fun e he => by have := hs.hv.at_ he; omega) hs.dk hs.wr
 have e1 : nz (plT (some ⟨d, A'⟩) ++ ol') = plT (some ⟨d, A'⟩) ++ ol' := by
   rw [nz_app, hs.olz h.olz]
   exact congrArg (· ++ ol') (nz_self hp)
 rw [← ats_nz hs.hv, ← e1]
 refine nz_perm fun p hp => ?_
 have h1 := hs.cn p hp
 have h2 := (List.perm_iff_count.1 h.cov) p
 rw [nz_count hp, List.count_append] at h2
 have h3 : (plT (some ⟨d, A⟩)).count p = (pl d A).count p := rfl
 have h4 : (plT (some ⟨d, A'⟩)).count p = (pl d A').count p := rfl
 rw [List.count_append]
 omega
theorem Dn.none_ {D : DkV} {es : List Ent} {gen : Int} {ol : List Int} {L : List Ey} (h : MTr D es gen none ol L) : Dn D gen none ol D es :=
 ⟨h.hv, Sm.refl D, trivial, by
   have h2 := h.cov
   unfold Cov at h2
   rw [nz_app, h.olz] at h2; exact h2, h.gens, h.lens⟩
/-- where a tree's root lies -/
def RootT : Tree → Int → Prop
 | none, root => root = 0
 | some ⟨_, A⟩, root => A.wr = false ∧ A.at_ = root ∧ root ≠ 0
theorem Dn.end_ {D D1 : DkV} {gen root : Int} {T : Tree} {es1 : List Ent} {L : List Ey} (h : Dn D gen T [] D1 es1) (hT : OkT T) (hL : flatT T = L) (hr : RootT T root) : TrD es1 gen root L :=
 ⟨⟨T, hT, hL, h.dk, by
   have h2 := h.cov
   rw [List.append_nil] at h2
   unfold Cov
   rw [← ats_nz h.hv]
   exact nz_perm fun p _ => (List.perm_iff_count.1 h2) p, by
   cases T with
   | none => exact hr
   | some q => exact hr⟩, h.gens, h.lens⟩
theorem OkT.like {d : Nat} {A A' : Nd d} (h : OkT (some ⟨d, A⟩)) (hl : Like d A A') : OkT (some ⟨d, A'⟩) ∧ flatT (some ⟨d, A'⟩) = flatT (some ⟨d, A⟩) :=
 ⟨⟨hl.bd h.1, by rw [← hl.l]; exact h.2.1, by rw [← hl.l]; exact h.2.2⟩, hl.flat.symm⟩
end Go.Proofs.YtggachhkcmfijaaGreatDoor
