/- slices of entries: Index, Contains, Clone, BinarySearchFunc. -/
import Derived.Test.YtggachhkcmfijaaGreatDoorEe
import Derived.Test.YtggachhkcmfijaaGreatDoorBq
set_option linter.unusedVariables false
namespace Go.Proofs.YtggachhkcmfijaaGreatDoor
open Go Go.Vc Go.RowKit Go.Lib
section
variable {w : World} {X : List As}
theorem ey_eq (x y : Ey) : ((x.k == y.k) && (sEq (tx x.s) (tx y.s) && ((x.a == y.a) && true))) = decide (x = y) := by
 rw [tx_eq, Bool.eq_iff_iff]
 cases x; cases y
 simp only [Bool.and_true, Bool.and_eq_true, beq_iff_eq, decide_eq_true_eq, Ey.mk.injEq]
theorem app_ey {l sl : Sl} {xs ys : List Ey} (h : St w (Row EE T.y_api_Entry l xs :: X)) (hs : Has EE w sl ys) {a : Addr} (ha : sl.a = some a) (hb : xs.length + ys.length ≤ 1000000) {R : Sl → World → Prop}
   (hR : ∀ l' w', St w' (Row EE T.y_api_Entry l' (xs ++ ys) :: X) → R l' w') : RunT Pg (Builtin.append_ #[T.y_sl_api_Entry, T.y_sl_api_Entry] T.y_sl_api_Entry #[.slice l.a l.len l.cap, .slice (some a) sl.len sl.cap]) [.one .slice] w R :=
 St.app elt_ey h hs ha (by omega) (by omega) fun l' w' h' _ => hR l' w' h'
theorem app1_ey {l : Sl} {xs : List Ey} {y : Ey} {g c : Nat} (h : St w (Cs g [.int .i64 y.k, .string (tx y.s), .int .i64 y.a] T.y_api_Entry :: Row EE T.y_api_Entry l xs :: X)) (hb : xs.length ≤ 100000) {R : Sl → World → Prop}
   (hR : ∀ l' w', St w' (Row EE T.y_api_Entry l' (xs ++ [y]) :: X) → R l' w') : RunT Pg (Builtin.append_ #[T.y_sl_api_Entry, T.y_sl_api_Entry] T.y_sl_api_Entry #[.slice l.a l.len l.cap, .slice (some (blk g)) 1 c]) [.one .slice] w R :=
 app_ey (sl := ⟨some (blk g), 1, c⟩) h.sw (h.lit (En := EE) (xs := [y]) rfl rfl c) rfl (by simp; omega) fun l' w' h' => hR l' w' h'.d2
theorem Clone_ey (h : St w X) {sl : Sl} {xs : List Ey} (hx : ∀ w', St w' X → Has EE w' sl xs) (hn : NilOk sl) (hb : xs.length ≤ 1000000) {R : Sl → World → Prop}
   (hR : ∀ l w', St w' (Row EE T.y_api_Entry l xs :: X) → R l w') : F.slices_Clone_sl_api_Entry_api_Entry sl w R := by
 apply E.slices_Clone_sl_api_Entry_api_Entry
 unfold V.slices_Clone_sl_api_Entry_api_Entry
 try simp -zeta only [ldC, soC, brC, bkA, slC, cnd_all, blk_add2, Nat.reduceAdd]
 refine ⟨fun he => ?_, fun hs => ?_⟩
 · have ha : sl.a = none := by simpa using he
   have hz := hn ha
   have : xs = [] := List.eq_nil_of_length_eq_zero (by rw [← (hx w h).1, hz])
   subst this
   exact hR _ _ (h.row0 EE T.y_api_Entry)
 · obtain ⟨a, ha⟩ : ∃ a, sl.a = some a := by
     cases hc : sl.a with
     | none => rw [hc] at hs; cases hs
     | some a => exact ⟨a, rfl⟩
   refine St.al h fun wa1 h => ?_
   have h2 := St.rowLit h (En := EE) (xs := []) (n := 0) rfl rfl (by decide)
   have hx2 := hx _ h.drop
   rw [ha]
   exact app_ey (l := ⟨some (blk w.heap.size), 0, 0⟩) (xs := []) h2 hx2 ha (by simp only [List.length_nil]; omega) hR
set_option maxHeartbeats 1000000 in
/-- the place of an entry -/
theorem Search_ey (h : St w X) {sl : Sl} {xs : List Ey} (hx : ∀ w', St w' X → Has EE w' sl xs) (hs : Srt xs) (hb : xs.length ≤ 1000000) {x : Ey} {R : Int → Bool → World → Prop}
   (hR : ∀ w', St w' X → R (cntE xs x : Int) (decide (x ∈ xs)) w') : F.slices_BinarySearchFunc_sl_api_Entry_api_Entry_api_Entry sl x.k (tx x.s) x.a (.func (.func 103) #[] #[]) w R := by
 apply E.slices_BinarySearchFunc_sl_api_Entry_api_Entry_api_Entry
 unfold V.slices_BinarySearchFunc_sl_api_Entry_api_Entry_api_Entry
 try simp -zeta only [ldC, soC, brC, bkA, slC, cnd_all, blk_add2, Nat.reduceAdd]
 have h1 := (hx w h).1
 refine St.al h fun wa1 h => ?_
 generalize w.heap.size = g at *
 refine ⟨fun i j w' => ∃ a b : Nat, i = a ∧ j = b ∧ a ≤ b ∧ b ≤ xs.length ∧ (∀ k (hk : k < xs.length), k < a → ltE xs[k] x) ∧ (∀ k (hk : k < xs.length), b ≤ k → ¬ ltE xs[k] x) ∧ St w' (Cs g [.int .i64 x.k, .string (tx x.s), .int .i64 x.a] T.y_api_Entry :: X), fun i j _ => (j - i).toNat,
   ⟨0, xs.length, rfl, by rw [h1], Nat.zero_le _, Nat.le_refl _, fun k _ hk => absurd hk (Nat.not_lt_zero _), fun k hk hk2 => absurd hk (by omega), h⟩, ?_⟩
 rintro i j w1 ⟨a, b, rfl, rfl, hab, hbl, hlo, hhi, h2⟩
 refine ⟨fun hlt => ?_, fun hge => ?_⟩
 · have hlt : a < b := by omega
   have em : w64 (shr .u64 (wr .u64 (w64 ((a : Int) + (b : Int)))) 1) = (((a + b) / 2 : Nat) : Int) := by
     have e1 : w64 ((a : Int) + (b : Int)) = ((a + b : Nat) : Int) := by rw [w64_id (by omega) (by omega)]; omega
     rw [e1, wr64c _ (by omega), shr1, w64_id (by omega) (by omega)]
   have e2 : w64 ((((a + b) / 2 : Nat) : Int) + 1) = (((a + b) / 2 + 1 : Nat) : Int) := by rw [w64_id (by omega) (by omega)]; omega
   simp only [em, e2]
   have hm1 : a ≤ (a + b) / 2 := by omega
   have hm2 : (a + b) / 2 < b := by omega
   generalize (a + b) / 2 = m at hm1 hm2
   have hml : m < xs.length := by omega
   refine ⟨by decide, ?_⟩
   refine St.dr h2 fun wa2 h2 => ?_
   obtain ⟨ad, ha, hb2, c0, c1, c2⟩ := Has.ey (hx _ h2.drop) hml
   refine ⟨ad, ha, by omega, by omega, _, c0, _, c1, _, c2, _, h2.cell0, _, h2.cell 1, _, h2.cell 2, 103, #[], #[], rfl, okChk_spec (by kernel_rfl), ?_⟩
   show F.tree_compare xs[m].k (tx xs[m].s) xs[m].a x.k (tx x.s) x.a _ _
   refine compare_st h2 fun w3 _ h3 => ⟨fun hn => ?_, fun hn => ?_⟩
   · have hn : ltE xs[m] x := (cfE_lt _ _).1 hn
     refine ⟨⟨m + 1, b, rfl, rfl, by omega, hbl, fun k hk hk2 => ?_, hhi, h3⟩, ?_⟩
     · rcases Nat.lt_or_ge k m with c | c
       · exact ltE_trans (srt_lt hs hk hml c) hn
       · have : k = m := by omega
         subst this; exact hn
     · show ((b : Int) - ((m + 1 : Nat) : Int)).toNat < ((b : Int) - (a : Int)).toNat
       omega
   · have hn : ¬ ltE xs[m] x := fun k => hn ((cfE_lt _ _).2 k)
     refine ⟨⟨a, m, rfl, rfl, hm1, by omega, hlo, fun k hk hk2 => ?_, h3⟩, ?_⟩
     · rcases Nat.lt_or_ge m k with c | c
       · exact fun k2 => hn (ltE_trans (srt_lt hs hml hk c) k2)
       · have : k = m := by omega
         subst this; exact hn
     · show ((m : Int) - (a : Int)).toNat < ((b : Int) - (a : Int)).toNat
       omega
 · have hge : a = b := by omega
   subst hge
   have hc : cntE xs x = a := cnt_uniq hbl hlo hhi
   have hat := srt_at hs x
   rw [hc] at hR hat
   refine St.dr h2 fun wa3 h2 => ?_
   refine ⟨fun hlt => ?_, fun hlt => ?_⟩
   rotate_left
   · have hno : x ∉ xs := fun hm => by
       rw [hat, List.getElem?_eq_none (by omega)] at hm
       cases hm
     have := hR _ h2.drop
     rw [decide_eq_false hno] at this; exact this
   have hlt : a < xs.length := by omega
   obtain ⟨ad, ha, hb2, c0, c1, c2⟩ := Has.ey (hx _ h2.drop) hlt
   refine ⟨ad, ha, by omega, by omega, _, c0, _, c1, _, c2, _, h2.cell0, _, h2.cell 1, _, h2.cell 2, 103, #[], #[], rfl, okChk_spec (by kernel_rfl), ?_⟩
   show F.tree_compare xs[a].k (tx xs[a].s) xs[a].a x.k (tx x.s) x.a _ _
   refine compare_st h2 fun w3 _ h3 => ?_
   have e : decide (x ∈ xs) = (cfE xs[a] x == 0) := by
     rw [Bool.eq_iff_iff, beq_iff_eq, decide_eq_true_eq, cfE_eq, hat, List.getElem?_eq_getElem hlt]
     exact ⟨fun h => Option.some.inj h, fun h => by rw [h]⟩
   have := hR w3 h3.drop
   rw [e] at this; exact this
end
end Go.Proofs.YtggachhkcmfijaaGreatDoor

/- Trees: their parts, what is below them, where an entry belongs (plain). -/
set_option linter.unusedVariables false
namespace Go.Proofs.YtggachhkcmfijaaGreatDoor
open Go Go.Vc
/-- a part of a tree: its place, whether it is another one now, its entries, what is below it -/
structure NdF (α : Type) where
 at_ : Int
 wr : Bool
 l : List Ey
 ks : List α
def Kid : Nat → Type
 | 0 => Empty
 | d + 1 => NdF (Kid d)
abbrev Nd (d : Nat) := NdF (Kid d)
def kidsOf {d : Nat} (A : Nd (d + 1)) : List (Nd d) := A.ks
/-- the entries below a part -/
def flat : (d : Nat) → Nd d → List Ey
 | 0, A => A.l
 | d + 1, A => List.flatMap (flat d) (kidsOf A)
abbrev flatL (d : Nat) (ks : List (Nd d)) : List Ey := ks.flatMap (flat d)
def hdE (l : List Ey) : Ey := l.headD ⟨0, [], 0⟩
def keyL {d : Nat} (ks : List (Nd d)) : List Ey := ks.map fun k => hdE k.l
/-- a part that is sound; how much it has itself is not said -/
def Bd : (d : Nat) → Nd d → Prop
 | 0, A => Srt A.l ∧ ∀ x ∈ A.l, okE x
 | d + 1, A => A.l = keyL (kidsOf A) ∧ (∀ k ∈ kidsOf A, Bd d k ∧ 3 ≤ k.l.length ∧ k.l.length ≤ 6) ∧ Srt (flatL d (kidsOf A))
theorem Bd.srt : ∀ {d : Nat} {A : Nd d}, Bd d A → Srt (flat d A)
 | 0, A, h => h.1
 | d + 1, A, h => h.2.2
theorem Bd.ok : ∀ {d : Nat} {A : Nd d}, Bd d A → ∀ x ∈ flat d A, okE x
 | 0, A, h, x, hx => h.2 x hx
 | d + 1, A, h, x, hx => by
   obtain ⟨k, hk, hx⟩ := List.mem_flatMap.1 hx
   exact Bd.ok (h.2.1 k hk).1 x hx
theorem Bd.hd : ∀ {d : Nat} {A : Nd d}, Bd d A → A.l ≠ [] → flat d A ≠ [] ∧ hdE (flat d A) = hdE A.l
 | 0, A, h, h0 => ⟨h0, rfl⟩
 | d + 1, A, h, h0 => by
   obtain ⟨h1, h2, h3⟩ := h
   have e : flat (d + 1) A = flatL d (kidsOf A) := rfl
   rw [e]
   generalize hks : kidsOf A = ks at *
   cases ks with
   | nil => exact absurd (by rw [h1]; rfl) h0
   | cons k r =>
     obtain ⟨hk, hk3, _⟩ := h2 k (List.mem_cons_self ..)
     obtain ⟨i1, i2⟩ := Bd.hd hk (fun h => by rw [h] at hk3; simp at hk3)
     have e1 : flatL d (k :: r) = flat d k ++ flatL d r := by simp [flatL]
     rw [e1, h1]
     refine ⟨by simp [i1], ?_⟩
     show hdE (flat d k ++ flatL d r) = hdE k.l
     rw [← i2]
     cases hf : flat d k with
     | nil => exact absurd hf i1
     | cons y s => rfl
theorem hdE_mem {l : List Ey} (h : l ≠ []) : hdE l ∈ l := by
 cases l with
 | nil => exact absurd rfl h
 | cons y s => exact List.mem_cons_self ..
theorem hdE_le {l : List Ey} (h : Srt l) {y : Ey} (hy : y ∈ l) : y = hdE l ∨ ltE (hdE l) y := by
 cases l with
 | nil => cases hy
 | cons z s =>
   rcases List.mem_cons.1 hy with h1 | h1
   · exact .inl h1
   · exact .inr ((List.pairwise_cons.1 h).1 y h1)
section
variable {d : Nat}
theorem flatL_app (a b : List (Nd d)) : flatL d (a ++ b) = flatL d a ++ flatL d b := by simp [flatL]
theorem flatL_cons (k : Nd d) (b : List (Nd d)) : flatL d (k :: b) = flat d k ++ flatL d b := by simp [flatL]
theorem flatL_one (k : Nd d) : flatL d [k] = flat d k := by simp [flatL]
theorem keyL_len (ks : List (Nd d)) : (keyL ks).length = ks.length := by simp [keyL]
theorem keyL_get {ks : List (Nd d)} {i : Nat} (hi : i < ks.length) : (keyL ks)[i]'(by rw [keyL_len]; exact hi) = hdE ks[i].l := by simp [keyL]
/-- what lies in an earlier child is ahead of what lies in a later one -/
theorem flat_lt {ks : List (Nd d)} (h : Srt (flatL d ks)) {i j : Nat} (hij : i < j) (hj : j < ks.length) {y z : Ey} (hy : y ∈ flat d (ks[i]'(by omega))) (hz : z ∈ flat d ks[j]) : ltE y z := by
 have e : ks = ks.take j ++ ks[j] :: ks.drop (j + 1) := by rw [← List.drop_eq_getElem_cons hj, List.take_append_drop]
 rw [e, flatL_app, flatL_cons] at h
 refine (List.pairwise_append.1 h).2.2 y (List.mem_flatMap.2 ⟨ks[i]'(by omega), ?_, hy⟩) z (List.mem_append_left _ hz)
 exact List.mem_take_iff_getElem.2 ⟨i, by omega, rfl⟩
structure KidsOk (d : Nat) (ks : List (Nd d)) : Prop where
 bd : ∀ k ∈ ks, Bd d k ∧ 3 ≤ k.l.length ∧ k.l.length ≤ 6
 srt : Srt (flatL d ks)
theorem KidsOk.hd {ks : List (Nd d)} (h : KidsOk d ks) {i : Nat} (hi : i < ks.length) : flat d ks[i] ≠ [] ∧ hdE (flat d ks[i]) = hdE ks[i].l := by
 obtain ⟨h1, h2, _⟩ := h.bd ks[i] (List.getElem_mem hi)
 exact Bd.hd h1 (fun h => by rw [h] at h2; simp at h2)
theorem KidsOk.keys {ks : List (Nd d)} (h : KidsOk d ks) : Srt (keyL ks) := by
 refine List.pairwise_iff_getElem.2 fun i j hi hj hij => ?_
 rw [keyL_len] at hi hj
 rw [keyL_get hi, keyL_get hj]
 obtain ⟨a1, a2⟩ := h.hd hi
 obtain ⟨b1, b2⟩ := h.hd hj
 rw [← a2, ← b2]
 exact flat_lt h.srt hij hj (hdE_mem a1) (hdE_mem b1)
/-- the child below which an entry belongs -/
def belowN (l : List Ey) (x : Ey) : Nat := if x ∈ l then cntE l x else cntE l x - 1
theorem belowN_lt {l : List Ey} (hs : Srt l) (h : l ≠ []) (x : Ey) : belowN l x < l.length := by
 have h0 : 0 < l.length := List.length_pos_iff.2 h
 have h1 := cntE_le l x
 unfold belowN
 split
 · rename_i hx
   exact (List.getElem?_eq_some_iff.1 ((srt_at hs x).1 hx)).1
 · omega
theorem below_split {ks : List (Nd d)} (h : KidsOk d ks) (h0 : ks ≠ []) (x : Ey) :
   (∀ y ∈ flatL d (ks.take (belowN (keyL ks) x)), ltE y x) ∧ (∀ y ∈ flatL d (ks.drop (belowN (keyL ks) x + 1)), ltE x y) := by
 have hs := h.keys
 have hk0 : keyL ks ≠ [] := fun h => h0 (List.eq_nil_of_length_eq_zero (by rw [← keyL_len, h]; rfl))
 have hlt := belowN_lt hs hk0 x
 obtain ⟨c1, c2⟩ := srt_cut hs x
 have hcl := cntE_le (keyL ks) x
 have hbl : (x ∈ keyL ks ∧ belowN (keyL ks) x = cntE (keyL ks) x ∧ (keyL ks)[cntE (keyL ks) x]? = some x) ∨ (x ∉ keyL ks ∧ belowN (keyL ks) x = cntE (keyL ks) x - 1) := by
   unfold belowN
   by_cases hx : x ∈ keyL ks
   · exact .inl ⟨hx, by rw [if_pos hx], (srt_at hs x).1 hx⟩
   · exact .inr ⟨hx, by rw [if_neg hx]⟩
 generalize belowN (keyL ks) x = i at *
 rw [keyL_len] at hlt
 constructor
 · intro y hy
   obtain ⟨k, hk, hy⟩ := List.mem_flatMap.1 hy
   obtain ⟨j, hj, rfl⟩ := List.mem_take_iff_getElem.1 hk
   have hj : j < i := by omega
   obtain ⟨b1, b2⟩ := h.hd hlt
   have h1 : ltE y (hdE (flat d ks[i])) := flat_lt h.srt hj hlt hy (hdE_mem b1)
   rw [b2, ← keyL_get hlt] at h1
   rcases hbl with ⟨hx, e1, e2⟩ | ⟨hx, e1⟩
   · rw [← e1] at e2
     obtain ⟨_, e2⟩ := List.getElem?_eq_some_iff.1 e2
     rw [e2] at h1; exact h1
   · refine ltE_trans h1 (c1 _ (List.mem_take_iff_getElem.2 ⟨i, by omega, rfl⟩))
 · intro y hy
   obtain ⟨k, hk, hy⟩ := List.mem_flatMap.1 hy
   obtain ⟨j, hj, rfl⟩ := List.mem_drop_iff_getElem.1 hk
   have hji : i + 1 + j < ks.length := by omega
   obtain ⟨b1, b2⟩ := h.hd hji
   have hle := hdE_le ((h.bd _ (List.getElem_mem hji)).1.srt) hy
   rw [b2, ← keyL_get hji] at hle
   have hkx : ltE x ((keyL ks)[i + 1 + j]'(by rw [keyL_len]; exact hji)) := by
     rcases hbl with ⟨hx, e1, e2⟩ | ⟨hx, e1⟩
     · rw [← e1] at e2
       obtain ⟨_, e2⟩ := List.getElem?_eq_some_iff.1 e2
       have h5 := srt_lt hs (i := i) (j := i + 1 + j) (by rw [keyL_len]; exact hlt) (by rw [keyL_len]; exact hji) (by omega)
       rw [e2] at h5; exact h5
     · have hnl := c2 ((keyL ks)[i + 1 + j]'(by rw [keyL_len]; exact hji)) (List.mem_drop_iff_getElem.2 ⟨i + 1 + j - cntE (keyL ks) x, by rw [keyL_len]; omega, by congr 1; omega⟩)
       rcases ltE_total x ((keyL ks)[i + 1 + j]'(by rw [keyL_len]; exact hji)) with h6 | h6 | h6
       · exact h6
       · exact absurd (h6 ▸ List.getElem_mem _) hx
       · exact absurd h6 hnl
   rcases hle with h7 | h7
   · rw [h7]; exact hkx
   · exact ltE_trans hkx h7
end
/-! ### One more, one less, amid others -/
theorem insE_mid {P M Q : List Ey} {x : Ey} (hP : ∀ y ∈ P, ltE y x) (hQ : ∀ y ∈ Q, ltE x y) : insE (P ++ M ++ Q) x = P ++ insE M x ++ Q := by
 have c : cntE (P ++ M ++ Q) x = P.length + cntE M x := by
   unfold cntE
   have h1 : P.countP (fun y => decide (ltE y x)) = P.length := List.countP_eq_length.2 (fun y hy => by simp [hP y hy])
   have h2 : Q.countP (fun y => decide (ltE y x)) = 0 := List.countP_eq_zero.2 (fun y hy => by
     have := hQ y hy
     simp only [decide_eq_true_eq]
     exact fun h => ltE_irrefl _ (ltE_trans h this))
   rw [List.countP_append, List.countP_append, h1, h2]
   omega
 have hc := cntE_le M x
 unfold insE
 rw [c, List.append_assoc P M Q, List.take_length_add_append, List.drop_length_add_append, List.take_append_of_le_length hc, List.drop_append_of_le_length hc]
 simp [List.append_assoc]
theorem mem_mid {P M Q : List Ey} {x : Ey} (hP : ∀ y ∈ P, ltE y x) (hQ : ∀ y ∈ Q, ltE x y) : x ∈ P ++ M ++ Q ↔ x ∈ M := by
 rw [List.mem_append, List.mem_append]
 constructor
 · rintro ((h | h) | h)
   · exact absurd (hP x h) (ltE_irrefl x)
   · exact h
   · exact absurd (hQ x h) (ltE_irrefl x)
 · exact fun h => .inl (.inr h)
end Go.Proofs.YtggachhkcmfijaaGreatDoor
