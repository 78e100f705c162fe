/- masonrylaw8.alive. -/
import Derived.Test.YtmokmbhhnbcelaaGreatDoorHx
set_option linter.unusedVariables false
namespace Go.Proofs.YtmokmbhhnbcelaaGreatDoor
open Go Go.Vc Go.RowKit Go.Lib
theorem head3 {w : World} {g : Nat} {n : Int} {f : Bool} {l : Sl} {t : TypeId} (h : w.heap[g]? = some (.cells ⟨[.int .i64 n, .bool f, .slice l.a l.len l.cap]⟩ t (0, 0))) :
   w.cell? (blk g) = some (.int .i64 n) ∧ w.cell? ((blk g).add 1) = some (.bool f) ∧ w.cell? ((blk g).add 2) = some (.slice l.a l.len l.cap) :=
 ⟨by rw [blk_cell0 h]; rfl, by rw [blk_cell h]; rfl, by rw [blk_cell h]; rfl⟩
end Go.Proofs.YtmokmbhhnbcelaaGreatDoor

/- slices with rows of their own: what lies apart; an element set. -/
set_option linter.unusedVariables false
namespace Go.Proofs.YtmokmbhhnbcelaaGreatDoor
open Go Go.Vc Go.RowKit Go.Lib
/-- append to a slice with a row of its own: in place, or into a new row, the old one left as it was -/
theorem runT_append2 {P : Program} {w : World} {t ty e : TypeId} {i : TypeInfo} {z : Value} {size bytes : Nat} (ht : P.underlying t = some (.slice e)) (hi : P.info? e = some i) (hz : i.zero = some z)
   (hsize : i.size = size) (hby : i.bytes = bytes) (hzs : z.cells.size = size) (hsz : 0 < size) {l : Sl} {xs : List Value} (hown : Own w e size l xs)
   {a : Addr} {m c : Nat} {news : List Value} (hl : news.length = m * size) (hnews : ∀ j u, news[j]? = some u → w.cell? (a.add j) = some u) (h1 : ∀ u ∈ news, u.oneCell' = true)
   (h63 : l.len + m ≤ maxLen) (hbytes : (l.len + m) * bytes ≤ 140737488355328) {R : Sl → World → Prop}
   (hR : ∀ l' w', Own w' e size l' (xs ++ news) → l'.len = l.len + m → ((l'.a = l.a ∧ Fr l.bk w w') ∨ ((∃ g, l'.a = some (blk g) ∧ w.heap.size ≤ g) ∧ Fr no w w')) → R l' w') :
   RunT P (Builtin.append_ #[t, t] ty #[.slice l.a l.len l.cap, .slice (some a) m c]) [.one .slice] w R := by
 obtain ⟨v', w', hr, ho, hg, hn⟩ := run_append_own (P := P) w 0 t ty e i z size bytes ht hi hz hsize hby hzs hsz _ l.len xs hown a m c news hl hnews h1 h63 hbytes (Nat.zero_le _)
 subst hsize
 subst hby
 have hsmall : l.len + m ≤ 9223372036854775807 := by simp only [maxLen] at h63; omega
 have hfr := fr_of_grown (l := l) hg
 have key : ∃ l' : Sl, v' = .slice l'.a l'.len l'.cap ∧ l'.len = l.len + m ∧ ((l'.a = l.a ∧ Fr l.bk w w') ∨ ((∃ g, l'.a = some (blk g) ∧ w.heap.size ≤ g) ∧ Fr no w w')) := by
   rcases hown.2 with ⟨h2, h0⟩ | ⟨g, cap, cur, h2, hbg, hgg, hnc, hcm, hcs, htake⟩
   · simp only [Value.slice.injEq] at h2
     obtain ⟨ha, hl0, hc0⟩ := h2
     by_cases hm : m = 0
     · exact ⟨⟨none, 0, 0⟩, hn.2 ⟨by rw [ha, hl0, hc0], hm⟩, by simp [hl0, hm], .inl ⟨ha.symm, hfr⟩⟩
     · have h3 := run_append_nil (P := P) w t ty e i z ht hi hz a m c news hl hnews (by omega) (by omega) (by rw [hl0] at hbytes; simp only [Nat.zero_add] at hbytes; omega)
       rw [ha, hl0, hc0] at hr
       rw [h3] at hr
       injection hr with hr hw
       refine ⟨⟨some (blk w.heap.size), m, _⟩, hr.symm, by simp [hl0], .inr ⟨⟨_, rfl, Nat.le_refl _⟩, ?_⟩⟩
       rw [← hw]
       exact (Fr.drew no w).trans (Fr.alloc no _ _) (fun _ _ h => h)
   · simp only [Value.slice.injEq] at h2
     obtain ⟨ha, _, hc0⟩ := h2
     by_cases hroom : l.len + m ≤ l.cap
     · have hfit : l.len * i.size + news.length ≤ cur.size := by rw [hl, hcs, ← Nat.add_mul, ← hc0]; exact Nat.mul_le_mul_right _ hroom
       have h3 := run_append_room (P := P) w t ty e i ht hi g l.len l.cap cur hgg a m c news hl hnews h1 hroom hfit
       rw [ha] at hr
       rw [h3] at hr
       injection hr with hr _
       exact ⟨⟨some (blk g), l.len + m, l.cap⟩, hr.symm, rfl, .inl ⟨ha.symm, hfr⟩⟩
     · have holds : ∀ j u, xs[j]? = some u → w.cell? ((⟨g, 0, none⟩ : Addr).add j) = some u := World.ownsRow.cells hown (g := g) (by rw [ha]; rfl)
       have h3 := run_append_grow (P := P) w t ty e i z ht hi hz ⟨g, 0, none⟩ l.len l.cap xs hown.1 holds a m c news hl hnews (by omega) (by omega) (growslice_fits (by omega) hbytes)
       rw [ha] at hr
       rw [h3] at hr
       injection hr with hr hw
       refine ⟨⟨some (blk w.heap.size), l.len + m, _⟩, hr.symm, rfl, .inr ⟨⟨_, rfl, Nat.le_refl _⟩, ?_⟩⟩
       rw [← hw]
       exact (Fr.drew no w).trans (Fr.alloc no _ _) (fun _ _ h => h)
 obtain ⟨l', rfl, hlen, hmv⟩ := key
 exact runT_slice hr (hR l' w' (by unfold Own; rw [← hlen] at ho; exact ho) hlen hmv)
theorem Own.typ {w : World} {t : TypeId} {size : Nat} {l : Sl} {xs : List Value} (h : Own w t size l xs) {k : Nat} (hk : l.bk k) : ∃ cs, w.heap[k]? = some (.cells cs t (0, 0)) := by
 obtain ⟨a, ha, rfl⟩ := hk
 rcases h.2 with ⟨h2, _⟩ | ⟨g, cap, cur, h2, hbg, hgg, _⟩
 · simp only [Value.slice.injEq] at h2
   rw [ha] at h2; cases h2.1
 · simp only [Value.slice.injEq] at h2
   rw [ha] at h2
   have : a = ⟨g, 0, none⟩ := by simpa using h2.1
   subst this
   exact ⟨cur, hgg⟩
theorem typ_ne {w : World} {k : Nat} {cs cs' : Array Value} {t t' : TypeId} (h : w.heap[k]? = some (.cells cs t (0, 0))) (h' : w.heap[k]? = some (.cells cs' t' (0, 0))) (hn : t ≠ t') : False := by
 rw [h] at h'
 injection h' with h'
 injection h' with _ h'
 exact hn h'
theorem Own.apart {w : World} {t t' : TypeId} {s s' : Nat} {l l' : Sl} {xs xs' : List Value} (h : Own w t s l xs) (h' : Own w t' s' l' xs') (hn : t ≠ t') {k : Nat} (hk : l.bk k) : ¬ l'.bk k := fun hk' => by
 obtain ⟨_, h1⟩ := Own.typ h hk
 obtain ⟨_, h2⟩ := Own.typ h' hk'
 exact typ_ne h1 h2 hn
def slV (s : Sl) : Value := .slice s.a s.len s.cap
end Go.Proofs.YtmokmbhhnbcelaaGreatDoor

/- disk: a disk with power, of which nothing is armed: what its calls do. -/
set_option linter.unusedVariables false
namespace Go.Proofs.YtmokmbhhnbcelaaGreatDoor
open Go Go.Vc Go.RowKit Go.Lib
abbrev Bs := List UInt8
abbrev Wr1 := Int × Bs
def wrCells (ws : List Wr1) : List Value := ws.flatMap fun x => [.int .i64 x.1, .string (tx x.2)]
theorem wrCells_len (ws : List Wr1) : (wrCells ws).length = ws.length * 2 := by
 induction ws with
 | nil => rfl
 | cons a r ih => simp only [wrCells, List.flatMap_cons, List.length_append, List.length_cons, List.length_nil] at ih ⊢; omega
theorem wrCells_one (ws : List Wr1) : ∀ u ∈ wrCells ws, u.oneCell' = true := by
 intro u hu
 simp only [wrCells, List.mem_flatMap] at hu
 obtain ⟨n, _, hu⟩ := hu
 simp only [List.mem_cons, List.not_mem_nil, or_false] at hu
 rcases hu with rfl | rfl <;> rfl
theorem wrCells_app (a b : List Wr1) : wrCells (a ++ b) = wrCells a ++ wrCells b := by simp [wrCells, List.flatMap_append]
theorem wrCells_at : ∀ (ws : List Wr1) (j : Nat) (n : Wr1), ws[j]? = some n → (wrCells ws)[j * 2]? = some (.int .i64 n.1) ∧ (wrCells ws)[j * 2 + 1]? = some (.string (tx n.2))
 | [], j, n, h => by simp at h
 | a :: r, 0, n, h => by
   simp only [List.getElem?_cons_zero, Option.some.injEq] at h
   subst h
   simp [wrCells]
 | a :: r, j + 1, n, h => by
   have h2 := wrCells_at r j n (by simpa using h)
   have e1 : (j + 1) * 2 = j * 2 + 2 := by omega
   have e2 : wrCells (a :: r) = .int .i64 a.1 :: .string (tx a.2) :: wrCells r := rfl
   rw [e1, e2]
   exact ⟨by simpa using h2.1, by simpa using h2.2⟩
theorem und_wr : Pg.underlying T.y_sl_api_Write = some (.slice T.y_api_Write) := by kernel_rfl
theorem info_wr : ∃ i, Pg.info? T.y_api_Write = some i ∧ i.zero = some (.agg #[.int .i64 0, .string sNil]) ∧ i.size = 2 ∧ i.bytes = 24 := by
 have h : (Pg.info? T.y_api_Write).map (fun i => (i.zero, i.size, i.bytes)) = some (some (.agg #[.int .i64 0, .string sNil]), 2, 24) := by kernel_rfl
 obtain ⟨i, hi, h2⟩ := Option.map_eq_some_iff.1 h
 simp only [Prod.mk.injEq] at h2
 exact ⟨i, hi, h2.1, h2.2.1, h2.2.2⟩
/-- the writes of a slice -/
def Wrs (w : World) (sl : Sl) (ws : List Wr1) : Prop :=
 sl.len = ws.length ∧ ∀ j n, ws[j]? = some n → ∃ a, sl.a = some a ∧ w.cell? (a.add (j * 2)) = some (.int .i64 n.1) ∧ w.cell? ((a.add (j * 2)).add 1) = some (.string (tx n.2))
theorem Wrs.keep {w w' : World} {sl : Sl} {ws : List Wr1} (h : Wrs w sl ws) {S : Nat → Prop} (hf : Fr S w w') (hs : ∀ k, sl.bk k → ¬ S k) : Wrs w' sl ws :=
 ⟨h.1, fun j v hj => by
   obtain ⟨a, ha, hc, hd⟩ := h.2 j v hj
   have e1 : (a.add (j * 2)).block = a.block := by unfold Addr.add; split <;> rfl
   have e2 : ((a.add (j * 2)).add 1).block = a.block := by rw [add_add]; unfold Addr.add; split <;> rfl
   exact ⟨a, ha, hf.cell hc (by rw [e1]; exact hs _ ⟨a, ha, rfl⟩), hf.cell hd (by rw [e2]; exact hs _ ⟨a, ha, rfl⟩)⟩⟩
theorem Own.wrs {w : World} {l : Sl} {ws : List Wr1} (h : Own w T.y_api_Write 2 l (wrCells ws)) : Wrs w l ws := by
 refine ⟨by have := h.len; rw [wrCells_len] at this; omega, fun j n hj => ?_⟩
 obtain ⟨h1, h2⟩ := wrCells_at ws j n hj
 obtain ⟨a, ha, hc⟩ := h.cell h1
 obtain ⟨a', ha', hc'⟩ := h.cell h2
 rw [ha] at ha'
 injection ha' with ha'
 subst ha'
 exact ⟨a, ha, hc, by rw [add_add]; exact hc'⟩
theorem Wrs.row {w : World} {g : Nat} {t : TypeId} {ws : List Wr1} (h : w.heap[g]? = some (.cells ⟨wrCells ws⟩ t (0, 0))) (n c : Nat) (hn : n = ws.length) : Wrs w ⟨some (blk g), n, c⟩ ws :=
 ⟨hn, fun j u hj => by
   obtain ⟨h1, h2⟩ := wrCells_at ws j u hj
   exact ⟨blk g, rfl, by rw [blk_cell h]; exact h1, by rw [add_add, blk_cell h]; exact h2⟩⟩
theorem CloneS_spec {w : World} {sl : Sl} {ts : List Bs} (hT : Texts w sl ts) (hb : ts.length ≤ 1000000000) {R : Sl → World → Prop}
   (hR : ∀ l w', Own w' T.y_string 1 l (textCells ts) → (∀ k, l.bk k → w.heap.size ≤ k) → Below w.heap.size w w' → R l w') : F.slices_Clone_sl_string_string sl w R := by
 obtain ⟨i, hi, hz, hs1, hby⟩ := info_str
 apply E.slices_Clone_sl_string_string
 unfold V.slices_Clone_sl_string_string
 have hlen := hT.1
 refine ⟨fun h => ?_, fun h => ?_⟩
 · have hnil : ts = [] := by
     cases ts with
     | nil => rfl
     | cons z r => obtain ⟨a, ha, _⟩ := hT.2 0 z rfl
                   rw [ha] at h; cases h
   subst hnil
   exact hR _ w (Own.nil _ _ _) (fun k hk => bk_nil hk) (Below.refl _ _)
 · obtain ⟨a, ha⟩ : ∃ a, sl.a = some a := by
     cases ha : sl.a with
     | none => rw [ha] at h; cases h
     | some a => exact ⟨a, rfl⟩
   intro w1
   have hO1 : Own w1 T.y_string 1 ⟨some (blk w.heap.size), 0, 0⟩ [] := World.ownsRow_made (base := 0) (size := 1) (e := T.y_string) w #[] 0 (Nat.zero_le _) (Nat.zero_le _) rfl
   have hB1 : Below w.heap.size w w1 := below_fr (Fr.alloc no w _)
   have hz1 : w1.heap.size = w.heap.size + 1 := by simp [w1]
   clear_value w1
   have hT1 := hT.below hB1
   rw [ha]
   refine runT_append (l := ⟨some (blk w.heap.size), 0, 0⟩) und_strs hi hz hs1 hby rfl (by decide) hO1 (m := sl.len) (news := textCells ts) (by simp [textCells, hlen]) (hT1.cell ha) (textCells_one ts) (by simp only [maxLen]; omega) (by simp only; omega) fun l2 w2 ho hl hf hm => ?_
   have hlo : ∀ k, (⟨some (blk w.heap.size), 0, 0⟩ : Sl).bk k → w.heap.size ≤ k := fun k hk => by
     obtain ⟨x, hx, rfl⟩ := hk
     injection hx with hx
     subst hx
     exact Nat.le_refl _
   refine hR l2 w2 (by simpa using ho) (fun k hk => ?_) (hB1.trans (hf.toBelow hlo (by omega)))
   rcases moved_bk hm hk with h | h
   · exact hlo k h
   · omega
theorem Own.setStr {w : World} {l : Sl} {zs : List Bs} (h : Own w T.y_string 1 l (textCells zs)) {k : Nat} (hk : k < zs.length) (x : Bs) {a : Addr} (ha : l.a = some a) :
   Wr w (a.add k) ∧ Own (w.setCell (a.add k) (.string (tx x))) T.y_string 1 l (textCells (zs.set k x)) ∧ Fr l.bk w (w.setCell (a.add k) (.string (tx x))) := by
 have hlen := (Own.texts h).1
 obtain ⟨g, cur, ha', hg, hc, ht, hlc, hm⟩ := Own.row h (by omega)
 rw [ha] at ha'
 injection ha' with ha'
 subst ha'
 have h2 := blk_set hg k (.string (tx x))
 refine ⟨blk_wr hg (by omega), ?_, (fr_set w g k _).mono (fun i _ hi => ⟨blk g, ha, Eq.symm hi⟩)⟩
 have h3 := Own.of (n := l.len) (cap := l.cap) h2 (by rw [List.length_set, hc]) hlc hm
 have e : (cur.set k (.string (tx x))).take (l.len * 1) = textCells (zs.set k x) := by
   rw [List.take_set, ht]
   simp [textCells, List.map_set]
 rw [e] at h3
 have : l = ⟨some (blk g), l.len, l.cap⟩ := by cases l; simp only at ha; subst ha; rfl
 rw [this]; exact h3
/-- what a disk holds -/
structure Ds where
 l : List Bs
 safe : List Bs
 ws : List Wr1
 many : Int
 off : Bool
def dkCells (L S Wn : Sl) (d : Ds) : List Value := [slV L, slV S, slV Wn, .int .i64 d.many, .bool d.off, .bool false, .int .i64 0, .slice none 0 0]
/-- a disk of which nothing is armed -/
structure Dk (w : World) (g : Nat) (L S Wn : Sl) (d : Ds) : Prop where
 obj : w.heap[g]? = some (.cells ⟨dkCells L S Wn d⟩ T.y_disk_Disk (0, 0))
 ol : Own w T.y_string 1 L (textCells d.l)
 os : Own w T.y_string 1 S (textCells d.safe)
 ow : Own w T.y_api_Write 2 Wn (wrCells d.ws)
 ls : ∀ k, L.bk k → ¬ S.bk k
def fpD (g : Nat) (L S Wn : Sl) : Nat → Prop := fun k => k = g ∨ L.bk k ∨ S.bk k ∨ Wn.bk k
theorem Dk.keep {w w' : World} {g : Nat} {L S Wn : Sl} {d : Ds} (h : Dk w g L S Wn d) {Z : Nat → Prop} (hf : Fr Z w w') (hz : ∀ k, fpD g L S Wn k → ¬ Z k) : Dk w' g L S Wn d where
 obj := hf.heap h.obj (hz g (.inl rfl))
 ol := h.ol.keep hf (fun k hk => hz k (.inr (.inl hk)))
 os := h.os.keep hf (fun k hk => hz k (.inr (.inr (.inl hk))))
 ow := h.ow.keep hf (fun k hk => hz k (.inr (.inr (.inr hk))))
 ls := h.ls
theorem Dk.below {w w' : World} {g : Nat} {L S Wn : Sl} {d : Ds} (h : Dk w g L S Wn d) (hB : Below w.heap.size w w') : Dk w' g L S Wn d := h.keep (fr_below hB) (fun _ _ => id)
theorem Dk.lt {w : World} {g : Nat} {L S Wn : Sl} {d : Ds} (h : Dk w g L S Wn d) {k : Nat} (hk : fpD g L S Wn k) : k < w.heap.size := by
 rcases hk with rfl | hk | hk | hk
 · exact heap_lt h.obj
 · exact h.ol.lt hk
 · exact h.os.lt hk
 · exact h.ow.lt hk
section
variable {w : World} {g : Nat} {L S Wn : Sl} {d : Ds}
theorem Dk.c0 (h : Dk w g L S Wn d) : w.cell? (blk g) = some (.slice L.a L.len L.cap) := by rw [blk_cell0 h.obj]; rfl
theorem Dk.c4 (h : Dk w g L S Wn d) : w.cell? ((blk g).add 4) = some (.bool d.off) := by rw [blk_cell h.obj]; rfl
theorem Dk.c5 (h : Dk w g L S Wn d) : w.cell? ((blk g).add 5) = some (.bool false) := by rw [blk_cell h.obj]; rfl
theorem Dk.len (h : Dk w g L S Wn d) : L.len = d.l.length := (Own.texts h.ol).1
/-- the parts of a disk lie apart -/
theorem Dk.sep (h : Dk w g L S Wn d) : (∀ k, L.bk k → ¬ k = g) ∧ (∀ k, S.bk k → ¬ k = g) ∧ (∀ k, Wn.bk k → ¬ k = g) ∧ (∀ k, L.bk k → ¬ Wn.bk k) ∧ (∀ k, S.bk k → ¬ Wn.bk k) := by
 refine ⟨fun k hk he => ?_, fun k hk he => ?_, fun k hk he => ?_, fun k hk => Own.apart h.ol h.ow (by decide) hk, fun k hk => Own.apart h.os h.ow (by decide) hk⟩
 · subst he; obtain ⟨_, h2⟩ := Own.typ h.ol hk; exact typ_ne h.obj h2 (by decide)
 · subst he; obtain ⟨_, h2⟩ := Own.typ h.os hk; exact typ_ne h.obj h2 (by decide)
 · subst he; obtain ⟨_, h2⟩ := Own.typ h.ow hk; exact typ_ne h.obj h2 (by decide)
theorem On_disk (h : Dk w g L S Wn d) {R : Bool → World → Prop} (hR : R (!d.off) w) : F.disk_Disk_On (some (blk g)) w R := by
 apply E.disk_Disk_On
 unfold V.disk_Disk_On
 exact ⟨fun _ => ⟨blk g, rfl, d.off, h.c4, hR⟩, fun h => by simp at h⟩
theorem Size_disk (h : Dk w g L S Wn d) {R : Int → World → Prop} (hR : R (d.l.length : Int) w) : F.disk_Disk_Size (some (blk g)) w R := by
 apply E.disk_Disk_Size
 unfold V.disk_Disk_Size
 refine ⟨fun h => by simp at h, fun _ => ⟨blk g, rfl, L, h.c0, ?_⟩⟩
 rw [h.len]; exact hR
def mayD (d : Ds) (at_ : Int) : Int := if d.off then 14 else if at_ < 0 ∨ (d.l.length : Int) ≤ at_ then 15 else 0
theorem may_disk (h : Dk w g L S Wn d) {at_ : Int} {R : Int → World → Prop} (hR : R (mayD d at_) w) : F.disk_Disk_may (some (blk g)) at_ w R := by
 apply E.disk_Disk_may
 unfold V.disk_Disk_may
 refine On_disk h ⟨fun ho => ?_, fun ho => ?_⟩
 · have ho : d.off = true := by simpa using ho
   have : mayD d at_ = 14 := by simp [mayD, ho]
   rw [this] at hR; exact hR
 have ho : d.off = false := by simpa using ho
 have hlen := h.len
 refine ⟨fun hn => ?_, fun hn => ⟨blk g, rfl, L, h.c0, fun hb => ?_, fun hb => ?_⟩⟩
 · have hn := of_decide_eq_true hn
   have : mayD d at_ = 15 := by simp [mayD, ho, hn]
   rw [this] at hR; exact hR
 · have hb := of_decide_eq_true hb
   have : mayD d at_ = 15 := by unfold mayD; rw [if_neg (by simp [ho]), if_pos (.inr (by omega))]
   rw [this] at hR; exact hR
 · have hn := of_decide_eq_false hn
   have hb := of_decide_eq_false hb
   have : mayD d at_ = 0 := by unfold mayD; rw [if_neg (by simp [ho]), if_neg (by omega)]
   rw [this] at hR; exact hR
theorem Read_disk (h : Dk w g L S Wn d) {at_ : Int} {R : ByteArray → Int → World → Prop} (hR : R (tx (if mayD d at_ = 0 then d.l.getD at_.toNat [] else [])) (mayD d at_) w) : F.disk_Disk_Read (some (blk g)) at_ w R := by
 apply E.disk_Disk_Read
 unfold V.disk_Disk_Read
 refine may_disk h ⟨fun hne => ?_, fun heq => ?_⟩
 · have hne : mayD d at_ ≠ 0 := by simpa using hne
   rw [if_neg hne] at hR; exact hR
 have heq : mayD d at_ = 0 := by simpa using heq
 rw [heq, if_pos rfl] at hR
 have hr : 0 ≤ at_ ∧ at_ < (d.l.length : Int) := by
   unfold mayD at heq
   split at heq
   · simp at heq
   · split at heq
     · simp at heq
     · omega
 have hlen := h.len
 have hlt : at_.toNat < d.l.length := by omega
 obtain ⟨a, ha, hc⟩ := (Own.texts h.ol).2 at_.toNat d.l[at_.toNat] (by simp [hlt])
 refine ⟨blk g, rfl, L, h.c0, a, ha, hr.1, by omega, tx d.l[at_.toNat], hc, ?_⟩
 have e : d.l.getD at_.toNat [] = d.l[at_.toNat] := by simp [hlt]
 rw [e] at hR; exact hR
theorem goes_disk (h : Dk w g L S Wn d) {R : Bool → World → Prop} (hR : R false w) : F.disk_Disk_goes (some (blk g)) w R := by
 apply E.disk_Disk_goes
 unfold V.disk_Disk_goes
 exact ⟨blk g, rfl, false, h.c5, fun _ => hR, fun h => by simp at h⟩
end
end Go.Proofs.YtmokmbhhnbcelaaGreatDoor
