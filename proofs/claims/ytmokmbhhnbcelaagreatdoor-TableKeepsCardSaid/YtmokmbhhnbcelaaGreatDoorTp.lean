/- table: Put, Get, over chains that are there. -/
import Derived.Test.YtmokmbhhnbcelaaGreatDoorBo
import Derived.Test.YtmokmbhhnbcelaaGreatDoorBq
set_option linter.unusedVariables false
namespace Go.Proofs.YtmokmbhhnbcelaaGreatDoor
open Go Go.Vc Go.RowKit Go.Lib

/-- a desk that has one table, or none; its place, its names -/
structure Tab (D : DkV) (gen : Int) (ns : List Nm) (es : List Ent) (at_ : Int) : Prop where
  hv : Have D es
  or : (es = [] ∧ ns = [] ∧ at_ = 0) ∨ (∃ e, es = [e] ∧ ns ≠ [] ∧ at_ = e.x.at_ ∧ e.x.gen = gen ∧ e.x.tag = 12 ∧ (layNames ns).2 = 0 ∧ e.x.data = (layNames ns).1)
section
variable {w : World} {X : List As} {k g c : Nat} {D : DkV} {gen : Int} {old : List Nm} {es : List Ent} {at_ : Int}
theorem Mark_same (h : St w (DeskS k g c D :: X)) {R : Option Addr → Option Addr → Option Nat → Int → World → Prop} (hR : ∀ r b w', St w' (DeskS k g c D :: RoomS r D.bs :: MapS b D.ws :: X) → R (some (blk k)) (some (blk r)) (some b) D.syncs w') : F.desk_Desk_Mark (some (blk k)) w R :=
  Mark_st h fun r b w' h' => hR r b w' h'.up2
set_option maxHeartbeats 1000000 in
theorem put_table (h : St w (DeskS k g c D :: X)) (hT : Tab D gen old es at_) (hg : 1 ≤ gen ∧ gen ≤ 3) (hc : c ≤ 900000) (hbl : D.bs.length = 39) {ns : List Nm} (hn : (layNames ns).2 = 0) {R : Int → Int → World → Prop}
    (hR : ∀ a D' es' w', Tab D' gen ns es' a → D'.bs.length = 39 → St w' (DeskS k g (c + 40) D' :: X) → R a 0 w') : F.table_put (some (blk k)) gen at_ (ns.length : Int) (tx (layNames ns).1) w R := by
  apply E.table_put
  unfold V.table_put
  try simp (config := { zeta := false }) only [cnd_all, Nat.reduceAdd]
  have hlen := layNames_len hn
  have hnd : needN (layNames ns).1.length ≤ 5 := by unfold needN; split <;> omega
  have put : ∀ {w' D1}, D1.bs.length = 39 → Have D1 [] → St w' (DeskS k g c D1 :: X) → ((((ns.length : Nat) : Int) = 0 → R 0 0 w') ∧ (¬ ((ns.length : Nat) : Int) = 0 → F.chain_Put (some (blk k)) gen 12 (tx (layNames ns).1) w' fun n6 n7 w_9 => R n6 n7 w_9)) := fun {w' D1} hb1 hH h' => by
    have hfr := hH.free
    have h0 : (allP ([] : List Ent)).length = 0 := rfl
    refine ⟨fun hz => hR 0 D1 [] w' ⟨hH, .inl ⟨rfl, List.eq_nil_of_length_eq_zero (by omega), rfl⟩⟩ hb1 (DeskS.mono h' (by omega)), fun hz => ?_⟩
    refine Put_E h' hH hg (by decide) (by omega) hc (fun w2 hlf _ => by omega) fun w2 D2 e2 hle e1 e3 e4 e5 hf2 hH2 h2 => ?_
    have hfr2 := hH2.free
    have h3 : (allP ([] ++ [e2])).length = needN (layNames ns).1.length := by
      rw [List.nil_append, allP_cons, List.length_append, Ent.ps_len]
      unfold Ent.n
      rw [e5]; simp [allP]
    refine hR _ D2 [e2] w2 ⟨hH2, .inr ⟨e2, rfl, fun hh => hz (by rw [hh]; rfl), rfl, e1, e3, hn, e5⟩⟩ (by omega) h2
  rcases hT.or with ⟨r1, r2, r3⟩ | ⟨e, r1, r2, r3, r4, r5, r6, r7⟩
  · subst r1 r3
    exact ⟨fun h => absurd rfl h, fun _ => put hbl hT.hv h⟩
  · subst r1 r3
    have hat := hT.hv.at_ (List.mem_singleton.2 rfl)
    refine ⟨fun _ => ?_, fun h0 => by omega⟩
    refine Get_E h hT.hv (List.mem_singleton.2 rfl) fun w1 h1 => ?_
    intro wa1
    replace h1 : St wa1 (Cs _ _ _ :: _) := h1.new _ _
    clear_value wa1
    refine ⟨h1.wr0 (by simp), ?_⟩
    intro wa2
    replace h1 : St wa2 _ := h1.set0 _
    clear_value wa2
    refine ⟨h1.wr (by simp), ?_⟩
    intro wa3
    replace h1 : St wa3 _ := h1.set 1 _
    clear_value wa3
    refine ⟨h1.wr (by simp), ?_⟩
    intro wa4
    replace h1 : St wa4 _ := h1.set 2 _
    clear_value wa4
    refine ⟨h1.wr (by simp), ?_⟩
    intro wa5
    replace h1 : St wa5 _ := h1.set 3 _
    clear_value wa5
    simp only [List.set_cons_zero, List.set_cons_succ] at h1
    refine ⟨fun v w' => v = 0 ∧ w' = wa5, ⟨fun v w' => v = false ∧ w' = wa5, ⟨fun _ => ⟨_, h1.cell 1, by rw [r5]; rfl, rfl⟩, fun h => absurd rfl h⟩, ?_⟩, ?_⟩
    · rintro v w2 ⟨rfl, rfl⟩
      exact ⟨fun h => (by cases h), fun _ => ⟨rfl, rfl⟩⟩
    rintro v w2 ⟨rfl, rfl⟩
    refine ⟨fun _ => ?_, fun h => absurd rfl h⟩
    refine Drop_E (a := []) (b := []) h1.drop hT.hv fun w3 hH3 h3 => ⟨fun h => absurd rfl h, fun _ => ?_⟩
    have hbl3 : (dropD D e.ps).bs.length = 39 := by show (giveL D.bs e.ps).length = 39; rw [giveL_len]; exact hbl
    exact put hbl3 hH3 h3
set_option maxHeartbeats 1000000 in
theorem Put_table (h : St w (DeskS k g c D :: X)) (hT : Tab D gen old es at_) (hg : 1 ≤ gen ∧ gen ≤ 3) (hc : c ≤ 900000) (hbl : D.bs.length = 39) {sl : Sl} {ns : List Nm} (hx : ∀ w', St w' X → Has EN w' sl ns) (hb : ns.length ≤ 1000) (hl : ∀ n ∈ ns, n.1.length ≤ 2000) {R : Int → Int → World → Prop}
    (hE : ∀ w', (layNames ns).2 ≠ 0 → St w' (DeskS k g c D :: X) → R 0 (layNames ns).2 w')
    (hR : ∀ a D' es' w', (layNames ns).2 = 0 → Tab D' gen ns es' a → D'.bs.length = 39 → St w' (DeskS k g (c + 40) D' :: X) → R a 0 w') : F.table_Put (some (blk k)) gen at_ sl w R := by
  apply E.table_Put
  unfold V.table_Put
  try simp (config := { zeta := false }) only [cnd_all, Nat.reduceAdd]
  have hs := (hx w h.drop).1
  refine Lay_spec (Has.names (hx w h.drop)) (by omega) (fun n hn => by have := hl n hn; omega) fun w1 hB1 => ?_
  have h1 := h.below hB1
  refine ⟨fun hne => hE w1 hne h1, fun h0 => ?_⟩
  refine ⟨fun v w' => v = false ∧ w' = w1, ⟨fun h => by omega, fun _ => ⟨decide_eq_false (by omega), rfl⟩⟩, ?_⟩
  rintro v w2 ⟨rfl, rfl⟩
  refine ⟨fun h => (by cases h), fun _ => ?_⟩
  refine Mark_same h1 fun r b w3 h3 => ?_
  intro wa1
  replace h3 : St wa1 (Cs _ _ _ :: _) := h3.new _ _
  clear_value wa1
  refine ⟨h3.wr0 (by simp), ?_⟩
  intro wa2
  replace h3 : St wa2 _ := h3.set0 _
  clear_value wa2
  refine ⟨h3.wr (by simp), ?_⟩
  intro wa3
  replace h3 : St wa3 _ := h3.set 1 _
  clear_value wa3
  refine ⟨h3.wr (by simp), ?_⟩
  intro wa4
  replace h3 : St wa4 _ := h3.set 2 _
  clear_value wa4
  refine ⟨h3.wr (by simp), ?_⟩
  intro wa5
  replace h3 : St wa5 _ := h3.set 3 _
  clear_value wa5
  simp only [List.set_cons_zero, List.set_cons_succ] at h3
  rw [hs]
  refine put_table h3.sw hT hg hc hbl h0 fun a D' es' w4 hT4 hb4 h4 => ⟨fun h => absurd rfl h, fun _ => hR a D' es' w4 h0 hT4 hb4 h4.d2.d2.d2⟩
set_option maxHeartbeats 1000000 in
theorem Get_table (h : St w (DeskS k g c D :: X)) (hT : Tab D gen old es at_) {gn : Int} {R : Sl → Int → World → Prop}
    (hB : ∀ w', at_ ≠ 0 → gn ≠ gen → St w' (DeskS k g c D :: X) → R ⟨none, 0, 0⟩ 25 w')
    (hR : ∀ l w', (at_ ≠ 0 → gn = gen) → St w' (Row EN T.y_table_Name l old :: DeskS k g c D :: X) → R l 0 w') : F.table_Get (some (blk k)) gn at_ w R := by
  apply E.table_Get
  unfold V.table_Get
  try simp (config := { zeta := false }) only [cnd_all, Nat.reduceAdd]
  rcases hT.or with ⟨r1, r2, r3⟩ | ⟨e, r1, r2, r3, r4, r5, r6, r7⟩
  · subst r1 r2 r3
    exact ⟨fun _ => hR _ w (fun h => absurd rfl h) (h.row0 EN T.y_table_Name), fun h => absurd rfl h⟩
  · subst r1 r3
    have hat := hT.hv.at_ (List.mem_singleton.2 rfl)
    refine ⟨fun h0 => by omega, fun _ => ?_⟩
    refine Get_E h hT.hv (List.mem_singleton.2 rfl) fun w1 h1 => ?_
    intro wa1
    replace h1 : St wa1 (Cs _ _ _ :: _) := h1.new _ _
    clear_value wa1
    refine ⟨h1.wr0 (by simp), ?_⟩
    intro wa2
    replace h1 : St wa2 _ := h1.set0 _
    clear_value wa2
    refine ⟨h1.wr (by simp), ?_⟩
    intro wa3
    replace h1 : St wa3 _ := h1.set 1 _
    clear_value wa3
    refine ⟨h1.wr (by simp), ?_⟩
    intro wa4
    replace h1 : St wa4 _ := h1.set 2 _
    clear_value wa4
    refine ⟨h1.wr (by simp), ?_⟩
    intro wa5
    replace h1 : St wa5 _ := h1.set 3 _
    clear_value wa5
    simp only [List.set_cons_zero, List.set_cons_succ] at h1
    refine ⟨fun h => absurd rfl h, fun _ => ⟨_, h1.cell 3, ?_⟩⟩
    have hlen := layNames_len r6
    rw [r7]
    refine Read_spec (by omega) fun l w2 hO hbk hB2 => ?_
    rw [read_names r6] at hO ⊢
    have h2 : St w2 (Row EN T.y_table_Name l old :: Cs w1.heap.size [.int .i64 e.x.gen, .int .i64 e.x.tag, .int .i64 e.x.refs, .string (tx e.x.data)] T.y_chain_Chain :: DeskS k g c D :: X) := St.rowOf h1 (fr_below hB2) (by rw [EN_all]; exact hO) hbk
    refine ⟨fun h => absurd rfl h, fun _ => ⟨_, h2.sw.cell 1, fun hne => absurd r5 hne, fun _ => ⟨_, h2.sw.cell0, fun hne => ?_, fun heq => ?_⟩⟩⟩
    · exact hB w2 (by omega) (fun hh => hne (by rw [hh]; exact r4)) h2.drop.drop
    · exact hR l w2 (fun _ => by rw [← r4]; exact heq.symm) h2.d2
end
end Go.Proofs.YtmokmbhhnbcelaaGreatDoor
