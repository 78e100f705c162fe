/- slices of pointers to parts: Insert, Delete, Clone, append. -/
import Derived.Test.YtggachhkcmfijaaGreatDoorQx
import Derived.Lib.Overlaps
set_option linter.unusedVariables false
namespace Go.Proofs.YtggachhkcmfijaaGreatDoor
open Go Go.Vc Go.RowKit Go.Lib
theorem EPt_len (xs : List Nat) : (EPt.all xs).length = xs.length * 1 := EPt.all_len xs
theorem EPt_take (xs : List Nat) (i : Nat) : (EPt.all xs).take (i * 1) = EPt.all (xs.take i) := by
 rcases Nat.le_total i xs.length with h | h
 · have e : EPt.all xs = EPt.all (xs.take i) ++ EPt.all (xs.drop i) := by rw [← EPt.all_app, List.take_append_drop]
   have hl : (EPt.all (xs.take i)).length = i * 1 := by rw [EPt_len, List.length_take, Nat.min_eq_left h]
   rw [e, ← hl, List.take_left]
 · rw [List.take_of_length_le (by rw [EPt_len]; omega), List.take_of_length_le h]
theorem EPt_drop (xs : List Nat) (i : Nat) : (EPt.all xs).drop (i * 1) = EPt.all (xs.drop i) := by
 rcases Nat.le_total i xs.length with h | h
 · have e : EPt.all xs = EPt.all (xs.take i) ++ EPt.all (xs.drop i) := by rw [← EPt.all_app, List.take_append_drop]
   have hl : (EPt.all (xs.take i)).length = i * 1 := by rw [EPt_len, List.length_take, Nat.min_eq_left h]
   rw [e, ← hl, List.drop_left]
 · rw [List.drop_of_length_le (by rw [EPt_len]; omega), List.drop_of_length_le h]; rfl
/-- one entry is put into a slice of one's own -/
theorem InsertP_own {w : World} {s : Sl} {xs : List Nat} (hO : Own w T.y_p_tree_node 1 s (EPt.all xs)) (hb : xs.length ≤ 1000000000) {h : Nat} {x : Nat}
   (hh : w.heap[h]? = some (.cells ⟨EPt.all [x]⟩ T.y_p_tree_node (0, 0))) (hsep : ¬ s.bk h) {i : Nat} (hi : i ≤ xs.length) {R : Sl → World → Prop}
   (hR : ∀ l w', Own w' T.y_p_tree_node 1 l (EPt.all (xs.take i ++ [x] ++ xs.drop i)) → Fr s.bk w w' → Moved w s l → R l w') : F.slices_Insert_sl__tree_node_tree_node s i ⟨some (blk h), 1, 1⟩ w R := by
 have und := elt_pt.und
 obtain ⟨inf, z, hinf, hz, hs1, hby, hzc⟩ := elt_pt.info
 apply E.slices_Insert_sl__tree_node_tree_node
 unfold V.slices_Insert_sl__tree_node_tree_node
 try simp -zeta only [ldC, soC, brC, bkA, slC, stC, alC, drC]
 have hlen : s.len = xs.length := by have := hO.len; rw [EPt_len] at this; omega
 have hx2 : (EPt.all [x]).length = 1 := by rw [EPt_len]; rfl
 have hsrc : ∀ j u, (EPt.all [x])[j]? = some u → w.cell? ((blk h).add j) = some u := fun j u hu => by rw [blk_cell hh]; exact hu
 refine ⟨by omega, by rw [hlen]; omega, fun h0 => by simp at h0, fun _ => ⟨fun heq => ?_, fun hne => ?_⟩⟩
 · have heq : i = xs.length := by simp at heq; omega
   subst heq
   refine runT_append und hinf hz hs1 hby hzc (by decide) hO (m := 1) (news := EPt.all [x]) hx2 hsrc (EPt.all_one _) (by simp only [maxLen]; omega) (by omega) fun l2 w2 ho hl hf hm => ?_
   refine hR l2 w2 ?_ hf hm
   rw [List.take_length, List.drop_length, List.append_nil, EPt.all_app]; exact ho
 have hlt : i < xs.length := by simp at hne; omega
 have e1 : w64 ((xs.length : Int) + ((1 : Nat) : Int)) = ((xs.length + 1 : Nat) : Int) := by rw [w64_id (by omega) (by omega)]; omega
 have e2 : w64 ((i : Int) + ((1 : Nat) : Int)) = ((i + 1 : Nat) : Int) := by rw [w64_id (by omega) (by omega)]; omega
 have e3 : w64 (((xs.length + 1 : Nat) : Int) - (i : Int)) = ((xs.length + 1 - i : Nat) : Int) := by rw [w64_id (by omega) (by omega)]; omega
 have hn0 : s.len ≠ 0 := by omega
 obtain ⟨g, cur, ha, hg, hcl, htk, hlc, hcm⟩ := Own.row hO hn0
 simp only [e1, e2, e3, slA0, hlen, Int.toNat_natCast]
 refine ⟨fun hbig => ?_, fun hroom => ?_⟩
 · have hbig : s.cap < xs.length + 1 := by have := of_decide_eq_true hbig; omega
   refine ⟨by omega, by omega, ?_⟩
   have hpre := Own.pre hO (i := i) (by omega) hn0
   rw [EPt_take] at hpre
   refine runT_append_zeros (l := ⟨s.a, i, s.cap⟩) und und_int hinf hz hs1 hby hzc (by decide) (by decide) hpre (m := xs.length + 1 - i) (by omega) (by show (i + (xs.length + 1 - i)) * 8 ≤ _; omega) (by show s.cap < i + (xs.length + 1 - i); omega) fun cap' w1 hO1 hF1 hsz1 => ?_
   have hln : i + (xs.length + 1 - i) = xs.length + 1 := by omega
   simp only [hln] at hO1 ⊢
   obtain ⟨g1, cur1, ha1, hg1, hcl1, htk1, hlc1, hcm1⟩ := Own.row hO1 (by show xs.length + 1 ≠ 0; omega)
   simp only [Option.some.injEq, Addr.mk.injEq] at ha1
   have hgg : g1 = w.heap.size := by have := congrArg Addr.block (show blk w.heap.size = blk g1 by simpa using ha1); exact this.symm
   subst hgg
   simp only at hcl1 htk1 hlc1 hcm1
   have hgw := heap_lt hg
   have hA1 : cur1.take (i * 1) = EPt.all (xs.take i) := by
     have h3 : (cur1.take ((xs.length + 1) * 1)).take (i * 1) = EPt.all (xs.take i) := by
       rw [htk1, List.take_append_of_le_length (by rw [EPt_len, List.length_take]; omega)]
       exact List.take_of_length_le (by rw [EPt_len, List.length_take]; omega)
     rwa [List.take_take, Nat.min_eq_left (by omega)] at h3
   have hsrc1 : ∀ j u, (EPt.all [x])[j]? = some u → w1.cell? ((blk h).add j) = some u := fun j u hu => by rw [blk_cell (hF1.heap hh id)]; exact hu
   rw [slA_ne (by omega)]
   refine ⟨by omega, by omega, ?_⟩
   refine runT_copy und hinf hs1 hg1 (cs := EPt.all [x]) (by rw [hx2, show Nat.min 1 (xs.length + 1 - i) = 1 from Nat.min_eq_left (by omega)]) hsrc1 (by rw [hx2, hcl1]; omega) (EPt.all_one _) fun w2 hg2 hF2 hs2 => ?_
   have hg3 : w2.drew.heap[w.heap.size]? = _ := hg2
   have hF3 : Fr (· = w.heap.size) w1 w2.drew := hF2.trans (Fr.drew _ w2) (fun _ _ h => h)
   generalize w2.drew = w3 at hg3 hF3 ⊢
   have hO3 : Own w3 T.y_p_tree_node 1 s (EPt.all xs) := (hO.keep hF1 (fun _ _ => id)).keep hF3 (fun k hk hh' => by have := hO.lt hk; have h5 : k = w.heap.size := hh'; omega)
   have hsrc3 : ∀ j u, (EPt.all (xs.drop i))[j]? = some u → w3.cell? ((⟨g, i * 1, none⟩ : Addr).add j) = some u := fun j u hu => by
     rw [← add_blk, add_add]
     refine Own.at hO3 ha (j := i * 1 + j) ?_
     rw [← hu, ← EPt_drop, List.getElem?_drop]
   have hdl : (EPt.all (xs.drop i)).length = (xs.length - i) * 1 := by rw [EPt_len, List.length_drop]
   refine ⟨by omega, by omega, by omega, by omega, ?_⟩
   rw [ha, slA_ne (by omega), slA_ne (by omega)]
   refine runT_copy und hinf hs1 hg3 (cs := EPt.all (xs.drop i)) (by rw [hdl, show Nat.min (xs.length - i) (xs.length + 1 - (i + 1)) = xs.length - i from Nat.min_eq_left (by omega)]) hsrc3 (by simp only [List.length_append, List.length_take, List.length_drop, hx2, hdl, hcl1]; omega) (EPt.all_one _) fun w4 hg4 hF4 hs4 => ?_
   obtain ⟨q1, q2⟩ := ins_up (cur := cur1) (A := EPt.all (xs.take i)) (X := EPt.all [x]) (D := EPt.all (xs.drop i)) (i := i * 1) (x := 1) (d := (xs.length - i) * 1) hA1 (by rw [EPt_len, List.length_take]; omega) hx2 hdl (by rw [hcl1]; omega)
   have ei : (i + 1) * 1 = i * 1 + 1 := by omega
   rw [ei] at hg4
   refine hR _ w4 ?_ ?_ (.inr ⟨_, rfl, Nat.le_refl _⟩)
   · have h6 := Own.of (n := xs.length + 1) (cap := cap') hg4 (by rw [q2, hcl1]) hlc1 hcm1
     rw [show (xs.length + 1) * 1 = i * 1 + 1 + (xs.length - i) * 1 by omega, q1] at h6
     rw [EPt.all_app, EPt.all_app]
     exact h6
   · refine ((hF1.mono (S' := s.bk) (fun _ _ h => h.elim)).trans (S := s.bk) (hF3.trans (S := (· = w.heap.size)) hF4 (fun _ _ h => h)) (fun k hk h' => ?_))
     have h5 : k = w.heap.size := h'
     omega
 · have hroom : xs.length + 1 ≤ s.cap := by have := of_decide_eq_false hroom; omega
   have hbk : s.bk g := ⟨blk g, ha, rfl⟩
   have hgh : h ≠ g := fun hh' => hsep (hh' ▸ hbk)
   have hdl : (EPt.all (xs.drop i)).length = (xs.length - i) * 1 := by rw [EPt_len, List.length_drop]
   have hA1 : cur.take (i * 1) = EPt.all (xs.take i) := by
     have h3 : (cur.take (s.len * 1)).take (i * 1) = EPt.all (xs.take i) := by rw [htk, EPt_take]
     rwa [List.take_take, Nat.min_eq_left (by omega)] at h3
   have hov : (callFunc 203 #[.slice (some (blk h)) 1 1, .slice (slA s.a s.cap (i + 1) 1) (xs.length + 1 - (i + 1)) (s.cap - (i + 1))]).run Pg w = .ok (.value (.bool false)) w := by
     rw [run_callFunc_extern (fn := Tryz.f203) Tryz.func203 (by kernel_rfl) (by kernel_rfl) (by kernel_rfl) (e := Extern.SlicesOverlaps.overlaps #[T.y_sl_p_tree_node, T.y_sl_p_tree_node] #[T.y_bool]) (by kernel_rfl)]
     rw [ha, slA_ne (by omega)]
     rw [run_overlaps_apart w T.y_sl_p_tree_node T.y_bool T.y_p_tree_node und 1 (fun w => by simp [sizeOf, typeInfo, hinf, hs1]) (blk h) ⟨g, (i + 1) * 1, none⟩ 1 1 _ _ hgh T.y_p_tree_node T.y_p_tree_node 1 (s.cap * 1) ?_ ?_ (by omega) ?_ ?_]
     · rfl
     · simp [World.shape?, hh, hx2]
     · simp [World.shape?, hg, hcl]
     · exact frozen_of_row w h 0 _ _ hh
     · exact frozen_of_row w h 1 _ _ hh
   refine ⟨by omega, by omega, by omega, by omega, false, w, hov, fun _ => ?_, fun h' => by cases h'⟩
   have hF1 : Fr no w w.drew := Fr.drew no w
   generalize w.drew = w1 at hF1 ⊢
   have hg1 := hF1.heap hg id
   have hO1 := hO.keep hF1 (fun _ _ => id)
   have hh1 := hF1.heap hh id
   refine ⟨by omega, by omega, by omega, by omega, ?_⟩
   rw [ha, slA_ne (by omega), slA_ne (by omega)]
   have hsrc1 : ∀ j u, (EPt.all (xs.drop i))[j]? = some u → w1.cell? ((⟨g, i * 1, none⟩ : Addr).add j) = some u := fun j u hu => by
     rw [← add_blk, add_add]
     refine Own.at hO1 ha (j := i * 1 + j) ?_
     rw [← hu, ← EPt_drop, List.getElem?_drop]
   refine runT_copy und hinf hs1 hg1 (cs := EPt.all (xs.drop i)) (by rw [hdl, show Nat.min (xs.length + 1 - i) (xs.length + 1 - (i + 1)) = xs.length - i from (Nat.min_eq_right (by omega)).trans (by omega)]) hsrc1 (by rw [hdl, hcl]; omega) (EPt.all_one _) fun w2 hg2 hF2 hs2 => ?_
   have hh2 := hF2.heap hh1 (fun h' => hgh h')
   have hsrc2 : ∀ j u, (EPt.all [x])[j]? = some u → w2.cell? ((blk h).add j) = some u := fun j u hu => by rw [blk_cell hh2]; exact hu
   refine ⟨by omega, by omega, ?_⟩
   refine runT_copy und hinf hs1 hg2 (cs := EPt.all [x]) (by rw [hx2, show Nat.min 1 (xs.length + 1 - i) = 1 from Nat.min_eq_left (by omega)]) hsrc2 (by simp only [List.length_append, List.length_take, List.length_drop, hx2, hdl, hcl]; omega) (EPt.all_one _) fun w3 hg3 hF3 hs3 => ?_
   have ei : (i + 1) * 1 = i * 1 + 1 := by omega
   rw [ei] at hg3
   obtain ⟨q1, q2⟩ := ins_at (cur := cur) (A := EPt.all (xs.take i)) (X := EPt.all [x]) (D := EPt.all (xs.drop i)) (i := i * 1) (x := 1) (d := (xs.length - i) * 1) hA1 (by rw [EPt_len, List.length_take]; omega) hx2 hdl (by rw [hcl]; omega)
   refine hR _ w3 ?_ ?_ (.inl ha.symm)
   · have h6 := Own.of (n := xs.length + 1) (cap := s.cap) hg3 (by rw [q2, hcl]) hroom hcm
     rw [show (xs.length + 1) * 1 = i * 1 + 1 + (xs.length - i) * 1 by omega, q1] at h6
     rw [EPt.all_app, EPt.all_app]
     exact h6
   · exact (hF1.mono (S' := s.bk) (fun _ _ h => h.elim)).trans (S := s.bk) (hF2.trans (S := (· = g)) hF3 (fun _ _ h => h)) (fun k _ h' => by have h5 : k = g := h'; rw [h5]; exact hbk)
section
variable {w : World} {X : List As}
theorem St.rowsP {s l : Sl} {xs ys : List Nat} {w' : World} (h : St w (Row EPt T.y_p_tree_node s xs :: X)) (ho : Own w' T.y_p_tree_node 1 l (EPt.all ys)) (hf : Fr s.bk w w') (hm : Moved w s l) : St w' (Row EPt T.y_p_tree_node l ys :: X) := by
 obtain ⟨S, ⟨hO, e⟩, _, hX⟩ := h.out
 subst e
 refine hX (A' := Row EPt T.y_p_tree_node l ys) ⟨ho, rfl⟩ hf fun k hk => ?_
 obtain ⟨a, ha, hb⟩ := hk
 rcases hm with e | ⟨g, e, hg⟩
 · exact .inl ⟨a, by rw [← e]; exact ha, hb⟩
 · rw [e] at ha
   injection ha with ha
   subst ha; subst hb
   exact .inr hg
theorem InsertP_st {g : Nat} {x : Nat} {s : Sl} {xs : List Nat} (h : St w (Cs g (EPt.all [x]) T.y_p_tree_node :: Row EPt T.y_p_tree_node s xs :: X)) (hb : xs.length ≤ 1000000000) {i : Nat} (hi : i ≤ xs.length) {R : Sl → World → Prop}
   (hR : ∀ l w', St w' (Row EPt T.y_p_tree_node l (xs.take i ++ [x] ++ xs.drop i) :: X) → R l w') : F.slices_Insert_sl__tree_node_tree_node s i ⟨some (blk g), 1, 1⟩ w R := by
 obtain ⟨a, b, ⟨_, e1⟩, ⟨_, e2⟩, hd⟩ := St.two h
 refine InsertP_own (St.own h.sw) hb (St.bl h) (fun hk => ?_) hi fun l w' ho hf hm => hR l w' ((St.rowsP h.sw ho hf hm).d2)
 subst e1; subst e2
 exact hd g rfl hk
end
section
variable {w : World} {X : List As}
theorem app_pt {l sl : Sl} {xs ys : List Nat} (h : St w (Row EPt T.y_p_tree_node l xs :: X)) (hs : Has EPt w sl ys) {a : Addr} (ha : sl.a = some a) (hb : xs.length + ys.length ≤ 1000000) {R : Sl → World → Prop}
   (hR : ∀ l' w', St w' (Row EPt T.y_p_tree_node l' (xs ++ ys) :: X) → R l' w') : RunT Pg (Builtin.append_ #[T.y_sl_p_tree_node, T.y_sl_p_tree_node] T.y_sl_p_tree_node #[.slice l.a l.len l.cap, .slice (some a) sl.len sl.cap]) [.one .slice] w R :=
 St.app elt_pt h hs ha (by omega) (by omega) fun l' w' h' _ => hR l' w' h'
theorem Clone_pt (h : St w X) {sl : Sl} {xs : List Nat} (hx : ∀ w', St w' X → Has EPt w' sl xs) (hn : NilOk sl) (hb : xs.length ≤ 1000000) {R : Sl → World → Prop}
   (hR : ∀ l w', St w' (Row EPt T.y_p_tree_node l xs :: X) → R l w') : F.slices_Clone_sl__tree_node_tree_node sl w R := by
 apply E.slices_Clone_sl__tree_node_tree_node
 unfold V.slices_Clone_sl__tree_node_tree_node
 try simp -zeta only [ldC, soC, brC, bkA, slC, cnd_all, blk_add2, Nat.reduceAdd]
 refine ⟨fun he => ?_, fun hs => ?_⟩
 · have ha : sl.a = none := by simpa using he
   have hz := hn ha
   have : xs = [] := List.eq_nil_of_length_eq_zero (by rw [← (hx w h).1, hz])
   subst this
   exact hR _ _ (h.row0 EPt T.y_p_tree_node)
 · obtain ⟨a, ha⟩ : ∃ a, sl.a = some a := by
     cases hc : sl.a with
     | none => rw [hc] at hs; cases hs
     | some a => exact ⟨a, rfl⟩
   refine St.al h fun wa1 h => ?_
   have h2 := St.rowLit h (En := EPt) (xs := []) (n := 0) rfl rfl (by decide)
   have hx2 := hx _ h.drop
   rw [ha]
   exact app_pt (l := ⟨some (blk w.heap.size), 0, 0⟩) (xs := []) h2 hx2 ha (by simp only [List.length_nil]; omega) hR
end
end Go.Proofs.YtggachhkcmfijaaGreatDoor
