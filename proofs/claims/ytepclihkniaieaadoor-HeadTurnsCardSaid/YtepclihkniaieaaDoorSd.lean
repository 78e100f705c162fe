/- table.Cut. -/
import Derived.Test.YtepclihkniaieaaDoorSc
set_option linter.unusedVariables false
namespace Go.Proofs.YtepclihkniaieaaDoor
open Go Go.Vc Go.RowKit Go.Lib

theorem Texts.fr {w w' : World} {sl : Sl} {ts : List (List UInt8)} (h : Texts w sl ts) {S : Nat → Prop} (hf : Fr S w w') (hs : ∀ k, sl.bk k → ¬ S k) : Texts w' sl ts :=
  ⟨h.1, fun j v hj => by
    obtain ⟨a, ha, hc⟩ := h.2 j v hj
    refine ⟨a, ha, hf.cell hc ?_⟩
    have : (a.add (j * 1)).block = a.block := by unfold Addr.add; split <;> rfl
    rw [this]
    exact hs _ ⟨a, ha, rfl⟩⟩

theorem Cut_spec {w : World} {sl nl : Sl} {ns : List (List UInt8 × Int)} {ts : List (List UInt8)} (hN : Names w sl ns) (hT : Texts w nl ts) (hnl : ∀ k, nl.bk k → k < w.heap.size) (hb : ns.length ≤ 100000000) (hbl : ∀ n ∈ ns, n.1.length ≤ 1000000000000000000) (hbt : ts.length ≤ 1000000000000000)
    {R : Sl → World → Prop} (hR : ∀ l w', Own w' T.y_table_Name 2 l (nameCells (ns.filter fun n => !ts.contains n.1)) → (∀ k, l.bk k → w.heap.size ≤ k) → Below w.heap.size w w' → R l w') : F.table_Cut sl nl w R := by
  apply E.table_Cut
  unfold V.table_Cut
  intro w1
  have h1 : w1.heap[w.heap.size]? = some (.cells ⟨[.slice nl.a nl.len nl.cap]⟩ T.y_sl_string (0, 0)) := heap_new w _
  have hF1 : Fr no w w1 := Fr.alloc _ _ _
  have hs1 : w1.heap.size = w.heap.size + 1 := by simp [w1]
  clear_value w1
  have hB1 := below_fr hF1
  have hT1 := hT.below hB1
  refine Clone_names (hN.below hB1) (by omega) fun l w2 hO2 hbk2 hB2 => ?_
  have hB02 := hB1.trans (hB2.mono hB1.size)
  have hI : w2.heap[w.heap.size]? = some (.cells ⟨[.slice nl.a nl.len nl.cap]⟩ T.y_sl_string (0, 0)) ∧ Texts w2 nl ts := ⟨(fr_below hB2).heap h1 id, hT1.below hB2⟩
  refine DeleteFunc_spec hO2 (by omega) hbl (p := fun n => ts.contains n.1) (I := fun x => x.heap[w.heap.size]? = some (.cells ⟨[.slice nl.a nl.len nl.cap]⟩ T.y_sl_string (0, 0)) ∧ Texts x nl ts)
    (okChk_spec (by kernel_rfl)) hI (fun x y hxy hx => ⟨hxy.heap hx.1 (fun hk => by have := hbk2 _ hk; omega), hx.2.fr hxy (fun k hk hk' => by have := hbk2 k hk'; have := hnl k hk; omega)⟩) ?_ ?_
  · intro n x hn hx R' hR'
    refine (show F.table_Cut_fn1 (tx n.1) n.2 (blk w.heap.size) x R' from E.table_Cut_fn1 ?_)
    unfold V.table_Cut_fn1
    intro y
    have hy : y.heap[x.heap.size]? = some (.cells ⟨[.string (tx n.1), .int .i64 n.2]⟩ T.y_table_Name (0, 0)) := heap_new x _
    have hFy : Fr no x y := Fr.alloc _ _ _
    clear_value y
    have hx1 := hFy.heap hx.1 id
    exact ⟨nl, by rw [blk_cell0 hx1]; rfl, tx n.1, by rw [blk_cell0 hy]; rfl, Contains_spec (hx.2.below (below_fr hFy)) hbt (hR' y hFy)⟩
  · intro l3 w3 hO3 hbk3 hF3
    exact hR l3 w3 hO3 (fun k hk => by have := hbk2 k (hbk3 k hk); omega) (hB02.trans (hF3.toBelow (fun k hk => by have := hbk2 k hk; omega) hB02.size))

end Go.Proofs.YtepclihkniaieaaDoor
