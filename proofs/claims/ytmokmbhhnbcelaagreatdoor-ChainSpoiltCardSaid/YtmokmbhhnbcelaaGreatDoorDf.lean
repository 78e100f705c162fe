/- desk: Sync. -/
import Derived.Test.YtmokmbhhnbcelaaGreatDoorDe
set_option linter.unusedVariables false
namespace Go.Proofs.YtmokmbhhnbcelaaGreatDoor
open Go Go.Vc Go.RowKit Go.Lib Go.Maps Go.Proofs

def syncD (D : DkV) : DkV := if written D = [] then { D with syncs := D.syncs + 1, ws := [] } else ⟨commitD D.d D.seq (written D), D.seq + 1, D.commits + 1, D.syncs + 1, D.bs, []⟩

section
variable {w : World} {k u g r b : Nat} {fpd fpr : Nat → Prop} {D : DkV} {c : Nat}

theorem written_mem (h : DOk c D) : ∀ x ∈ written D, 0 ≤ x.1 ∧ x.1 < (D.bs.length : Int) ∧ x.2.length = 256 := fun x hx => by
  have hb := h.bsl
  have key : ∀ e ∈ D.ws ++ (if homeAt D.d 1 = layRoom D.bs then [] else [(1, layRoom D.bs)]), 0 ≤ e.1 ∧ e.1 < (D.bs.length : Int) ∧ e.2.length = 256 := fun e he => by
    rcases List.mem_append.1 he with h1 | h1
    · have h2 := h.ws _ h1
      exact ⟨h2.1, h2.2.1, h2.2.2.2⟩
    · split at h1
      · cases h1
      · simp only [List.mem_cons, List.not_mem_nil, or_false] at h1
        subst h1
        exact ⟨by show (0 : Int) ≤ 1; decide, by show (1 : Int) < _; omega, layRoom_len' _ (by omega)⟩
  obtain ⟨y, hy, rfl⟩ := List.mem_map.1 hx
  rw [(nextT_up _).2] at hy
  exact key _ (lastW_mem _ y hy)
theorem written_keys (D : DkV) : nextT (keysW (written D)) = keysW (written D) := by
  unfold written
  rw [keys_norm, nextT_next]
theorem written_E (h : DOk c D) (hl : (written D).length ≤ 110) : lastE (sizeD D.d) (written D) = 0 := by
  have hlen := h.len
  have hs : sizeD D.d = (D.d.l.length : Int) - 111 := rfl
  refine lastE_ok (fun x hx => ?_) (by rw [written_keys, keysW, List.length_map]; exact hl)
  have := written_mem h x hx
  exact ⟨this.1, by omega, this.2.2⟩

theorem DOk.sync (h : DOk c D) (hc : c ≤ 1000000) (hl : (written D).length ≤ 110) : DOk (c + 1) (syncD D) := by
  have hq := h.q
  have hseq := h.seq
  have hcom := h.com
  have hsyn := h.syn
  have hmany := h.many
  unfold syncD
  split
  · exact ⟨h.q, h.len, h.u0, h.u1, fun x hx => (by cases hx), Nat.zero_le _, ⟨hseq.1, by show D.seq ≤ _; omega⟩, ⟨hcom.1, by show D.commits ≤ _; omega⟩, ⟨by show 0 ≤ D.syncs + 1; omega, by show D.syncs + 1 ≤ _; omega⟩, by show D.d.many ≤ _; omega⟩
  · obtain ⟨q1, q2, q3, q4⟩ := commit_facts hq hseq.1 (by omega) (written_E h hl)
    rw [written_keys] at q3
    have hkl : (keysW (written D)).length ≤ 110 := by rw [keysW, List.length_map]; exact hl
    refine ⟨q1, by show D.bs.length + 111 = (commitD _ _ _).l.length; rw [q2]; exact h.len, h.u0, h.u1, fun x hx => (by cases hx), Nat.zero_le _, ⟨by show 0 ≤ D.seq + 1; omega, by show D.seq + 1 ≤ _; omega⟩, ⟨by show 0 ≤ D.commits + 1; omega, by show D.commits + 1 ≤ _; omega⟩, ⟨by show 0 ≤ D.syncs + 1; omega, by show D.syncs + 1 ≤ _; omega⟩, ?_⟩
    show (commitD _ _ _).many ≤ _
    rw [q3]; omega

set_option maxHeartbeats 2000000 in
theorem Sync_desk (h : DeskA w k u g r b fpd fpr D) (hk : DOk c D) (hc : c ≤ 100000) {R : Int → World → Prop}
    (hL : ∀ w', 110 < (written D).length → DeskA w' k u g r b fpd fpr D → Below w.heap.size w w' → R 21 w')
    (hR : ∀ b' fpd' w', (written D).length ≤ 110 → DeskA w' k u g r b' fpd' fpr (syncD D) → Gr (fpK k u b fpd fpr) (fpK k u b' fpd' fpr) w w' → R 0 w') : F.desk_Desk_Sync (some (blk k)) w R := by
  apply E.desk_Desk_Sync
  unfold V.desk_Desk_Sync
  have hhi := hk.q.hi
  have hlo := hk.q.lo
  have hseq := hk.seq
  have hcom := hk.com
  have hsyn := hk.syn
  have hmany := hk.many
  refine Bad_desk h ⟨fun h => by simp at h, fun _ => written_desk h hk (by omega) fun l1 w1 hO1 hbk1 hB1 => ?_⟩
  have hl1 := (Own.wrs hO1).1
  have h1 := h.below hB1
  have s1 := hB1.size
  refine ⟨fun hgt => hL w1 (by have := of_decide_eq_true hgt; omega) h1 hB1, fun hle => ?_⟩
  have hle : (written D).length ≤ 110 := by have := of_decide_eq_false hle; omega
  have hE := written_E hk hle
  have S := h1.sep
  -- what is behind the commit
  have tail : ∀ (fpd' : Nat → Prop) (D' : DkV) (w2 : World), D'.bs = D.bs → D'.ws = [] → D'.syncs = D.syncs + 1 → Wl w2 u g ⟨D'.seq, false, D'.commits⟩ → Dsk w2 g fpd' D'.d → Gr (fun j => fpd j ∨ j = u) (fun j => fpd' j ∨ j = u) w1 w2 → syncD D = D' →
      (((0 : Int) != 0) = false → (let w_4 := w2.alloc (.map #[] 0); ∃ (ad2 : Addr), (some (blk k) = some ad2 ∧ (Wr w_4 (ad2.add 2) ∧ (let w_5 := w_4.setCell (ad2.add 2) (.map (some w2.heap.size)); ∃ (ad3 : Addr), (some (blk k) = some ad3 ∧ (∃ (n2 : Int), (w_5.cell? (ad3.add 3) = some (.int .i64 n2) ∧ (∃ (ad4 : Addr), (some (blk k) = some ad4 ∧ (Wr w_5 (ad4.add 3) ∧ (let w_6 := w_5.setCell (ad4.add 3) (.int .i64 (w64 (n2 + 1))); R 0 w_6)))))))))))) := by
    intro fpd' D' w2 hbs hws hsy hu2 hd2 hG2 heq _
    have nk : ¬ (fpd k ∨ k = u) := fun hor => hor.elim S.dk S.ku
    have obj2 := hG2.fr.heap h1.obj nk
    have hr2 := h1.rm.keep hG2.fr (fun j hj hor => by
      rcases hor with h' | h'
      · exact S.dr j h' hj
      · subst h'; exact S.ru hj)
    have s2 := hG2.size
    intro w3
    have hm3 : MapOf w3 w2.heap.size [] := MapOf.made w2
    have hF3 : Fr no w2 w3 := Fr.alloc no w2 _
    clear_value w3
    have obj3 := hF3.heap obj2 id
    have hkl := heap_lt obj2
    refine ⟨blk k, rfl, blk_wr obj3 (by simp), ?_⟩
    intro w4
    have obj4 : w4.heap[k]? = some (.cells ⟨[.pointer (some (blk u)), .pointer (some (blk r)), .map (some w2.heap.size), .int .i64 D.syncs, .int .i64 0]⟩ T.y_desk_Desk (0, 0)) := by have := blk_set obj3 2 (.map (some w2.heap.size)); exact this
    have hF4 : Fr (· = k) w3 w4 := fr_set w3 k 2 _
    clear_value w4
    refine ⟨blk k, rfl, D.syncs, by rw [blk_cell obj4]; rfl, blk k, rfl, blk_wr obj4 (by simp), ?_⟩
    rw [w64_id (by omega) (by omega)]
    intro w5
    have obj5 : w5.heap[k]? = some (.cells ⟨[.pointer (some (blk u)), .pointer (some (blk r)), .map (some w2.heap.size), .int .i64 (D.syncs + 1), .int .i64 0]⟩ T.y_desk_Desk (0, 0)) := by have := blk_set obj4 3 (.int .i64 (D.syncs + 1)); exact this
    have hF5 : Fr (· = k) w4 w5 := fr_set w4 k 3 _
    clear_value w5
    have hF35 : Fr (· = k) w3 w5 := hF4.trans (S' := (· = k)) hF5 (fun _ _ h => h)
    have hF25 : Fr (· = k) w2 w5 := (hF3.mono (S' := (· = k)) fun _ _ h => h.elim).trans (S' := (· = k)) hF35 (fun _ _ h => h)
    have nd : ∀ j, fpd' j → ¬ j = k := fun j hj e => by
      subst e
      obtain ⟨cs, t, ht, h3⟩ := hd2.typ hj
      rcases h3 with rfl | rfl | rfl <;> exact typ_ne obj2 ht (by decide)
    refine hR w2.heap.size fpd' w5 hle ?_ ⟨?_, fun j hj => ?_⟩
    · rw [heq]
      refine ⟨by rw [hsy]; exact obj5, hu2.keep hF25 (fun e => S.ku e.symm), hd2.keep hF25 nd, by rw [hbs]; exact hr2.keep hF25 (fun j hj e => S.rk (by have : j = k := e; exact this ▸ hj)), by rw [hws]; exact hm3.keep hF35 (fun e => by have : w2.heap.size = k := e; omega)⟩
    · have a1 := (fr_below hB1).mono (S' := fpK k u b fpd fpr) (fun _ _ h => h.elim)
      have a2 := a1.trans hG2.fr (fun j _ hj => by
        rcases hj with h' | h'
        · exact .inr (.inr (.inr (.inl h')))
        · exact .inr (.inl h'))
      exact a2.trans (S' := (· = k)) hF25 (fun _ _ h => .inl h)
    · rcases hj with h' | h' | h' | h' | h'
      · exact .inl (.inl h')
      · exact .inl (.inr (.inl h'))
      · exact .inr (by omega)
      · rcases hG2.new j (.inl h') with h3 | h3
        · rcases h3 with h4 | h4
          · exact .inl (.inr (.inr (.inr (.inl h4))))
          · exact .inl (.inr (.inl h4))
        · exact .inr (by omega)
      · exact .inl (.inr (.inr (.inr (.inr h'))))
  have hwl : (written D).length ≤ 1000000 := by omega
  refine ⟨blk k, rfl, some (blk u), h1.c0, Commit_wal h1.wl h1.dk hk.q.off (Own.wrs hO1) (fun j hj => hO1.lt hj) hwl hlo hhi hseq.1 (by omega) hcom.1 (by omega) hk.q.many (by omega) (by rw [hk.q.ws]; decide) (fun w' hne => absurd hE hne) (fun w2 he hB2 => ⟨fun h => by simp at h, ?_⟩) fun fpd' w2 _ hne hd2 hu2 hG2 => ⟨fun h => by simp at h, ?_⟩⟩
  · have e1 : syncD D = { D with syncs := D.syncs + 1, ws := [] } := by unfold syncD; rw [if_pos he]
    exact tail fpd { D with syncs := D.syncs + 1, ws := [] } w2 rfl rfl rfl (h1.wl.below hB2) (h1.dk.below hB2) (Gr.below hB2) e1
  · have e1 : syncD D = ⟨commitD D.d D.seq (written D), D.seq + 1, D.commits + 1, D.syncs + 1, D.bs, []⟩ := by unfold syncD; rw [if_neg hne]
    exact tail fpd' ⟨commitD D.d D.seq (written D), D.seq + 1, D.commits + 1, D.syncs + 1, D.bs, []⟩ w2 rfl rfl rfl hu2 hd2 hG2 e1
end

end Go.Proofs.YtmokmbhhnbcelaaGreatDoor
