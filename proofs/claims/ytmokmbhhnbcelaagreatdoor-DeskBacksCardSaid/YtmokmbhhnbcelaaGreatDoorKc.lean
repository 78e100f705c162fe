/- desk: Keep; Drop of a list that came in. -/
import Derived.Test.YtmokmbhhnbcelaaGreatDoorShelh
import Derived.Test.YtmokmbhhnbcelaaGreatDoorHy
set_option linter.unusedVariables false
namespace Go.Proofs.YtmokmbhhnbcelaaGreatDoor
open Go Go.Vc Go.RowKit Go.Lib Go.Maps Go.Proofs

section
variable {w : World}
theorem mdelf_run {b : Nat} {ws : List Wr1} (hm : MapOf w b ws) {c : Addr} {pd : Int → Bool}
    (hdel : ∀ (W : World) (x : Int) (s : ByteArray), Fr (· = b) w W → F.desk_Desk_Keep_fn1 x s c W fun r w' => r = pd x ∧ Below W.heap.size W w') {R : World → Prop}
    (hR : ∀ w', MapOf w' b (ws.filter fun p => !pd p.1) → Fr (· = b) w w' → R w') : F.maps_DeleteFunc_map_int_string_int_string (some b) (.func (.func 133) #[] #[.pointer (some c)]) w R := by
  obtain ⟨M, n, ho, hn, hh, hat⟩ := hm
  have hcall : ∀ args w, (callFunc 133 args).run Pg w = .ok (.enter 133 args) w := fun args w => run_callFunc (P := Pg) (f := 133) ⟨Tryz.f133, Tryz.func133, by kernel_rfl, by kernel_rfl⟩ args w
  refine Calls.mono (AnyDf.maps_DeleteFunc (H := Unit) Tryz.mdelf Kint (plainElem (H := Unit) Pg T.y_string) (fun kl _ => match kl with | .int .i64 x => pd x | _ => false) 133 #[.pointer (some c)] b n M w hcall ho fun W key val kl yd yp hg hk hv => ?_) fun e w' hx => ?_
  · obtain ⟨x, rfl, rfl, _⟩ := Maps.keyOf_i64 und_int' hk
    obtain ⟨s, rfl, _, _⟩ := plainElem_string_inv und_str' hv
    have hf : Fr (· = b) w W := Fr.grown hg fun k hk => (Option.some.inj hk).symm
    refine Calls.mono (hdel W x s hf) fun e w' hx => ?_
    obtain ⟨r, he, rfl, hB⟩ := hx
    exact ⟨he, ⟨hB.os, hB.tape, hB.output, hB.size, fun k hk _ => hB.block k hk⟩⟩
  · obtain ⟨he, ho', hg⟩ := hx
    have ho' : w'.ownsMap Pg T.y_int (plainElem (H := Unit) Pg T.y_string) b n (Lib.deleteFuncD (fun kl _ => match kl with | .int .i64 x => pd x | _ => false) M) := ho'
    obtain ⟨es, hD, hpw, hkl⟩ := ho.entries Kint
    subst hD
    have hget : ∀ y d, (Lit.int .i64 y, d) ∈ es → d = .lit (.string (lastW ws y)) := fun y d hm => by
      have h1 := WideAt.atKey_mem (.lit (.string [])) (show WideAt.IsKeyLit (.int .i64 y) from trivial) hpw hm
      rw [hat y] at h1
      exact h1.symm
    have hhas : ∀ y, Maps.has (.map es) (.int .i64 y) = true ↔ ∃ d, (Lit.int .i64 y, d) ∈ es := fun y => by
      rw [Maps.has_eq, List.any_eq_true]
      constructor
      · rintro ⟨p, hp, hs⟩
        have e1 := WideAt.sameKey_eq hs
        exact ⟨p.2, by rw [← e1]; exact hp⟩
      · rintro ⟨d, hd⟩
        exact ⟨_, hd, WideAt.sameKey_self (show WideAt.IsKeyLit (.int .i64 y) from trivial)⟩
    have hkey : ∀ y : Int, y ∈ keysW (ws.filter fun p => !pd p.1) ↔ y ∈ keysW ws ∧ pd y = false := fun y => by
      simp only [keysW, List.mem_map, List.mem_filter, Bool.not_eq_true']
      constructor
      · rintro ⟨p, ⟨h1, h2⟩, rfl⟩; exact ⟨⟨p, h1, rfl⟩, h2⟩
      · rintro ⟨⟨p, h1, rfl⟩, h2⟩; exact ⟨p, ⟨h1, h2⟩, rfl⟩
    have hlw : ∀ y : Int, pd y = false → lastW (ws.filter fun p => !pd p.1) y = lastW ws y := fun y hy => by
      refine snoc_ind (P := fun ws => lastW (ws.filter fun p => !pd p.1) y = lastW ws y) rfl (fun l a ih => ?_) ws
      rw [List.filter_append, lastW_app]
      cases ha : pd a.1
      · have e : [a].filter (fun p => !pd p.1) = [a] := by simp [ha]
        rw [e, lastW_app, ih]
      · have e : [a].filter (fun p => !pd p.1) = [] := by simp [ha]
        have hne : a.1 ≠ y := fun h => by rw [h, hy] at ha; cases ha
        rw [e, List.append_nil, if_neg hne, ih]
    have hnone : ∀ y : Int, pd y = true → lastW (ws.filter fun p => !pd p.1) y = [] := fun y hy => by
      refine snoc_ind (P := fun ws => lastW (ws.filter fun p => !pd p.1) y = []) rfl (fun l a ih => ?_) ws
      rw [List.filter_append]
      cases ha : pd a.1
      · have e : [a].filter (fun p => !pd p.1) = [a] := by simp [ha]
        have hne : a.1 ≠ y := fun h => by rw [h, hy] at ha; cases ha
        rw [e, lastW_app, if_neg hne, ih]
      · have e : [a].filter (fun p => !pd p.1) = [] := by simp [ha]
        rw [e, List.append_nil, ih]
    have hpw' := hpw.filter (fun p : Lit × DataW Unit => !(fun kl _ => match kl with | Lit.int .i64 x => pd x | _ => false : Lit → DataW Unit → Bool) p.1 p.2)
    have hmem : ∀ y d, (Lit.int .i64 y, d) ∈ es.filter (fun p : Lit × DataW Unit => !(fun kl _ => match kl with | Lit.int .i64 x => pd x | _ => false : Lit → DataW Unit → Bool) p.1 p.2) ↔ (Lit.int .i64 y, d) ∈ es ∧ pd y = false := fun y d => by
      rw [List.mem_filter]
      simp only [Bool.not_eq_true']
    have hasF : ∀ y, Maps.has (Lib.deleteFuncD (fun kl _ => match kl with | Lit.int .i64 x => pd x | _ => false) (.map es)) (.int .i64 y) = true ↔ y ∈ keysW (ws.filter fun p => !pd p.1) := fun y => by
      rw [hkey, ← hh y, hhas]
      unfold Lib.deleteFuncD
      rw [Maps.has_eq, List.any_eq_true]
      constructor
      · rintro ⟨p, hp, hs⟩
        have e1 := WideAt.sameKey_eq hs
        have ep : p = (Lit.int .i64 y, p.2) := by rw [← e1]
        rw [ep] at hp
        obtain ⟨h1, h2⟩ := (hmem y p.2).1 hp
        exact ⟨⟨p.2, h1⟩, h2⟩
      · rintro ⟨⟨d, hd⟩, h2⟩
        exact ⟨_, (hmem y d).2 ⟨hd, h2⟩, WideAt.sameKey_self (show WideAt.IsKeyLit (.int .i64 y) from trivial)⟩
    have hs : Maps.size (Lib.deleteFuncD (fun kl _ => match kl with | Lit.int .i64 x => pd x | _ => false) (.map es)) ≤ (ws.filter fun p => !pd p.1).length := by
      rw [MapOf.size ho' hasF]
      have := nextT_len (keysW (ws.filter fun p => !pd p.1))
      simpa [keysW] using this
    obtain ⟨es', clock, hb, hfit, hsz, hD⟩ := ho'
    refine ⟨he, hR w' ⟨_, (ws.filter fun p => !pd p.1).length, ⟨es', clock, hb, hfit, ?_, hD⟩, Nat.le_refl _, hasF, fun y => ?_⟩ (Fr.grown (S := (· = b)) hg fun k hk => (Option.some.inj hk).symm)⟩
    · rw [hD] at hs
      have e1 : Maps.size (DataW.map ((es'.toList.map (WideElems.rg Pg T.y_int (plainElem (H := Unit) Pg T.y_string))).foldr DataW.insert [])) = es'.size := by simp [Maps.size, DataW.length_sorted]
      omega
    · cases hpy : pd y
      · rw [hlw y hpy]
        cases hhy : Maps.has (DataW.map es) (.int .i64 y)
        · have h1 := Maps.atKey_of_not_has hhy (DataW.lit (.string []))
          rw [hat y] at h1
          rw [h1]
          refine Maps.atKey_of_not_has (Bool.eq_false_iff.2 fun ht => ?_) _
          have := (hkey y).1 ((hasF y).1 ht)
          rw [(hh y).2 this.1] at hhy; cases hhy
        · obtain ⟨d, hd⟩ := (hhas y).1 hhy
          rw [← hget y d hd]
          exact WideAt.atKey_mem _ (show WideAt.IsKeyLit (.int .i64 y) from trivial) hpw' ((hmem y d).2 ⟨hd, hpy⟩)
      · rw [hnone y hpy]
        refine Maps.atKey_of_not_has (Bool.eq_false_iff.2 fun ht => ?_) _
        have := ((hkey y).1 ((hasF y).1 ht)).2
        rw [hpy] at this; cases this
end
end Go.Proofs.YtmokmbhhnbcelaaGreatDoor

/- desk: its parts apart; Drop, Keep of lists that came in; acts without syncs. -/
set_option linter.unusedVariables false
namespace Go.Proofs.YtmokmbhhnbcelaaGreatDoor
open Go Go.Vc Go.RowKit Go.Lib Go.Maps Go.Proofs

/-- a Wal and its disk -/
def WDS (u g : Nat) (D : DkV) : As where
  p := fun w S => ∃ fpd, Wl w u g ⟨D.seq, false, D.commits⟩ ∧ Dsk w g fpd D.d ∧ S = fun j => j = u ∨ fpd j
  lt := fun ⟨fpd, h1, h2, e⟩ k hk => by
    subst e
    rcases hk with rfl | hk
    · exact h1.lt
    · exact h2.lt hk
  keep := fun ⟨fpd, h1, h2, e⟩ hf => ⟨fpd, h1.keep hf (fun hn => hn (by subst e; exact .inl rfl)), h2.keep hf (fun j hj hn => hn (by subst e; exact .inr hj)), e⟩
abbrev dkC (u r b : Nat) (s : Int) : List Value := [.pointer (some (blk u)), .pointer (some (blk r)), .map (some b), .int .i64 s, .int .i64 0]
section
variable {w : World} {X : List As} {k g c : Nat} {D : DkV}
theorem DeskS.parts (h : St w (DeskS k g c D :: X)) : DOk c D ∧ ∃ u r b, St w (Cs k (dkC u r b D.syncs) T.y_desk_Desk :: RoomS r D.bs :: MapS b D.ws :: WDS u g D :: X) := by
  obtain ⟨Tf, a, t, ⟨hk, u, r, b, fpd, fpr, hA, e⟩, hX, hd, hs⟩ := h
  subst e
  have S := hA.sep
  refine ⟨hk, u, r, b, Tf, (· = k), fun j => fpr j ∨ (j = b ∨ ((j = u ∨ fpd j) ∨ t j)), ⟨hA.obj, rfl⟩, ⟨fpr, fun j => j = b ∨ ((j = u ∨ fpd j) ∨ t j), hA.rm, ⟨(· = b), fun j => (j = u ∨ fpd j) ∨ t j, ⟨hA.mp, rfl⟩, ⟨fun j => j = u ∨ fpd j, t, ⟨fpd, hA.wl, hA.dk, rfl⟩, hX, fun j hj ht => hd j ?_ ht, fun j => Iff.rfl⟩, fun j hj hor => ?_, fun j => Iff.rfl⟩, fun j hj hor => ?_, fun j => Iff.rfl⟩, fun j hj hor => ?_, fun j => ?_⟩
  · rcases hj with hj | hj
    · exact .inr (.inl hj)
    · exact .inr (.inr (.inr (.inl hj)))
  · have hj : j = b := hj
    subst hj
    rcases hor with (h1 | h1) | h1
    · exact S.bu h1
    · exact S.db h1
    · exact hd _ (.inr (.inr (.inl rfl))) h1
  · rcases hor with h1 | (h1 | h1) | h1
    · subst h1; exact S.rb hj
    · subst h1; exact S.ru hj
    · exact S.dr j h1 hj
    · exact hd j (.inr (.inr (.inr (.inr hj)))) h1
  · have hj : j = k := hj
    subst hj
    rcases hor with h1 | h1 | (h1 | h1) | h1
    · exact S.rk h1
    · exact S.bk h1.symm
    · exact S.ku h1
    · exact S.dk h1
    · exact hd _ (.inl rfl) h1
  · rw [hs j]
    constructor
    · rintro ((h1 | h1 | h1 | h1 | h1) | h1)
      · exact .inl h1
      · exact .inr (.inr (.inr (.inl (.inl h1))))
      · exact .inr (.inr (.inl h1))
      · exact .inr (.inr (.inr (.inl (.inr h1))))
      · exact .inr (.inl h1)
      · exact .inr (.inr (.inr (.inr h1)))
    · rintro (h1 | h1 | h1 | (h1 | h1) | h1)
      · exact .inl (.inl h1)
      · exact .inl (.inr (.inr (.inr (.inr h1))))
      · exact .inl (.inr (.inr (.inl h1)))
      · exact .inl (.inr (.inl h1))
      · exact .inl (.inr (.inr (.inr (.inl h1))))
      · exact .inr h1
theorem DeskS.join {u r b : Nat} (hk : DOk c D) (h : St w (Cs k (dkC u r b D.syncs) T.y_desk_Desk :: RoomS r D.bs :: MapS b D.ws :: WDS u g D :: X)) : St w (DeskS k g c D :: X) := by
  obtain ⟨Tf, a1, t1, ⟨ho, e1⟩, ⟨a2, t2, hr, ⟨a3, t3, ⟨hm, e3⟩, ⟨a4, t, ⟨fpd, hw, hdk, e4⟩, hX, d4, s4⟩, d3, s3⟩, d2, s2⟩, d1, s1⟩ := h
  subst e1 e3 e4
  refine ⟨Tf, fpK k u b fpd a2, t, ⟨hk, u, r, b, fpd, a2, ⟨ho, hw, hdk, hr, hm⟩, rfl⟩, hX, fun j hj ht => ?_, fun j => ?_⟩
  · have t3j : t3 j := (s4 j).2 (.inr ht)
    have t2j : t2 j := (s3 j).2 (.inr t3j)
    have t1j : t1 j := (s2 j).2 (.inr t2j)
    rcases hj with h1 | h1 | h1 | h1 | h1
    · exact d1 j h1 t1j
    · exact d4 j (.inl h1) ht
    · exact d3 j h1 t3j
    · exact d4 j (.inr h1) ht
    · exact d2 j h1 t2j
  · rw [s1 j, s2 j, s3 j, s4 j]
    constructor
    · rintro (h1 | h1 | h1 | (h1 | h1) | h1)
      · exact .inl (.inl h1)
      · exact .inl (.inr (.inr (.inr (.inr h1))))
      · exact .inl (.inr (.inr (.inl h1)))
      · exact .inl (.inr (.inl h1))
      · exact .inl (.inr (.inr (.inr (.inl h1))))
      · exact .inr h1
    · rintro ((h1 | h1 | h1 | h1 | h1) | h1)
      · exact .inl h1
      · exact .inr (.inr (.inr (.inl (.inl h1))))
      · exact .inr (.inr (.inl h1))
      · exact .inr (.inr (.inr (.inl (.inr h1))))
      · exact .inr (.inl h1)
      · exact .inr (.inr (.inr (.inr h1)))
theorem WDS.to {u : Nat} {D' : DkV} (hd : D'.d = D.d) (hs : D'.seq = D.seq) (hc : D'.commits = D.commits) (h : St w (WDS u g D :: X)) : St w (WDS u g D' :: X) :=
  h.as fun S ⟨fpd, h1, h2, e⟩ => ⟨fpd, by rw [hs, hc]; exact h1, by rw [hd]; exact h2, e⟩

theorem Used_st {r : Nat} {bs : List Bool} (h : St w (RoomS r bs :: X)) {at_ : Int} {R : Bool → World → Prop} (hR : R (usedB bs at_) w) : F.room_Room_Used (some (blk r)) at_ w R := by
  obtain ⟨S, hr⟩ := h.hd
  exact Used_room hr hR
theorem Give_st {r : Nat} {bs : List Bool} (h : St w (RoomS r bs :: X)) (hn : bs.length ≤ 1000000) {sl : Sl} {zs : List Int} (hx : ∀ w', St w' X → Ints w' sl zs) (hz : zs.length ≤ 1000000) {R : Int → World → Prop}
    (hR : ∀ n w', St w' (RoomS r (giveL bs zs) :: X) → R n w') : F.room_Room_Give (some (blk r)) sl w R := by
  apply E.room_Room_Give
  unfold V.room_Room_Give
  have hzl := (hx w h.drop).1
  refine ⟨fun c n w' => ∃ m : Nat, n = m ∧ 0 ≤ c ∧ c ≤ m ∧ m ≤ zs.length ∧ St w' (RoomS r (giveL bs (zs.take m)) :: X), fun _ n _ => (zs.length - n).toNat,
    ⟨0, rfl, Int.le_refl _, Int.le_refl _, Nat.zero_le _, h⟩, ?_⟩
  rintro c n w1 ⟨m, rfl, hc0, hcm, hm, h1⟩
  refine ⟨fun hlt => ?_, fun hge => ?_⟩
  · have hlt : m < zs.length := by have := of_decide_eq_true hlt; omega
    have e1 : w64 ((m : Int) + 1) = ((m + 1 : Nat) : Int) := by rw [w64_id (by omega) (by omega)]; omega
    have e2 : w64 (c + 1) = c + 1 := w64_id (by omega) (by omega)
    have hme : ((zs.length : Int) - ((m + 1 : Nat) : Int)).toNat < ((zs.length : Int) - (m : Int)).toNat := by omega
    obtain ⟨a, ha, hc⟩ := (hx _ h1.drop).2 m zs[m] (by simp [hlt])
    refine ⟨a, ha, by omega, by omega, zs[m], by simpa using hc, Used_st h1 ⟨fun hb => ?_, fun hb => ?_⟩⟩
    · obtain ⟨S, ⟨L, hr, e⟩, hlt2, hX⟩ := h1.out
      subst e
      have hgl := giveL_len bs (zs.take m)
      have hb' := hb
      simp only [usedB, Bool.and_eq_true, decide_eq_true_eq] at hb'
      have hi : zs[m].toNat < (giveL bs (zs.take m)).length := by omega
      obtain ⟨a1, ha1, _⟩ := hr.at hi
      obtain ⟨q1, q2, q3⟩ := hr.set (i := zs[m].toNat) hi false ha1
      have hll := hr.len
      refine ⟨blk r, rfl, L, hr.c0, a1, ha1, hb'.1, by omega, q1, ?_⟩
      rw [e1, e2]
      refine ⟨⟨m + 1, rfl, by omega, by omega, hlt, ?_⟩, hme⟩
      rw [List.take_succ_eq_append_getElem hlt, giveL_app, if_pos hb]
      exact hX (A' := RoomS r _) ⟨L, q2, rfl⟩ q3 fun j hj => .inl hj
    · rw [e1]
      refine ⟨⟨m + 1, rfl, hc0, by omega, hlt, ?_⟩, hme⟩
      rw [List.take_succ_eq_append_getElem hlt, giveL_app, if_neg (by rw [hb]; decide)]; exact h1
  · have hmm : m = zs.length := by have := of_decide_eq_false hge; omega
    subst hmm
    rw [List.take_length] at h1
    exact hR c w1 h1
theorem mdrop_st {b : Nat} {ws : List Wr1} (h : St w (MapS b ws :: X)) {x : Int} (hx : -9223372036854775808 ≤ x ∧ x < 9223372036854775808) {R : World → Prop}
    (hR : ∀ w', St w' (MapS b (ws.filter fun p => decide (p.1 ≠ x)) :: X) → R w') : RunT Pg (Builtin.delete_ #[T.y_map_int_string, T.y_int] T.y_t0 #[.map (some b), .int .i64 x]) [] w R := by
  obtain ⟨S, ⟨hm, e⟩, hlt, hX⟩ := h.out
  subst e
  exact mdrop_run hm hx fun w' hm' hf => hR w' (hX (A' := MapS b _) ⟨hm', rfl⟩ hf fun j hj => .inl hj)
theorem mdelf_st {b : Nat} {ws : List Wr1} (h : St w (MapS b ws :: X)) {c : Addr} {pd : Int → Bool} (hdel : ∀ (W : World) (x : Int) (s : ByteArray), St W X → F.desk_Desk_Keep_fn1 x s c W fun r w' => r = pd x ∧ Below W.heap.size W w') {R : World → Prop}
    (hR : ∀ w', St w' (MapS b (ws.filter fun p => !pd p.1) :: X) → R w') : F.maps_DeleteFunc_map_int_string_int_string (some b) (.func (.func 133) #[] #[.pointer (some c)]) w R := by
  obtain ⟨S, ⟨hm, e⟩, hlt, hX⟩ := h.out
  subst e
  refine mdelf_run hm (fun W x s hf => hdel W x s ?_) fun w' hm' hf => hR w' (hX (A' := MapS b _) ⟨hm', rfl⟩ hf fun j hj => .inl hj)
  exact (hX (A' := As.all []) (S' := no) (fun _ h => h) hf fun j hj => hj.elim).drop
end
end Go.Proofs.YtmokmbhhnbcelaaGreatDoor
