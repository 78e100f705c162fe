/- desk: its calls in words of what lies apart; Mark, Back, Set, Drop, Room. -/
import Derived.Test.YtmokmbhhnbcelaaGreatDoorShelg
import Derived.LaidEqlPtr
set_option linter.unusedVariables false
namespace Go.Proofs.YtmokmbhhnbcelaaGreatDoor
open Go Go.Vc Go.RowKit Go.Lib Go.Maps Go.Proofs
/-- a desk -/
def DeskS (k g c : Nat) (D : DkV) : As where
 p := fun w S => DOk c D ∧ ∃ u r b fpd fpr, DeskA w k u g r b fpd fpr D ∧ S = fpK k u b fpd fpr
 lt := fun ⟨_, u, r, b, fpd, fpr, h, e⟩ k hk => by subst e; exact h.lt hk
 keep := fun ⟨hk, u, r, b, fpd, fpr, h, e⟩ hf => ⟨hk, u, r, b, fpd, fpr, h.keep hf (fun j hj hn => hn (by subst e; exact hj)), e⟩
/-- a Room -/
def RoomS (r : Nat) (bs : List Bool) : As where
 p := fun w S => Go.Proofs.YtmokmbhhnbcelaaGreatDoor.Room w r S bs
 lt := fun h k hk => h.lt hk
 keep := fun h hf => h.keep hf (fun j hj hn => hn hj)
section
variable {w w' : World} {X : List As} {k g c : Nat} {D : DkV}
theorem DeskS.open (h : St w (DeskS k g c D :: X)) : DOk c D ∧ ∃ u r b fpd fpr Tf, DeskA w k u g r b fpd fpr D ∧ StP X w Tf ∧ (∀ j, fpK k u b fpd fpr j → ¬ Tf j) ∧
   ∀ {c' D' b' fpd' r' fpr' w'}, DOk c' D' → DeskA w' k u g r' b' fpd' fpr' D' → Fr (fpK k u b fpd fpr) w w' → (∀ j, fpK k u b' fpd' fpr' j → fpK k u b fpd fpr j ∨ w.heap.size ≤ j) → St w' (DeskS k g c' D' :: X) := by
 obtain ⟨Tf, a, t, ⟨hk, u, r, b, fpd, fpr, hA, e⟩, hb, hd, hs⟩ := h
 subst e
 refine ⟨hk, u, r, b, fpd, fpr, t, hA, hb, hd, fun {c' D' b' fpd' r' fpr' w'} hk' hA' hf hn => ⟨fun j => fpK k u b' fpd' fpr' j ∨ t j, _, t, ⟨hk', u, r', b', fpd', fpr', hA', rfl⟩, hb.keep (hf.mono fun j _ hj ht => hd j hj ht), fun j hj ht => ?_, fun j => Iff.rfl⟩⟩
 rcases hn j hj with h | h
 · exact hd j h ht
 · have := hb.lt j ht; omega
theorem DeskS.ok (h : St w (DeskS k g c D :: X)) : DOk c D := (DeskS.open h).1
theorem DeskS.mono (h : St w (DeskS k g c D :: X)) {c' : Nat} (hc : c ≤ c') : St w (DeskS k g c' D :: X) := h.as fun _ ⟨hk, r⟩ => ⟨hk.mono hc, r⟩
/-- the sector at a place, as it would be -/
def getD (D : DkV) (a : Int) : Bs := if a ∈ keysW D.ws then lastW D.ws a else if 0 ≤ a ∧ a < (D.bs.length : Int) then homeAt D.d a.toNat else []
def getE (D : DkV) (a : Int) : Int := if a ∈ keysW D.ws then 0 else if 0 ≤ a ∧ a < (D.bs.length : Int) then 0 else 15
def newD' (D : DkV) (data : Bs) : DkV := { D with bs := D.bs.set (freeAt D.bs) true, ws := D.ws ++ [((freeAt D.bs : Int), data)] }
def setD (D : DkV) (a : Int) (data : Bs) : DkV := { D with ws := D.ws ++ [(a, data)] }
def backD (D M : DkV) : DkV := { D with bs := M.bs, ws := M.ws }
theorem Get_st (h : St w (DeskS k g c D :: X)) {a : Int} (hx : -9223372036854775808 ≤ a ∧ a < 9223372036854775808) {R : ByteArray → Int → World → Prop} (hR : R (tx (getD D a)) (getE D a) w) : F.desk_Desk_Get (some (blk k)) a w R := by
 obtain ⟨hk, u, r, b, fpd, fpr, Tf, hA, _⟩ := DeskS.open h
 exact Get_desk hA hk hx hR
theorem New_st (h : St w (DeskS k g c D :: X)) (hc : c ≤ 1000000) {data : Bs} (hdl : data.length ≤ 1000000000) {R : Int → Int → World → Prop}
   (hA : data.length ≠ 256 → R 0 1 w) (hF : data.length = 256 → freeAt D.bs = D.bs.length → R 0 20 w)
   (hR : ∀ w', data.length = 256 → freeAt D.bs < D.bs.length → St w' (DeskS k g (c + 1) (newD' D data) :: X) → R (freeAt D.bs) 0 w') : F.desk_Desk_New (some (blk k)) (tx data) w R := by
 obtain ⟨hk, u, r, b, fpd, fpr, Tf, hA', _, _, hput⟩ := DeskS.open h
 exact New_desk hA' hk hc hdl hA hF fun w' h1 h2 hD hG => hR w' h1 h2 (hput (hk.new h2 h1) hD hG.fr hG.new)
theorem Set_st (h : St w (DeskS k g c D :: X)) (hc : c ≤ 1000000) {a : Int} {data : Bs} (hdl : data.length ≤ 1000000000) {R : Int → World → Prop}
   (hN : (a = 1 ∨ usedB D.bs a = false) → R 15 w) (hA : a ≠ 1 → usedB D.bs a = true → data.length ≠ 256 → R 1 w)
   (hR : ∀ w', a ≠ 1 → usedB D.bs a = true → data.length = 256 → St w' (DeskS k g (c + 1) (setD D a data) :: X) → R 0 w') : F.desk_Desk_Set (some (blk k)) a (tx data) w R := by
 apply E.desk_Desk_Set
 unfold V.desk_Desk_Set
 obtain ⟨hk, u, r, b, fpd, fpr, Tf, hD, _, _, hput⟩ := DeskS.open h
 have S := hD.sep
 have hbl := hk.bsl
 refine Bad_desk hD ⟨fun h => by simp at h, fun _ => ⟨fun h1 => hN (.inl (by simpa using h1)), fun h1 => ⟨blk k, rfl, some (blk r), hD.c1, Used_room hD.rm ⟨fun hu => hN (.inr (by simpa using hu)), fun hu => ?_⟩⟩⟩⟩
 have h1 : a ≠ 1 := by simpa using h1
 have hu : usedB D.bs a = true := by simpa using hu
 have hu' := hu
 simp only [usedB, Bool.and_eq_true, decide_eq_true_eq] at hu'
 rw [tx_size]
 refine ⟨fun hne => hA h1 hu (by have : ((data.length : Int)) ≠ 256 := by simpa using hne
                                 omega), fun hne => ?_⟩
 have hne : data.length = 256 := by have : ((data.length : Int)) = 256 := by simpa using hne
                                    omega
 intro w2
 have hD2 : DeskA w2 k u g r b fpd fpr D := hD.keep (Fr.drew no w) (fun _ _ => id)
 have hF2 : Fr no w w2 := Fr.drew no w
 clear_value w2
 refine ⟨blk k, rfl, some b, hD2.c2, ?_⟩
 apply E.strings_Clone
 unfold V.strings_Clone
 refine Clone_spec (by omega) fun w3 hB3 => ⟨(hD2.below hB3).c2, ?_⟩
 have hD3 := hD2.below hB3
 have hwl := hk.wl
 refine hD3.mp.put (by omega) (by omega) (by omega) fun w4 hm4 hF4 => ?_
 refine hR w4 h1 hu hne (hput (D' := setD D a data) (c' := c + 1) ?_ ⟨hF4.heap hD3.obj (fun e => S.bk e.symm), hD3.wl.keep hF4 (fun e => S.bu e.symm), hD3.dk.keep hF4 (fun j hj e => S.db (by have : j = b := e; exact this ▸ hj)), hD3.rm.keep hF4 (fun j hj e => S.rb (by have : j = b := e; exact this ▸ hj)), hm4⟩ ?_ (fun j hj => .inl hj))
 · refine ⟨hk.q, hk.len, hk.u0, hk.u1, fun x hx => ?_, ?_, ⟨hk.seq.1, by have := hk.seq.2; show D.seq ≤ _; omega⟩, ⟨hk.com.1, by have := hk.com.2; show D.commits ≤ _; omega⟩, ⟨hk.syn.1, by have := hk.syn.2; show D.syncs ≤ _; omega⟩, by have := hk.many; show D.d.many ≤ _; omega⟩
   · rcases List.mem_append.1 hx with hx | hx
     · exact hk.ws x hx
     · simp only [List.mem_cons, List.not_mem_nil, or_false] at hx
       subst hx
       exact ⟨hu'.1, hu'.2.1, h1, hne⟩
   · show (D.ws ++ [(a, data)]).length ≤ _
     rw [List.length_append]; simp; omega
 · exact ((hF2.mono (S' := fpK k u b fpd fpr) (fun _ _ h => h.elim)).trans (S' := no) (fr_below hB3) (fun _ _ h => h.elim)).trans (S' := (· = b)) hF4 (fun _ _ h => .inr (.inr (.inl h)))
theorem Room_st (h : St w (DeskS k g c D :: X)) {R : Option Addr → World → Prop} (hR : ∀ r w', St w' (RoomS r D.bs :: DeskS k g c D :: X) → R (some (blk r)) w') : F.desk_Desk_Room (some (blk k)) w R := by
 apply E.desk_Desk_Room
 unfold V.desk_Desk_Room
 obtain ⟨hk, u, r, b, fpd, fpr, Tf, hD, _⟩ := DeskS.open h
 have hbl := hk.bsl
 refine ⟨fun h => by simp at h, fun _ => ⟨blk k, rfl, some (blk r), hD.c1, Copy_room hD.rm (by omega) fun r' fp' w' hr hn hB => hR r' w' (h.add (A := RoomS r' D.bs) hr (fr_below hB) hn)⟩⟩
theorem mclone_st {b : Nat} {ws : List Wr1} (h : St w X) (hm : MapOf w b ws) {R : Option Nat → World → Prop} (hR : ∀ b' w', St w' (MapS b' ws :: X) → Below w.heap.size w w' → R (some b') w') : F.maps_Clone_map_int_string_int_string (some b) w R := by
 obtain ⟨M, n, ho, h2, h3, h4⟩ := hm
 refine Calls.mono (AnyW.maps_Clone_owns Tryz.mclone T.y_int _ b n M w ho) fun e w' hx => ?_
 obtain ⟨rfl, ho', _, hB⟩ := hx
 exact ⟨_, rfl, hR _ w' (h.add (S := (· = w.heap.size)) ⟨⟨M, n, ho', h2, h3, h4⟩, rfl⟩ (fr_below hB) (fun j hj => Nat.le_of_eq (Eq.symm hj))) hB⟩
theorem Mark_st (h : St w (DeskS k g c D :: X)) {R : Option Addr → Option Addr → Option Nat → Int → World → Prop}
   (hR : ∀ r b w', St w' (RoomS r D.bs :: MapS b D.ws :: DeskS k g c D :: X) → R (some (blk k)) (some (blk r)) (some b) D.syncs w') : F.desk_Desk_Mark (some (blk k)) w R := by
 apply E.desk_Desk_Mark
 unfold V.desk_Desk_Mark
 obtain ⟨hk, u, r, b, fpd, fpr, Tf, hD, _⟩ := DeskS.open h
 have hbl := hk.bsl
 intro w1
 have h1 : St w1 (Cs w.heap.size [.pointer none, .pointer none, .map none, .int .i64 0] T.y_desk_Mark :: DeskS k g c D :: X) := h.new _ _
 have hF1 : Fr no w w1 := Fr.alloc no w _
 clear_value w1
 refine ⟨fun h => by simp at h, fun _ => ?_⟩
 intro w2
 have h2 : St w2 _ := h1.drew
 have hD2 : DeskA w2 k u g r b fpd fpr D := (hD.keep hF1 (fun _ _ => id)).keep (Fr.drew no w1) (fun _ _ => id)
 clear_value w2
 refine ⟨blk k, rfl, some (blk r), hD2.c1, blk k, rfl, some b, hD2.c2, blk k, rfl, D.syncs, hD2.c3, Copy_room hD2.rm (by omega) fun r3 fp3 w3 hr3 hn3 hB3 => ?_⟩
 have h3 : St w3 (RoomS r3 D.bs :: _) := h2.add (A := RoomS r3 D.bs) hr3 (fr_below hB3) hn3
 have hD3 := hD2.below hB3
 refine ⟨hD3.c3, hD3.c2, mclone_st h3 hD3.mp fun b4 w4 h4 hB4 => ?_⟩
 have hD4 := hD3.below hB4
 have q := h4.up2
 refine ⟨hD4.c3, q.wr0 (by simp), ?_⟩
 intro w5
 have q5 : St w5 _ := q.set0 (.pointer (some (blk k)))
 clear_value w5
 refine ⟨q5.wr (by simp), ?_⟩
 intro w6
 have q6 : St w6 _ := q5.set 1 (.pointer (some (blk r3)))
 clear_value w6
 refine ⟨q6.wr (by simp), ?_⟩
 intro w7
 have q7 : St w7 _ := q6.set 2 (.map (some b4))
 clear_value w7
 refine ⟨q7.wr (by simp), ?_⟩
 intro w8
 have q8 : St w8 _ := q7.set 3 (.int .i64 D.syncs)
 clear_value w8
 exact ⟨_, by rw [q8.cell0]; rfl, _, by rw [q8.cell]; rfl, _, by rw [q8.cell]; rfl, _, by rw [q8.cell]; rfl, hR r3 b4 w8 q8.drop.sw⟩
theorem back_ok {c c' : Nat} {M : DkV} (hk : DOk c D) (hm : DOk c' M) (hl : M.bs.length = D.bs.length) : DOk (max c c') (backD D M) := by
 have h1 := hk.mono (Nat.le_max_left c c')
 have h2 := hm.mono (Nat.le_max_right c c')
 exact ⟨h1.q, by show M.bs.length + 111 = _; rw [hl]; exact h1.len, h2.u0, h2.u1, h2.ws, h2.wl, h1.seq, h1.com, h1.syn, h1.many⟩
/-- the desk takes over a Room and a map -/
theorem DeskS.swap {r' b' c' : Nat} {M : DkV} (h : St w (RoomS r' M.bs :: MapS b' M.ws :: DeskS k g c D :: X)) (hm : DOk c' M) (hl : M.bs.length = D.bs.length) :
   Wr w ((blk k).add 1) ∧ Wr (w.setCell ((blk k).add 1) (.pointer (some (blk r')))) ((blk k).add 2) ∧ St ((w.setCell ((blk k).add 1) (.pointer (some (blk r')))).setCell ((blk k).add 2) (.map (some b'))) (DeskS k g (max c c') (backD D M) :: X) := by
 obtain ⟨Tf, a, y, hr, ⟨e, z, ⟨hb, he⟩, ⟨q, x, ⟨hk, u, r, b, fpd, fpr, hA, hq⟩, hX, d1, s1⟩, d2, s2⟩, d3, s3⟩ := h
 subst hq
 subst he
 have S := hA.sep
 have nk1 : ¬ a k := fun hh => d3 k hh ((s2 k).2 (.inr ((s1 k).2 (.inl (.inl rfl)))))
 have nk2 : ¬ k = b' := fun hh => d2 k hh ((s1 k).2 (.inl (.inl rfl)))
 have o1 := hA.obj
 have o2 := blk_set o1 1 (.pointer (some (blk r')))
 have f1 := fr_set w k 1 (.pointer (some (blk r')))
 have w1 := blk_wr o1 (j := 1) (by simp)
 have w2 := blk_wr o2 (j := 2) (by simp)
 have o3 := blk_set o2 2 (.map (some b'))
 have f2 := f1.trans (fr_set _ k 2 (.map (some b'))) (fun _ _ h => h)
 refine ⟨w1, w2, ?_⟩
 refine ⟨fun j => fpK k u b' fpd a j ∨ x j, _, x, ⟨back_ok hk hm hl, u, r', b', fpd, a, ⟨o3, hA.wl.keep f2 (fun e => S.ku e.symm), hA.dk.keep f2 (fun j hj e => S.dk (by have : j = k := e; exact this ▸ hj)), hr.keep f2 (fun j hj e => nk1 (by have : j = k := e; exact this ▸ hj)), hb.keep f2 (fun e => nk2 e.symm)⟩, rfl⟩,
   hX.keep (f2.mono fun j _ hj hx => d1 j (.inl hj) hx), fun j hj hx => ?_, fun j => Iff.rfl⟩
 rcases hj with hj | hj | hj | hj | hj
 · exact d1 j (.inl hj) hx
 · exact d1 j (.inr (.inl hj)) hx
 · exact d2 j hj ((s1 j).2 (.inr hx))
 · exact d1 j (.inr (.inr (.inr (.inl hj)))) hx
 · exact d3 j hj ((s2 j).2 (.inr ((s1 j).2 (.inr hx))))
theorem runT_eq_ptr {t e : TypeId} {j : TypeInfo} (hp : Pg.underlying t = some (.pointer e)) (hte : Pg.info? e = some j) {x y : Operand} (a : Addr) {R : Bool → World → Prop} (hR : R true w) :
   RunT Pg (do eqGuard .eql t x y (.pointer (some a)) (.pointer (some a)); binOp .eql t (.pointer (some a)) (.pointer (some a))) [.one .bool] w R := by
 refine ⟨true, w, ?_, hR⟩
 have h := run_eql_ptr_same w a hp hte
 change (do eqGuard .eql t x y (.pointer (some a)) (.pointer (some a)); binOp .eql t (.pointer (some a)) (.pointer (some a))).run Pg w = .ok (.bool true) w
 simp only [eqGuard]
 simpa using h
theorem info_desk : ∃ i, Pg.info? T.y_desk_Desk = some i := by
 have h : (Pg.info? T.y_desk_Desk).isSome = true := by kernel_rfl
 exact Option.isSome_iff_exists.1 h
theorem Back_st {r' b' : Nat} {M : DkV} {c' : Nat} (h : St w (DeskS k g c D :: RoomS r' M.bs :: MapS b' M.ws :: X)) (hm : DOk c' M) (hl : M.bs.length = D.bs.length) (hs : M.syncs = D.syncs) {R : World → Prop}
   (hR : ∀ w', St w' (DeskS k g (max c c') (backD D M) :: RoomS r' M.bs :: MapS b' M.ws :: X) → R w') : F.desk_Desk_Back (some (blk k)) (some (blk k)) (some (blk r')) (some b') M.syncs w R := by
 apply E.desk_Desk_Back
 unfold V.desk_Desk_Back
 have hbl := hm.bsl
 obtain ⟨i, hi⟩ := info_desk
 intro w1
 have h1 : St w1 (Cs w.heap.size [.pointer (some (blk k)), .pointer (some (blk r')), .map (some b'), .int .i64 M.syncs] T.y_desk_Mark :: _) := h.new _ _
 clear_value w1
 intro w2
 have h2 : St w2 _ := h1.drew
 clear_value w2
 obtain ⟨hk, u, r, b, fpd, fpr, Tf, hD, _⟩ := DeskS.open h2.sw
 refine ⟨fun _ => ⟨some (blk k), h2.cell0, runT_eq_ptr (e := T.y_desk_Desk) (by kernel_rfl) hi _ ⟨fun _ => ⟨M.syncs, by rw [h2.cell]; rfl, blk k, rfl, D.syncs, hD.c3, fun _ => ?_, fun hn => by rw [hs] at hn; simp at hn⟩, fun hn => by simp at hn⟩⟩, fun h => by simp at h⟩
 intro w3
 have h3 : St w3 _ := h2.drew
 clear_value w3
 obtain ⟨S, hr'⟩ := h3.up2.hd
 refine ⟨some (blk r'), by rw [h3.cell]; rfl, some b', by rw [h3.cell]; rfl, Copy_room hr' (by omega) fun r4 fp4 w4 hr4 hn4 hB4 => ?_⟩
 have h4 : St w4 (RoomS r4 M.bs :: _) := h3.add (A := RoomS r4 M.bs) hr4 (fr_below hB4) hn4
 refine ⟨by rw [h4.sw.cell]; rfl, mclone_st h4 (MapS.of h4.up4) fun b5 w5 h5 hB5 => ?_⟩
 obtain ⟨q1, q2, q3⟩ := DeskS.swap h5.up2.drop.sw hm hl
 exact ⟨blk k, rfl, q1, blk k, rfl, q2, hR _ q3⟩
theorem mdrop_run {b : Nat} {ws : List Wr1} (hm : MapOf w b ws) {x : Int} (hx : -9223372036854775808 ≤ x ∧ x < 9223372036854775808) {R : World → Prop}
   (hR : ∀ w', MapOf w' b (ws.filter fun p => decide (p.1 ≠ x)) → Fr (· = b) w w' → R w') : RunT Pg (Builtin.delete_ #[T.y_map_int_string, T.y_int] T.y_t0 #[.map (some b), .int .i64 x]) [] w R := by
 obtain ⟨M, n, ho, hn, hh, hat⟩ := hm
 obtain ⟨w', hrun, ho', ht⟩ := ho.drop Kint und_mis (keyOf_int_mk und_int' (intWf hx)) T.y_t0
 have hlw : ∀ (ws : List Wr1) (y : Int), y ≠ x → lastW (ws.filter fun p => decide (p.1 ≠ x)) y = lastW ws y := by
   refine fun ws y hy => snoc_ind (P := fun ws => lastW (ws.filter fun p => decide (p.1 ≠ x)) y = lastW ws y) rfl (fun l a ih => ?_) ws
   rw [List.filter_append, lastW_app]
   by_cases ha : a.1 = x
   · have e : [a].filter (fun p => decide (p.1 ≠ x)) = [] := by simp [ha]
     rw [e, List.append_nil, ih, if_neg (fun h => hy (h.symm.trans ha))]
   · have e : [a].filter (fun p => decide (p.1 ≠ x)) = [a] := by simp [ha]
     rw [e, lastW_app, ih]
 have hnone : ∀ ws : List Wr1, lastW (ws.filter fun p => decide (p.1 ≠ x)) x = [] := fun ws => by
   refine snoc_ind (P := fun ws => lastW (ws.filter fun p => decide (p.1 ≠ x)) x = []) rfl (fun l a ih => ?_) ws
   rw [List.filter_append]
   by_cases ha : a.1 = x
   · have e : [a].filter (fun p => decide (p.1 ≠ x)) = [] := by simp [ha]
     rw [e, List.append_nil, ih]
   · have e : [a].filter (fun p => decide (p.1 ≠ x)) = [a] := by simp [ha]
     rw [e, lastW_app, if_neg ha, ih]
 have hkey : ∀ y : Int, y ∈ keysW (ws.filter fun p => decide (p.1 ≠ x)) ↔ y ∈ keysW ws ∧ y ≠ x := fun y => by
   simp only [keysW, List.mem_map, List.mem_filter, decide_eq_true_eq]
   constructor
   · rintro ⟨p, ⟨h1, h2⟩, rfl⟩; exact ⟨⟨p, h1, rfl⟩, h2⟩
   · rintro ⟨⟨p, h1, rfl⟩, h2⟩; exact ⟨p, ⟨h1, h2⟩, rfl⟩
 have hs : Maps.size (M.del (.int .i64 x)) ≤ (ws.filter fun p => decide (p.1 ≠ x)).length := by
   have h1 := MapOf.size (ws := ws.filter fun p => decide (p.1 ≠ x)) ho' (fun y => by
     by_cases hy : y = x
     · subst hy; rw [has_del_same, hkey]; simp
     · rw [has_del_other (by simpa using hy), hh, hkey]; simp [hy])
   rw [h1]
   have := nextT_len (keysW (ws.filter fun p => decide (p.1 ≠ x)))
   simpa [keysW] using this
 obtain ⟨es, clock, hb, hfit, hsz, hD⟩ := ho'
 refine ⟨w', hrun, hR w' ⟨_, (ws.filter fun p => decide (p.1 ≠ x)).length, ⟨es, clock, hb, hfit, ?_, hD⟩, Nat.le_refl _, fun y => ?_, fun y => ?_⟩ (Fr.grown (S := (· = b)) ht.grown fun k hk => (Option.some.inj hk).symm)⟩
 · rw [hD] at hs
   have e1 : Maps.size (DataW.map ((es.toList.map (WideElems.rg Pg T.y_int (plainElem (H := Unit) Pg T.y_string))).foldr DataW.insert [])) = es.size := by simp [Maps.size, DataW.length_sorted]
   omega
 · by_cases hy : y = x
   · subst hy; rw [has_del_same, hkey]; simp
   · rw [has_del_other (by simpa using hy), hh, hkey]; simp [hy]
 · by_cases hy : y = x
   · subst hy; rw [atKey_del_same, hnone]
   · rw [atKey_del_other (by simpa using hy), hat, hlw _ _ hy]
theorem Contains_ints {sl : Sl} {zs : List Int} (hT : Ints w sl zs) (hz : zs.length ≤ 1000000) {x : Int} {R : Bool → World → Prop} (hR : R (decide (x ∈ zs)) w) : F.slices_Contains_sl_int_int sl x w R := by
 apply E.slices_Contains_sl_int_int
 unfold V.slices_Contains_sl_int_int
 apply E.slices_Index_sl_int_int
 unfold V.slices_Index_sl_int_int
 have hl := hT.1
 refine ⟨Cnt zs.length fun m w' => w' = w ∧ ∀ y ∈ zs.take m, y ≠ x, cntM zs.length, Cnt.zero ⟨rfl, by simp⟩, ?_⟩
 rintro _ w1 ⟨m, rfl, hm, rfl, hall⟩
 refine ⟨fun hlt => ?_, fun hge => ?_⟩
 · have hlt : m < zs.length := by have := of_decide_eq_true hlt; omega
   obtain ⟨a, ha, hc⟩ := hT.2 m zs[m] (by simp [hlt])
   refine ⟨a, ha, by omega, by omega, zs[m], by simpa using hc, fun he => ?_, fun he => Cnt.next hlt (by omega) ⟨rfl, fun y hy => ?_⟩⟩
   · have he : x = zs[m] := by simpa using he
     have e1 : decide (x ∈ zs) = true := by rw [decide_eq_true_eq, he]; exact List.getElem_mem _
     have e2 : decide (((m : Nat) : Int) ≥ 0) = true := by simp
     rw [e1] at hR
     first | exact (by rw [e2]; exact hR) | exact hR
   · rw [List.take_succ_eq_append_getElem hlt] at hy
     rcases List.mem_append.1 hy with hy | hy
     · exact hall y hy
     · simp only [List.mem_cons, List.not_mem_nil, or_false] at hy
       subst hy
       have : ¬ x = zs[m] := by simpa using he
       exact fun h => this h.symm
 · have hmm : m = zs.length := by have := of_decide_eq_false hge; omega
   subst hmm
   rw [List.take_length] at hall
   have e1 : decide (x ∈ zs) = false := by rw [decide_eq_false_iff_not]; exact fun hx => hall x hx rfl
   rw [e1] at hR
   exact hR
/-- these may be given back -/
def dropOk (bs : List Bool) (zs : List Int) : Prop := ∀ i (h : i < zs.length), zs[i] ≠ 0 ∧ zs[i] ≠ 1 ∧ usedB bs zs[i] = true ∧ zs[i] ∉ zs.take i
def dropD (D : DkV) (zs : List Int) : DkV := { D with bs := giveL D.bs zs, ws := D.ws.filter fun p => decide (p.1 ∉ zs) }
theorem giveL_keeps {bs : List Bool} {i : Nat} : ∀ {zs : List Int}, (∀ z ∈ zs, z ≠ (i : Int)) → (giveL bs zs).getD i false = bs.getD i false := by
 refine fun {zs} => snoc_ind (P := fun zs => (∀ z ∈ zs, z ≠ (i : Int)) → (giveL bs zs).getD i false = bs.getD i false) (fun _ => rfl) (fun l x ih h => ?_) zs
 have ih := ih fun z hz => h z (List.mem_append_left _ hz)
 have hx := h x (by simp)
 rw [giveL_app]
 split
 · rename_i hu
   simp only [usedB, Bool.and_eq_true, decide_eq_true_eq] at hu
   have : x.toNat ≠ i := by omega
   rw [← ih]
   simp only [List.getD_eq_getElem?_getD]
   rw [List.getElem?_set_ne this]
 · exact ih
theorem DOk.drop (hk : DOk c D) {zs : List Int} (h0 : ∀ z ∈ zs, z ≠ 0 ∧ z ≠ 1) : DOk c (dropD D zs) := by
 refine ⟨hk.q, by show (giveL _ _).length + 111 = _; rw [giveL_len]; exact hk.len, ?_, ?_, fun x hx => ?_, Nat.le_trans (List.length_filter_le _ _) hk.wl, hk.seq, hk.com, hk.syn, hk.many⟩
 · show (giveL D.bs zs).getD 0 false = true
   rw [giveL_keeps fun z hz => (h0 z hz).1]; exact hk.u0
 · show (giveL D.bs zs).getD 1 false = true
   rw [giveL_keeps fun z hz => (h0 z hz).2]; exact hk.u1
 · have h := hk.ws x (List.mem_filter.1 hx).1
   exact ⟨h.1, by show x.1 < ((giveL D.bs zs).length : Int); rw [giveL_len]; exact h.2.1, h.2.2⟩
set_option maxHeartbeats 1000000 in
theorem Drop_st {sl : Sl} {zs : List Int} {t : TypeId} (h : St w (DeskS k g c D :: Row EI t sl zs :: X)) (hz : zs.length ≤ 1000000) (hzr : ∀ z ∈ zs, -9223372036854775808 ≤ z ∧ z < 9223372036854775808) {R : Int → World → Prop}
   (hE : ¬ dropOk D.bs zs → R 15 w) (hR : ∀ w', dropOk D.bs zs → St w' (DeskS k g c (dropD D zs) :: Row EI t sl zs :: X) → R 0 w') : F.desk_Desk_Drop (some (blk k)) sl w R := by
 apply E.desk_Desk_Drop
 unfold V.desk_Desk_Drop
 have hT : Ints w sl zs := St.ints h.sw
 have hl := hT.1
 obtain ⟨hk, u, r, b, fpd, fpr, Tf, hD, hX, hsep, hput⟩ := DeskS.open h
 have S := hD.sep
 have hbl := hk.bsl
 have hslT : ∀ j, sl.bk j → ¬ fpK k u b fpd fpr j := fun j hj hf => by
   obtain ⟨a, y, ⟨_, e⟩, _, _, hs⟩ := hX
   subst e
   exact hsep j hf ((hs j).2 (.inl hj))
 refine Bad_desk hD ⟨fun h => by simp at h, fun _ => ⟨Cnt zs.length fun m w' => w' = w ∧ ∀ i (h : i < m) (h2 : i < zs.length), zs[i] ≠ 0 ∧ zs[i] ≠ 1 ∧ usedB D.bs zs[i] = true ∧ zs[i] ∉ zs.take i, cntM zs.length, Cnt.zero ⟨rfl, fun i h => absurd h (Nat.not_lt_zero _)⟩, ?_⟩⟩
 rintro _ w1 ⟨m, rfl, hm, rfl, hall⟩
 refine ⟨fun hlt => ?_, fun hge => ?_⟩
 · have hlt : m < zs.length := by have := of_decide_eq_true hlt; omega
   obtain ⟨a, ha, hc⟩ := hT.2 m zs[m] (by simp [hlt])
   have bad : ¬ (zs[m] ≠ 0 ∧ zs[m] ≠ 1 ∧ usedB D.bs zs[m] = true ∧ zs[m] ∉ zs.take m) → R 15 w1 := fun hn => hE fun hok => hn (hok m hlt)
   refine ⟨a, ha, by omega, by omega, zs[m], by simpa using hc, fun h0 => bad fun hh => hh.1 (by simpa using h0), fun h0 => ⟨fun h1 => bad fun hh => hh.2.1 (by simpa using h1), fun h1 => ⟨blk k, rfl, some (blk r), hD.c1, Used_room hD.rm ⟨fun hu => bad fun hh => by rw [hh.2.2.1] at hu; simp at hu, fun hu => ⟨by omega, by have := Own.cap_ge h.sw.own; omega, ?_⟩⟩⟩⟩⟩
   rw [slA0]
   refine Contains_ints (zs := zs.take m) ⟨by simp; omega, fun j v hj => ?_⟩ (by simp; omega) ⟨fun hb => bad fun hh => hh.2.2.2 (by simpa using hb), fun hb => Cnt.next hlt (by omega) ⟨rfl, fun i hi h2 => ?_⟩⟩
   · rw [List.getElem?_take] at hj
     split at hj
     · exact hT.2 j v hj
     · cases hj
   · rcases Nat.lt_succ_iff_lt_or_eq.1 hi with h' | h'
     · exact hall i h' h2
     · subst h'
       exact ⟨by simpa using h0, by simpa using h1, by simpa using hu, by simpa using hb⟩
 · have hmm : m = zs.length := by have := of_decide_eq_false hge; omega
   subst hmm
   have hok : dropOk D.bs zs := fun i hi => hall i hi hi
   refine ⟨blk k, rfl, some (blk r), hD.c1, Give_room hD.rm (by omega) hT (fun j hj hf => hslT j hj (.inr (.inr (.inr (.inr hf))))) hz fun n w2 hr2 hF2 => ?_⟩
   have o2 := hF2.heap hD.obj S.rk
   have u2 := hD.wl.keep hF2 S.ru
   have d2 := hD.dk.keep hF2 S.dr
   have m2 := hD.mp.keep hF2 S.rb
   have T2 := hT.keep hF2 fun j hj hf => hslT j hj (.inr (.inr (.inr (.inr hf))))
   refine ⟨Cnt zs.length fun m w' => MapOf w' b (D.ws.filter fun p => decide (p.1 ∉ zs.take m)) ∧ Fr (· = b) w2 w', cntM zs.length, Cnt.zero ⟨by rw [show (D.ws.filter fun p => decide (p.1 ∉ zs.take 0)) = D.ws from by simp]; exact m2, Fr.refl _ _⟩, ?_⟩
   rintro _ w3 ⟨m, rfl, hm, m3, F3⟩
   refine ⟨fun hlt => ?_, fun hge => ?_⟩
   · have hlt : m < zs.length := by have := of_decide_eq_true hlt; omega
     have T3 := T2.keep F3 fun j hj hf => hslT j hj (.inr (.inr (.inl hf)))
     obtain ⟨a, ha, hc⟩ := T3.2 m zs[m] (by simp [hlt])
     have o3 := F3.heap o2 (fun e => S.bk e.symm)
     refine ⟨a, ha, by omega, by omega, zs[m], by simpa using hc, blk k, rfl, some b, by rw [blk_cell o3]; rfl, mdrop_run m3 (hzr _ (List.getElem_mem _)) fun w4 m4 F4 => Cnt.next hlt (by omega) ⟨?_, F3.trans F4 fun _ _ h => h⟩⟩
     have e : (D.ws.filter fun p => decide (p.1 ∉ zs.take (m + 1))) = (D.ws.filter fun p => decide (p.1 ∉ zs.take m)).filter fun p => decide (p.1 ≠ zs[m]) := by
       rw [List.filter_filter, List.take_succ_eq_append_getElem hlt]
       congr 1
       funext p
       rw [Bool.eq_iff_iff]
       simp only [decide_eq_true_eq, Bool.and_eq_true, List.mem_append, List.mem_singleton, not_or, ne_eq]
       exact and_comm
     rw [e]; exact m4
   · have hmm : m = zs.length := by have := of_decide_eq_false hge; omega
     subst hmm
     rw [List.take_length] at m3
     refine hR w3 hok (hput (D' := dropD D zs) (hk.drop fun z hz => ?_) ⟨F3.heap o2 (fun e => S.bk e.symm), u2.keep F3 (fun e => S.bu e.symm), d2.keep F3 (fun j hj e => S.db (by have : j = b := e; exact this ▸ hj)), hr2.keep F3 (fun j hj e => S.rb (by have : j = b := e; exact this ▸ hj)), m3⟩ ?_ (fun j hj => .inl hj))
     · obtain ⟨i, hi, rfl⟩ := List.mem_iff_getElem.1 hz
       exact ⟨(hok i hi).1, (hok i hi).2.1⟩
     · exact (hF2.mono (S' := fpK k u b fpd fpr) (fun _ _ h => .inr (.inr (.inr (.inr h))))).trans (S' := (· = b)) F3 (fun _ _ h => .inr (.inr (.inl h)))
end
end Go.Proofs.YtmokmbhhnbcelaaGreatDoor
