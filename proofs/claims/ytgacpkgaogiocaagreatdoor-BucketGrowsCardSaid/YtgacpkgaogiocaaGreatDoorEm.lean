/- maps from numbers to values of whatever kind. -/
import Derived.Test.YtgacpkgaogiocaaGreatDoorDd
import Derived.WideKeyEntry
set_option linter.unusedVariables false
namespace Go.Proofs.YtgacpkgaogiocaaGreatDoor
open Go Go.Vc Go.RowKit Go.Lib Go.Maps Go.Proofs Go.MapKept Go.ChangeMaps
/-- a value as it is -/
def rawE (v : Value) : Option (DataW Value × List MemPlace) := some (.held v, [])
abbrev Mf := Int → Option Value
def upd (m : Mf) (x : Int) (v : Option Value) : Mf := fun y => if y = x then v else m y
theorem upd_same {m : Mf} {x : Int} {v : Option Value} : upd m x v x = v := if_pos rfl
theorem upd_other {m : Mf} {x y : Int} {v : Option Value} (h : y ≠ x) : upd m x v y = m y := if_neg h
/-- block b is a map: what it has of each number; z is what there is of the others; c bounds what was written -/
def MapF (z : Value) (w : World) (b c : Nat) (m : Mf) : Prop :=
 ∃ (D : DataW Value) (n : Nat), w.ownsMap Pg T.y_int rawE b n D ∧ n ≤ c ∧ (∀ x : Int, Maps.has D (.int .i64 x) = (m x).isSome) ∧ ∀ x : Int, D.atKey (.int .i64 x) (.held z) = .held ((m x).getD z)
abbrev rng64 (x : Int) : Prop := -9223372036854775808 ≤ x ∧ x < 9223372036854775808
theorem put_facts {z : Value} {D : DataW Value} {m : Mf} {x : Int} {v : Value} (hm : IsMap D) (hh : ∀ x : Int, Maps.has D (.int .i64 x) = (m x).isSome) (hat : ∀ x : Int, D.atKey (.int .i64 x) (.held z) = .held ((m x).getD z)) :
   (∀ y : Int, Maps.has (D.put (.int .i64 x) (.held v)) (.int .i64 y) = (upd m x (some v) y).isSome) ∧ ∀ y : Int, (D.put (.int .i64 x) (.held v)).atKey (.int .i64 y) (.held z) = .held ((upd m x (some v) y).getD z) := by
 refine ⟨fun y => ?_, fun y => ?_⟩ <;> by_cases hy : y = x
 · subst hy
   rw [has_put_same hm (show WideAt.IsKeyLit (.int .i64 y) from trivial), upd_same]; rfl
 · rw [has_put_other (by simpa using hy), hh y, upd_other hy]
 · subst hy
   rw [atKey_put_same hm (show WideAt.IsKeyLit (.int .i64 y) from trivial), upd_same]; rfl
 · rw [atKey_put_other (by simpa using hy), hat y, upd_other hy]
section
variable {z : Value} {w w' : World} {b c : Nat} {m : Mf} {mt et : TypeId}
theorem MapF.lt (h : MapF z w b c m) : b < w.heap.size := by obtain ⟨D, n, ho, _⟩ := h; exact ho.lt
theorem MapF.mono (h : MapF z w b c m) {c' : Nat} (hc : c ≤ c') : MapF z w b c' m := by obtain ⟨D, n, ho, hn, r⟩ := h; exact ⟨D, n, ho, Nat.le_trans hn hc, r⟩
theorem MapF.same (h : MapF z w b c m) (hb : w'.heap[b]? = w.heap[b]?) : MapF z w' b c m := by
 obtain ⟨D, n, ⟨es, clock, h1, r⟩, h2⟩ := h
 exact ⟨D, n, ⟨es, clock, hb.trans h1, r⟩, h2⟩
theorem MapF.made (z : Value) (w : World) : MapF z (w.alloc (.map #[] 0)) w.heap.size 0 fun _ => none :=
 ⟨.map [], 0, World.ownsMap_made w Pg T.y_int _, Nat.le_refl _, fun x => by simp [Maps.has_eq], fun x => rfl⟩
theorem MapF.look (hu : Pg.underlying mt = some (.map T.y_int et)) (hz : (zeroValue et).run Pg w = .ok z w) (h : MapF z w b c m) {x : Int} (hx : rng64 x) :
   (Instr.lookup mt (.map (some b)) (.int .i64 x) false).run Pg w = .ok ((m x).getD z) w := by
 obtain ⟨D, n, ho, hn, hh, hat⟩ := h
 obtain ⟨v, ps, hrun, hv⟩ := ho.lookup Kint hu hz (show rawE z = some (.held z, []) from rfl) (keyOf_int_mk und_int' (intWf hx))
 rw [hat x] at hv
 simp only [rawE, Option.some.injEq, Prod.mk.injEq, DataW.held.injEq] at hv
 rw [hv.1] at hrun
 exact hrun
theorem MapF.lookok (hu : Pg.underlying mt = some (.map T.y_int et)) (hz : (zeroValue et).run Pg w = .ok z w) (h : MapF z w b c m) {x : Int} (hx : rng64 x) :
   (Instr.lookup mt (.map (some b)) (.int .i64 x) true).run Pg w = .ok (.tuple #[(m x).getD z, .bool (m x).isSome]) w := by
 obtain ⟨D, n, ho, hn, hh, hat⟩ := h
 obtain ⟨v, ps, hrun, hv⟩ := ho.look_ok Kint hu hz (show rawE z = some (.held z, []) from rfl) (keyOf_int_mk und_int' (intWf hx))
 rw [hat x] at hv
 simp only [rawE, Option.some.injEq, Prod.mk.injEq, DataW.held.injEq] at hv
 rw [hv.1, hh] at hrun
 exact hrun
theorem MapF.put (hu : Pg.underlying mt = some (.map T.y_int et)) (h : MapF z w b c m) (hc : c ≤ 1000000) {x : Int} {v : Value} (hx : rng64 x) :
   ∃ w', (Instr.mapUpdate mt (.map (some b)) (.int .i64 x) v).run Pg w = .ok () w' ∧ MapF z w' b (c + 1) (upd m x (some v)) ∧ Fr (· = b) w w' := by
 obtain ⟨D, n, ho, hn, hh, hat⟩ := h
 obtain ⟨w', hrun, ho', ht⟩ := ho.store Kint hu (by simp only [maxLen]; omega) (keyOf_int_mk und_int' (intWf hx)) (show rawE v = some (.held v, []) from rfl)
 exact ⟨w', hrun, ⟨_, n + 1, ho', by omega, put_facts ho.isMap hh hat⟩, Fr.grown (S := (· = b)) ht.grown fun k hk => (Option.some.inj hk).symm⟩
theorem MapF.del (hu : Pg.underlying mt = some (.map T.y_int et)) (h : MapF z w b c m) {x : Int} (hx : rng64 x) (ty : TypeId) :
   ∃ w', (Builtin.delete_ #[mt, T.y_int] ty #[.map (some b), .int .i64 x]).run Pg w = .ok (.tuple #[]) w' ∧ MapF z w' b c (upd m x none) ∧ Fr (· = b) w w' := by
 obtain ⟨D, n, ho, hn, hh, hat⟩ := h
 obtain ⟨w', hrun, ho', ht⟩ := ho.drop Kint hu (keyOf_int_mk und_int' (intWf hx)) ty
 refine ⟨w', hrun, ⟨_, n, ho', hn, fun y => ?_, fun y => ?_⟩, Fr.grown (S := (· = b)) ht.grown fun k hk => (Option.some.inj hk).symm⟩ <;> by_cases hy : y = x
 · subst hy; rw [has_del_same, upd_same]; rfl
 · rw [has_del_other (by simpa using hy), hh, upd_other hy]
 · subst hy; rw [atKey_del_same, upd_same]; rfl
 · rw [atKey_del_other (by simpa using hy), hat, upd_other hy]
/-- an entry that is asked for, and stored later: as if it were written at once -/
theorem MapF.entry (hu : Pg.underlying mt = some (.map T.y_int et)) (hz : ∀ u : World, (zeroValue et).run Pg u = .ok z u) (h : MapF z w b c m) (hc : c ≤ 1000000) {x : Int} (hx : rng64 x) :
   ∃ (v0 : Value) (st : Int) (o1 : Obj), (Instr.mapEntry mt (.map (some b)) (.int .i64 x)).run Pg w = .ok (.tuple #[v0, .int .i64 st]) (setBlock w b o1) ∧
     ∀ (w2 : World) (v : Value), w2.heap[b]? = some o1 → ∃ o2, (Instr.entryStore mt (.map (some b)) (.int .i64 st) v).run Pg w2 = .ok () (setBlock w2 b o2) ∧ MapF z (setBlock w2 b o2) b (c + 1) (upd m x (some v)) := by
 have hkey : keyOf Pg T.y_int (.int .i64 x) = some (.int .i64 x) := keyOf_int_mk und_int' (intWf hx)
 have hput : ∀ (v : Value) (o2 : Obj), (Instr.mapUpdate mt (.map (some b)) (.int .i64 x) v).run Pg w = .ok () (setBlock w b o2) → ∀ w2 : World, b < w2.heap.size → MapF z (setBlock w2 b o2) b (c + 1) (upd m x (some v)) := fun v o2 hrun w2 hlt => by
   obtain ⟨w', hrun', hm', _⟩ := h.put hu hc (v := v) hx
   rw [hrun] at hrun'
   injection hrun' with _ e
   subst e
   refine hm'.same ?_
   have hb := h.lt
   simp [setBlock, hb, hlt]
 obtain ⟨D, n, ⟨es, clock, hb, F, hs, hD⟩, hn, hh, hat⟩ := h
 obtain ⟨s1, s2, _⟩ := F.stamped
 have hlt : ∀ {w2 : World} {o : Obj}, w2.heap[b]? = some o → b < w2.heap.size := fun h2 => (Array.getElem?_eq_some_iff.1 h2).1
 rcases Kint.find w hkey es.toList F.keys with ⟨h1, h2⟩ | ⟨j, e0, h1, h2, h3⟩
 · have hidx : (es.push ⟨.int .i64 x, z, clock⟩).findIdx? (fun e => ((e.born : Nat) : Int) == ((clock : Nat) : Int)) = some es.size := by
     rw [WideElems.findIdx_arr]
     refine WideElems.findIdx_born (l := (es.push ⟨.int .i64 x, z, clock⟩).toList) (j := es.size) (e0 := ⟨.int .i64 x, z, clock⟩) ?_ (by simp)
     simp only [Array.toList_push, List.map_append, List.map_cons, List.map_nil]
     refine List.nodup_append.2 ⟨s2, by simp, fun a ha d hd e1 => ?_⟩
     simp only [List.mem_singleton] at hd
     obtain ⟨y, hy, rfl⟩ := List.mem_map.1 ha
     have := s1 y hy
     omega
   refine ⟨z, clock, .map (es.push ⟨.int .i64 x, z, clock⟩) (clock + 1), ?_, fun w2 v hw2 => ⟨.map (es.push ⟨.int .i64 x, v, clock⟩) (clock + 1), ?_, hput v _ ?_ w2 (hlt hw2)⟩⟩
   · simp [Instr.mapEntry, run_underlying hu, MapKept.run_getObj_map hb, Kint.check w false hkey, h1, hz, MapKept.run_setObj_map _ hb, Result.andThen, setBlock, goInt]
   · have hmod : (es.push ⟨.int .i64 x, z, clock⟩).modify es.size (fun e => { e with val := v }) = es.push ⟨.int .i64 x, v, clock⟩ := by
       apply Array.ext'
       rw [Array.toList_modify, Array.toList_push, Array.toList_push, ← Array.length_toList, WideElems.modify_last]
     simp [Instr.entryStore, MapKept.run_getObj_map hw2, asInt, asIntOf, hidx, hmod, MapKept.run_setObj_map _ hw2, Result.andThen, setBlock]
   · simp [Instr.mapUpdate, run_underlying hu, MapKept.run_getObj_map hb, Kint.check w false hkey, h1, MapKept.run_setObj_map _ hb, Result.andThen, setBlock]
 · have hj : es[j]? = some e0 := by simpa using h2
   have hidx : es.findIdx? (fun e => ((e.born : Nat) : Int) == ((e0.born : Nat) : Int)) = some j := by
     rw [WideElems.findIdx_arr]; exact WideElems.findIdx_born s2 h2
   have hsame : es.modify j (fun e => { e with key := .int .i64 x }) = es := by
     apply Array.ext'
     rw [Array.toList_modify, modify_eq_set _ _ _ _ h2]
     have : ({ e0 with key := .int .i64 x } : MapEntry) = e0 := by rw [← h3]
     rw [this]
     exact WideElems.set_self _ _ _ h2
   refine ⟨e0.val, e0.born, .map es clock, ?_, fun w2 v hw2 => ⟨.map (es.modify j fun e => { e with key := .int .i64 x, val := v }) clock, ?_, hput v _ ?_ w2 (hlt hw2)⟩⟩
   · simp [Instr.mapEntry, run_underlying hu, MapKept.run_getObj_map hb, Kint.check w false hkey, h1, hj, h3, Kint.stays w hkey, hsame, MapKept.run_setObj_map _ hb, Result.andThen, setBlock, goInt]
   · have hmod : es.modify j (fun e => { e with val := v }) = es.modify j (fun e => { e with key := .int .i64 x, val := v }) := by
       apply Array.ext'
       rw [Array.toList_modify, Array.toList_modify, modify_eq_set _ _ _ _ h2, modify_eq_set _ _ _ _ h2, ← h3]
     simp [Instr.entryStore, MapKept.run_getObj_map hw2, asInt, asIntOf, hidx, hmod, MapKept.run_setObj_map _ hw2, Result.andThen, setBlock]
   · simp [Instr.mapUpdate, run_underlying hu, MapKept.run_getObj_map hb, Kint.check w false hkey, h1, hj, h3, Kint.stays w hkey, MapKept.run_setObj_map _ hb, Result.andThen, setBlock]
end
/-- a map, as an assertion -/
def MpS (z : Value) (b c : Nat) (m : Mf) : As where
 p := fun w S => MapF z w b c m ∧ S = fun k => k = b
 lt := fun ⟨h, e⟩ k hk => by subst e; have : k = b := hk; subst this; exact h.lt
 keep := fun ⟨h, e⟩ hf => ⟨by
   obtain ⟨D, n, ⟨es, clock, h1, r⟩, h2⟩ := h
   exact ⟨D, n, ⟨es, clock, hf.heap h1 (fun hn => hn (by subst e; rfl)), r⟩, h2⟩, e⟩
/-- a map of which an entry was asked for -/
def MpE (mt : TypeId) (z : Value) (b c : Nat) (m : Mf) (x : Int) (st : Int) : As where
 p := fun w S => (∃ o1, w.heap[b]? = some o1 ∧ ∀ (w2 : World) (v : Value), w2.heap[b]? = some o1 → ∃ o2, (Instr.entryStore mt (.map (some b)) (.int .i64 st) v).run Pg w2 = .ok () (setBlock w2 b o2) ∧ MapF z (setBlock w2 b o2) b (c + 1) (upd m x (some v))) ∧ S = fun k => k = b
 lt := fun ⟨⟨o, h, _⟩, e⟩ k hk => by subst e; have : k = b := hk; subst this; exact heap_lt h
 keep := fun ⟨⟨o, h, r⟩, e⟩ hf => ⟨⟨o, hf.heap h (fun hn => hn (by subst e; rfl)), r⟩, e⟩
section
variable {z : Value} {w : World} {X : List As} {b c : Nat} {m : Mf} {mt et : TypeId}
theorem MpS.of (h : St w (MpS z b c m :: X)) : MapF z w b c m := by obtain ⟨S, h, _⟩ := h.hd; exact h
theorem MpS.new (h : St w X) (z : Value) : St (w.alloc (.map #[] 0)) (MpS z w.heap.size 0 (fun _ => none) :: X) :=
 h.add (S := (· = w.heap.size)) ⟨MapF.made z w, rfl⟩ (Fr.alloc no w _) (fun k hk => Nat.le_of_eq (Eq.symm hk))
theorem MpS.put (h : St w (MpS z b c m :: X)) (hu : Pg.underlying mt = some (.map T.y_int et)) (hc : c ≤ 1000000) {x : Int} {v : Value} (hx : rng64 x) {R : World → Prop}
   (hR : ∀ w', St w' (MpS z b (c + 1) (upd m x (some v)) :: X) → R w') : RunU Pg (Instr.mapUpdate mt (.map (some b)) (.int .i64 x) v) w R := by
 obtain ⟨S, ⟨hm, e⟩, _, hX⟩ := h.out
 subst e
 obtain ⟨w', hr, hm', hf⟩ := hm.put hu hc (v := v) hx
 exact ⟨w', hr, hR w' (hX ⟨hm', rfl⟩ hf fun k hk => .inl hk)⟩
theorem MpS.del (h : St w (MpS z b c m :: X)) (hu : Pg.underlying mt = some (.map T.y_int et)) {x : Int} (hx : rng64 x) {ty : TypeId} {R : World → Prop}
   (hR : ∀ w', St w' (MpS z b c (upd m x none) :: X) → R w') : RunT Pg (Builtin.delete_ #[mt, T.y_int] ty #[.map (some b), .int .i64 x]) [] w R := by
 obtain ⟨S, ⟨hm, e⟩, _, hX⟩ := h.out
 subst e
 obtain ⟨w', hr, hm', hf⟩ := hm.del hu hx ty
 exact ⟨w', hr, hR w' (hX ⟨hm', rfl⟩ hf fun k hk => .inl hk)⟩
theorem fr_block {w : World} {b : Nat} {o : Obj} : Fr (· = b) w (setBlock w b o) :=
 ⟨rfl, rfl, rfl, by simp [setBlock], fun k _ hk => by simp [setBlock]; rw [Array.getElem?_setIfInBounds_ne (fun e => hk e.symm)]⟩
theorem MpS.entry (h : St w (MpS z b c m :: X)) (hu : Pg.underlying mt = some (.map T.y_int et)) (hz : ∀ u : World, (zeroValue et).run Pg u = .ok z u) (hc : c ≤ 1000000) {x : Int} (hx : rng64 x) :
   ∃ (v0 : Value) (st : Int) (w' : World), (Instr.mapEntry mt (.map (some b)) (.int .i64 x)).run Pg w = .ok (.tuple #[v0, .int .i64 st]) w' ∧ St w' (MpE mt z b c m x st :: X) := by
 obtain ⟨S, ⟨hm, e⟩, _, hX⟩ := h.out
 subst e
 obtain ⟨v0, st, o1, hr, hs⟩ := hm.entry hu hz hc hx
 refine ⟨v0, st, _, hr, hX ⟨⟨o1, ?_, hs⟩, rfl⟩ fr_block fun k hk => .inl hk⟩
 have hb := hm.lt
 simp [setBlock, hb]
theorem MpE.store {x st : Int} {v : Value} (h : St w (MpE mt z b c m x st :: X)) {R : World → Prop} (hR : ∀ w', St w' (MpS z b (c + 1) (upd m x (some v)) :: X) → R w') :
   RunU Pg (Instr.entryStore mt (.map (some b)) (.int .i64 st) v) w R := by
 obtain ⟨S, ⟨⟨o1, hb, hs⟩, e⟩, _, hX⟩ := h.out
 subst e
 obtain ⟨o2, hr, hm⟩ := hs w v hb
 exact ⟨_, hr, hR _ (hX ⟨hm, rfl⟩ fr_block fun k hk => .inl hk)⟩
end
end Go.Proofs.YtgacpkgaogiocaaGreatDoor
