/- maps from numbers to values of whatever kind. -/
import Derived.Test.YtgacpkgaogiocaaGreatDoorDd
import Derived.WideKeyEntry
import Derived.Test.YtgacpkgaogiocaaGreatDoorEg
set_option linter.unusedVariables false
namespace Go.Proofs.YtgacpkgaogiocaaGreatDoor
open Go Go.Vc Go.RowKit Go.Lib Go.Maps Go.Proofs Go.MapKept Go.ChangeMaps
/-- a value as it is -/
def rawE (v:Value):Option (DataW Value × List MemPlace):=some (.held v,[])
abbrev Mf:=Int→Option Value
def upd (m:Mf) (x:Int) (v:Option Value):Mf:=fun y=>if y=x then v else m y
theorem upd_same {m:Mf} {x:Int} {v:Option Value}:upd m x v x=v:=if_pos rfl
theorem upd_other {m:Mf} {x y:Int} {v:Option Value} (h:y≠x):upd m x v y=m y:=if_neg h
/-- block b is a map: what it has of each number; z is what there is of the others; c bounds what was written -/
def MapF (z:Value) (w:World) (b c:Nat) (m:Mf):Prop:=
 ∃ (D:DataW Value) (n:Nat),w.ownsMap Pg T.y_int rawE b n D∧n≤c∧(∀ x:Int,Maps.has D (.int .i64 x)=(m x).isSome)∧∀ x:Int,D.atKey (.int .i64 x) (.held z) = .held ((m x).getD z)
abbrev rng64 (x:Int):Prop:=-9223372036854775808≤x∧x < 9223372036854775808
theorem put_facts {z : Value} {D : DataW Value} {m : Mf} {x : Int} {v : Value} (hm : IsMap D) (hh : ∀ x : Int, Maps.has D (.int .i64 x) = (m x).isSome) (hat : ∀ x : Int, D.atKey (.int .i64 x) (.held z) = .held ((m x).getD z)) :
   (∀ y:Int,Maps.has (D.put (.int .i64 x) (.held v)) (.int .i64 y)=(upd m x (some v) y).isSome)∧∀ y:Int,(D.put (.int .i64 x) (.held v)).atKey (.int .i64 y) (.held z) = .held ((upd m x (some v) y).getD z):=by
 refine ⟨fun y=>?_,fun y=>?_⟩ <;> by_cases hy:y=x
 · subst hy
   rw [has_put_same hm (show WideAt.IsKeyLit (.int .i64 y) from trivial),upd_same]; rfl
 · rw [has_put_other (by simpa using hy),hh y,upd_other hy]
 · subst hy
   rw [atKey_put_same hm (show WideAt.IsKeyLit (.int .i64 y) from trivial),upd_same]; rfl
 · rw [atKey_put_other (by simpa using hy),hat y,upd_other hy]
section
variable {z:Value} {w w':World} {b c:Nat} {m:Mf} {mt et:TypeId}
theorem MapF.lt (h:MapF z w b c m):b < w.heap.size:=by obtain ⟨D,n,ho,_⟩:=h; exact ho.lt
theorem MapF.mono (h:MapF z w b c m) {c':Nat} (hc:c≤c'):MapF z w b c' m:=by obtain ⟨D,n,ho,hn,r⟩:=h; exact ⟨D,n,ho,Nat.le_trans hn hc,r⟩
theorem MapF.same (h:MapF z w b c m) (hb:w'.heap[b]? = w.heap[b]?):MapF z w' b c m:=by
 obtain ⟨D,n,⟨es,clock,h1,r⟩,h2⟩:=h
 exact ⟨D,n,⟨es,clock,hb.trans h1,r⟩,h2⟩
theorem MapF.made (z:Value) (w:World):MapF z (w.alloc (.map #[] 0)) w.heap.size 0 fun _=>none:=
 ⟨.map [],0,World.ownsMap_made w Pg T.y_int _,Nat.le_refl _,fun x=>by simp [Maps.has_eq],fun x=>rfl⟩
theorem MapF.look (hu : Pg.underlying mt = some (.map T.y_int et)) (hz : (zeroValue et).run Pg w = .ok z w) (h : MapF z w b c m) {x : Int} (hx : rng64 x) :
   (Instr.lookup mt (.map (some b)) (.int .i64 x) false).run Pg w = .ok ((m x).getD z) w:=by
 obtain ⟨D,n,ho,hn,hh,hat⟩:=h
 obtain ⟨v,ps,hrun,hv⟩:=ho.lookup Kint hu hz (show rawE z=some (.held z,[]) from rfl) (keyOf_int_mk und_int' (intWf hx))
 rw [hat x] at hv
 simp only [rawE,Option.some.injEq,Prod.mk.injEq,DataW.held.injEq] at hv
 rw [hv.1] at hrun
 exact hrun
theorem MapF.lookok (hu : Pg.underlying mt = some (.map T.y_int et)) (hz : (zeroValue et).run Pg w = .ok z w) (h : MapF z w b c m) {x : Int} (hx : rng64 x) :
   (Instr.lookup mt (.map (some b)) (.int .i64 x) true).run Pg w = .ok (.tuple #[(m x).getD z,.bool (m x).isSome]) w:=by
 obtain ⟨D,n,ho,hn,hh,hat⟩:=h
 obtain ⟨v,ps,hrun,hv⟩:=ho.look_ok Kint hu hz (show rawE z=some (.held z,[]) from rfl) (keyOf_int_mk und_int' (intWf hx))
 rw [hat x] at hv
 simp only [rawE,Option.some.injEq,Prod.mk.injEq,DataW.held.injEq] at hv
 rw [hv.1,hh] at hrun
 exact hrun
theorem MapF.put (hu : Pg.underlying mt = some (.map T.y_int et)) (h : MapF z w b c m) (hc : c ≤ 1000000) {x : Int} {v : Value} (hx : rng64 x) :
   ∃ w',(Instr.mapUpdate mt (.map (some b)) (.int .i64 x) v).run Pg w = .ok () w'∧MapF z w' b (c + 1) (upd m x (some v))∧Fr (· = b) w w':=by
 obtain ⟨D,n,ho,hn,hh,hat⟩:=h
 obtain ⟨w',hrun,ho',ht⟩:=ho.store Kint hu (by simp only [maxLen]; omega) (keyOf_int_mk und_int' (intWf hx)) (show rawE v=some (.held v,[]) from rfl)
 exact ⟨w',hrun,⟨_,n + 1,ho',by omega,put_facts ho.isMap hh hat⟩,Fr.grown (S:=(· = b)) ht.grown fun k hk=>(Option.some.inj hk).symm⟩
theorem MapF.del (hu : Pg.underlying mt = some (.map T.y_int et)) (h : MapF z w b c m) {x : Int} (hx : rng64 x) (ty : TypeId) :
   ∃ w',(Builtin.delete_ #[mt,T.y_int] ty #[.map (some b),.int .i64 x]).run Pg w = .ok (.tuple #[]) w'∧MapF z w' b c (upd m x none)∧Fr (· = b) w w':=by
 obtain ⟨D,n,ho,hn,hh,hat⟩:=h
 obtain ⟨w',hrun,ho',ht⟩:=ho.drop Kint hu (keyOf_int_mk und_int' (intWf hx)) ty
 refine ⟨w',hrun,⟨_,n,ho',hn,fun y=>?_,fun y=>?_⟩,Fr.grown (S:=(· = b)) ht.grown fun k hk=>(Option.some.inj hk).symm⟩ <;> by_cases hy:y=x
 · subst hy; rw [has_del_same,upd_same]; rfl
 · rw [has_del_other (by simpa using hy),hh,upd_other hy]
 · subst hy; rw [atKey_del_same,upd_same]; rfl
 · rw [atKey_del_other (by simpa using hy),hat,upd_other hy]
/-- an entry that is asked for, and stored later: as if it were written at once -/
theorem MapF.entry (hu : Pg.underlying mt = some (.map T.y_int et)) (hz : ∀ u : World, (zeroValue et).run Pg u = .ok z u) (h : MapF z w b c m) (hc : c ≤ 1000000) {x : Int} (hx : rng64 x) :
   ∃ (v0:Value) (st:Int) (o1:Obj),(Instr.mapEntry mt (.map (some b)) (.int .i64 x)).run Pg w = .ok (.tuple #[v0,.int .i64 st]) (setBlock w b o1)∧
     ∀ (w2:World) (v:Value),w2.heap[b]? = some o1→∃ o2,(Instr.entryStore mt (.map (some b)) (.int .i64 st) v).run Pg w2 = .ok () (setBlock w2 b o2)∧MapF z (setBlock w2 b o2) b (c + 1) (upd m x (some v)):=by
 have hkey:keyOf Pg T.y_int (.int .i64 x)=some (.int .i64 x):=keyOf_int_mk und_int' (intWf hx)
 have hput:∀ (v:Value) (o2:Obj),(Instr.mapUpdate mt (.map (some b)) (.int .i64 x) v).run Pg w = .ok () (setBlock w b o2)→∀ w2:World,b < w2.heap.size→MapF z (setBlock w2 b o2) b (c + 1) (upd m x (some v)):=fun v o2 hrun w2 hlt=>by
   obtain ⟨w',hrun',hm',_⟩:=h.put hu hc (v:=v) hx
   rw [hrun] at hrun'
   injection hrun' with _ e
   subst e
   refine hm'.same ?_
   have hb:=h.lt
   simp [setBlock,hb,hlt]
 obtain ⟨D,n,⟨es,clock,hb,F,hs,hD⟩,hn,hh,hat⟩:=h
 obtain ⟨s1,s2,_⟩:=F.stamped
 have hlt:∀ {w2:World} {o:Obj},w2.heap[b]? = some o→b < w2.heap.size:=fun h2=>(Array.getElem?_eq_some_iff.1 h2).1
 rcases Kint.find w hkey es.toList F.keys with ⟨h1,h2⟩ | ⟨j,e0,h1,h2,h3⟩
 · have hidx : (es.push ⟨.int .i64 x, z, clock⟩).findIdx? (fun e => ((e.born : Nat) : Int) == ((clock : Nat) : Int)) = some es.size := by
     rw [WideElems.findIdx_arr]
     refine WideElems.findIdx_born (l:=(es.push ⟨.int .i64 x,z,clock⟩).toList) (j:=es.size) (e0:=⟨.int .i64 x,z,clock⟩) ?_ (by simp)
     simp only [Array.toList_push,List.map_append,List.map_cons,List.map_nil]
     refine List.nodup_append.2 ⟨s2,by simp,fun a ha d hd e1=>?_⟩
     simp only [List.mem_singleton] at hd
     obtain ⟨y,hy,rfl⟩:=List.mem_map.1 ha
     have:=s1 y hy
     omega
   refine ⟨z,clock,.map (es.push ⟨.int .i64 x,z,clock⟩) (clock + 1),?_,fun w2 v hw2=>⟨.map (es.push ⟨.int .i64 x,v,clock⟩) (clock + 1),?_,hput v _ ?_ w2 (hlt hw2)⟩⟩
   · simp [Instr.mapEntry,run_underlying hu,MapKept.run_getObj_map hb,Kint.check w false hkey,h1,hz,MapKept.run_setObj_map _ hb,Result.andThen,setBlock,goInt]
   · have hmod : (es.push ⟨.int .i64 x, z, clock⟩).modify es.size (fun e => { e with val := v }) = es.push ⟨.int .i64 x, v, clock⟩ := by
       apply Array.ext'
       rw [Array.toList_modify,Array.toList_push,Array.toList_push,← Array.length_toList,WideElems.modify_last]
     simp [Instr.entryStore,MapKept.run_getObj_map hw2,asInt,asIntOf,hidx,hmod,MapKept.run_setObj_map _ hw2,Result.andThen,setBlock]
   · simp [Instr.mapUpdate,run_underlying hu,MapKept.run_getObj_map hb,Kint.check w false hkey,h1,MapKept.run_setObj_map _ hb,Result.andThen,setBlock]
 · have hj:es[j]? = some e0:=by simpa using h2
   have hidx:es.findIdx? (fun e=>((e.born:Nat):Int) == ((e0.born:Nat):Int))=some j:=by
     rw [WideElems.findIdx_arr]; exact WideElems.findIdx_born s2 h2
   have hsame:es.modify j (fun e=>{ e with key:=.int .i64 x })=es:=by
     apply Array.ext'
     rw [Array.toList_modify,modify_eq_set _ _ _ _ h2]
     have:({ e0 with key:=.int .i64 x }:MapEntry)=e0:=by rw [← h3]
     rw [this]
     exact WideElems.set_self _ _ _ h2
   refine ⟨e0.val,e0.born,.map es clock,?_,fun w2 v hw2=>⟨.map (es.modify j fun e=>{ e with key:=.int .i64 x,val:=v }) clock,?_,hput v _ ?_ w2 (hlt hw2)⟩⟩
   · simp [Instr.mapEntry,run_underlying hu,MapKept.run_getObj_map hb,Kint.check w false hkey,h1,hj,h3,Kint.stays w hkey,hsame,MapKept.run_setObj_map _ hb,Result.andThen,setBlock,goInt]
   · have hmod : es.modify j (fun e => { e with val := v }) = es.modify j (fun e => { e with key := .int .i64 x, val := v }) := by
       apply Array.ext'
       rw [Array.toList_modify,Array.toList_modify,modify_eq_set _ _ _ _ h2,modify_eq_set _ _ _ _ h2,← h3]
     simp [Instr.entryStore,MapKept.run_getObj_map hw2,asInt,asIntOf,hidx,hmod,MapKept.run_setObj_map _ hw2,Result.andThen,setBlock]
   · simp [Instr.mapUpdate,run_underlying hu,MapKept.run_getObj_map hb,Kint.check w false hkey,h1,hj,h3,Kint.stays w hkey,MapKept.run_setObj_map _ hb,Result.andThen,setBlock]
end
/-- a map, as an assertion -/
def MpS (z:Value) (b c:Nat) (m:Mf):As where
 p:=fun w S=>MapF z w b c m∧S=fun k=>k=b
 lt:=fun ⟨h,e⟩ k hk=>by subst e; have:k=b:=hk; subst this; exact h.lt
 keep:=fun ⟨h,e⟩ hf=>⟨by
   obtain ⟨D,n,⟨es,clock,h1,r⟩,h2⟩:=h
   exact ⟨D,n,⟨es,clock,hf.heap h1 (fun hn=>hn (by subst e; rfl)),r⟩,h2⟩,e⟩
/-- a map of which an entry was asked for -/
def MpE (mt:TypeId) (z:Value) (b c:Nat) (m:Mf) (x:Int) (st:Int):As where
 p:=fun w S=>(∃ o1,w.heap[b]? = some o1∧∀ (w2:World) (v:Value),w2.heap[b]? = some o1→∃ o2,(Instr.entryStore mt (.map (some b)) (.int .i64 st) v).run Pg w2 = .ok () (setBlock w2 b o2)∧MapF z (setBlock w2 b o2) b (c + 1) (upd m x (some v)))∧S=fun k=>k=b
 lt:=fun ⟨⟨o,h,_⟩,e⟩ k hk=>by subst e; have:k=b:=hk; subst this; exact heap_lt h
 keep:=fun ⟨⟨o,h,r⟩,e⟩ hf=>⟨⟨o,hf.heap h (fun hn=>hn (by subst e; rfl)),r⟩,e⟩
section
variable {z:Value} {w:World} {X:List As} {b c:Nat} {m:Mf} {mt et:TypeId}
theorem MpS.of (h:St w (MpS z b c m :: X)):MapF z w b c m:=by obtain ⟨S,h,_⟩:=h.hd; exact h
theorem MpS.new (h:St w X) (z:Value):St (w.alloc (.map #[] 0)) (MpS z w.heap.size 0 (fun _=>none) :: X):=
 h.add (S:=(· = w.heap.size)) ⟨MapF.made z w,rfl⟩ (Fr.alloc no w _) (fun k hk=>Nat.le_of_eq (Eq.symm hk))
theorem MpS.put (h : St w (MpS z b c m :: X)) (hu : Pg.underlying mt = some (.map T.y_int et)) (hc : c ≤ 1000000) {x : Int} {v : Value} (hx : rng64 x) {R : World → Prop}
   (hR:∀ w',St w' (MpS z b (c + 1) (upd m x (some v)) :: X)→R w'):RunU Pg (Instr.mapUpdate mt (.map (some b)) (.int .i64 x) v) w R:=by
 obtain ⟨S,⟨hm,e⟩,_,hX⟩:=h.out
 subst e
 obtain ⟨w',hr,hm',hf⟩:=hm.put hu hc (v:=v) hx
 exact ⟨w',hr,hR w' (hX ⟨hm',rfl⟩ hf fun k hk=>.inl hk)⟩
theorem MpS.del (h : St w (MpS z b c m :: X)) (hu : Pg.underlying mt = some (.map T.y_int et)) {x : Int} (hx : rng64 x) {ty : TypeId} {R : World → Prop}
   (hR:∀ w',St w' (MpS z b c (upd m x none) :: X)→R w'):RunT Pg (Builtin.delete_ #[mt,T.y_int] ty #[.map (some b),.int .i64 x]) [] w R:=by
 obtain ⟨S,⟨hm,e⟩,_,hX⟩:=h.out
 subst e
 obtain ⟨w',hr,hm',hf⟩:=hm.del hu hx ty
 exact ⟨w',hr,hR w' (hX ⟨hm',rfl⟩ hf fun k hk=>.inl hk)⟩
theorem fr_block {w:World} {b:Nat} {o:Obj}:Fr (· = b) w (setBlock w b o):=
 ⟨rfl,rfl,rfl,by simp [setBlock],fun k _ hk=>by simp [setBlock]; rw [Array.getElem?_setIfInBounds_ne (fun e=>hk e.symm)]⟩
theorem MpS.entry (h : St w (MpS z b c m :: X)) (hu : Pg.underlying mt = some (.map T.y_int et)) (hz : ∀ u : World, (zeroValue et).run Pg u = .ok z u) (hc : c ≤ 1000000) {x : Int} (hx : rng64 x) :
   ∃ (v0:Value) (st:Int) (w':World),(Instr.mapEntry mt (.map (some b)) (.int .i64 x)).run Pg w = .ok (.tuple #[v0,.int .i64 st]) w'∧St w' (MpE mt z b c m x st :: X):=by
 obtain ⟨S,⟨hm,e⟩,_,hX⟩:=h.out
 subst e
 obtain ⟨v0,st,o1,hr,hs⟩:=hm.entry hu hz hc hx
 refine ⟨v0,st,_,hr,hX ⟨⟨o1,?_,hs⟩,rfl⟩ fr_block fun k hk=>.inl hk⟩
 have hb:=hm.lt
 simp [setBlock,hb]
theorem MpE.store {x st : Int} {v : Value} (h : St w (MpE mt z b c m x st :: X)) {R : World → Prop} (hR : ∀ w', St w' (MpS z b (c + 1) (upd m x (some v)) :: X) → R w') :
   RunU Pg (Instr.entryStore mt (.map (some b)) (.int .i64 st) v) w R:=by
 obtain ⟨S,⟨⟨o1,hb,hs⟩,e⟩,_,hX⟩:=h.out
 subst e
 obtain ⟨o2,hr,hm⟩:=hs w v hb
 exact ⟨_,hr,hR _ (hX ⟨hm,rfl⟩ fr_block fun k hk=>.inl hk)⟩
end
end Go.Proofs.YtgacpkgaogiocaaGreatDoor

/- a table of buckets in memory: its words; set; what a bucket has. -/
set_option linter.unusedVariables false
namespace Go.Proofs.YtgacpkgaogiocaaGreatDoor
open Go Go.Vc Go.RowKit Go.Lib Go.Maps
structure TbP where
 pl:Sl
 kb:Nat
 wb:Nat
abbrev Rw:=List (Sl × List Ey)
/-- what a table in memory says -/
structure Tb where
 gen:Int
 root:Int
 many:Nat
 ps:List Int
 kn:Kn
 wr:Int→Option Bool
 rows:Rw
 p:TbP
abbrev tbC (k:Nat) (U:Tb):List Value:=[.pointer (some (blk k)),.int .i64 U.gen,.int .i64 U.root,.int .i64 (U.many:Int),.slice U.p.pl.a U.p.pl.len U.p.pl.cap,.map (some U.p.kb),.map (some U.p.wb)]
def knM (kn:Kn):Mf:=fun x=>(kn x).map fun q=>.slice q.1.a q.1.len q.1.cap
def wrM (wr:Int→Option Bool):Mf:=fun x=>(wr x).map Value.bool
def rowA (q:Sl × List Ey):As:=Row EE T.y_api_Entry q.1 q.2
def zSl:Value:=.slice none 0 0
def zB:Value:=.bool false
def TabS (t k c:Nat) (U:Tb):As:=As.wh ((∀ x q,U.kn x=some q→q∈U.rows)∧U.many≤1000∧U.ps.length≤1000∧∀ x,U.wr x=some true→∃ q,U.kn x=some q) (As.all [Cs t (tbC k U) T.y_bucket_table,Row EI T.y_int U.p.pl U.ps,MpS zSl U.p.kb c (knM U.kn),MpS zB U.p.wb c (wrM U.wr),As.all (U.rows.map rowA)])
theorem und_mie:Pg.underlying T.y_map_int_sl_api_Entry=some (.map T.y_int T.y_sl_api_Entry):=by kernel_rfl
theorem zero_mie (w:World):(zeroValue T.y_sl_api_Entry).run Pg w = .ok zSl w:=run_zeroT (by kernel_rfl) w
theorem zero_mib (w:World):(zeroValue T.y_bool).run Pg w = .ok zB w:=run_zeroT (by kernel_rfl) w
def InR (rows:Rw) (sl:Sl) (l:List Ey):Prop:=(sl,l)∈rows∨(sl=⟨none,0,0⟩∧l=[])
theorem InR.mono {rows rows':Rw} {sl:Sl} {l:List Ey} (h:InR rows sl l) (hs:∀ q∈rows,q∈rows'):InR rows' sl l:=h.imp (hs _) id
theorem knM_upd (kn:Kn) (n:Int) (sl:Sl) (l:List Ey):knM (fun x=>if x=n then some (sl,l) else kn x)=upd (knM kn) n (some (.slice sl.a sl.len sl.cap)):=by
 funext x
 unfold knM upd
 dsimp only
 by_cases h:x=n
 · rw [if_pos h,if_pos h]; rfl
 · rw [if_neg h,if_neg h]
theorem wrM_upd (wr:Int→Option Bool) (n:Int) (b:Option Bool):wrM (fun x=>if x=n then b else wr x)=upd (wrM wr) n (b.map Value.bool):=by
 funext x
 unfold wrM upd
 dsimp only
 by_cases h:x=n
 · rw [if_pos h,if_pos h]
 · rw [if_neg h,if_neg h]
theorem knM_del (kn:Kn) (n:Int):knM (fun x=>if x=n then none else kn x)=upd (knM kn) n none:=by
 funext x
 unfold knM upd
 dsimp only
 by_cases h:x=n
 · rw [if_pos h,if_pos h]; rfl
 · rw [if_neg h,if_neg h]
section
variable {w:World} {X:List As} {t k c:Nat} {U:Tb}
theorem TabS.parts (h:St w (TabS t k c U :: X)):((∀ x q,U.kn x=some q→q∈U.rows)∧U.many≤1000∧U.ps.length≤1000∧∀ x,U.wr x=some true→∃ q,U.kn x=some q)∧St w (Cs t (tbC k U) T.y_bucket_table :: Row EI T.y_int U.p.pl U.ps :: MpS zSl U.p.kb c (knM U.kn) :: MpS zB U.p.wb c (wrM U.wr) :: As.all (U.rows.map rowA) :: X):=by
 obtain ⟨h1,h2⟩:=St.wh h
 exact ⟨h1,h2.unfold⟩
theorem TabS.join (hr:(∀ x q,U.kn x=some q→q∈U.rows)∧U.many≤1000∧U.ps.length≤1000∧∀ x,U.wr x=some true→∃ q,U.kn x=some q) (h:St w (Cs t (tbC k U) T.y_bucket_table :: Row EI T.y_int U.p.pl U.ps :: MpS zSl U.p.kb c (knM U.kn) :: MpS zB U.p.wb c (wrM U.wr) :: As.all (U.rows.map rowA) :: X)):St w (TabS t k c U :: X):=
 St.whmk hr (St.fold [Cs t (tbC k U) T.y_bucket_table,Row EI T.y_int U.p.pl U.ps,MpS zSl U.p.kb c (knM U.kn),MpS zB U.p.wb c (wrM U.wr),As.all (U.rows.map rowA)] h)
theorem MpS.mono {z:Value} {b c c':Nat} {m:Mf} (h:St w (MpS z b c m :: X)) (hc:c≤c'):St w (MpS z b c' m :: X):=h.as fun S ⟨hm,e⟩=>⟨hm.mono hc,e⟩
theorem TabS.mono {c':Nat} (h:St w (TabS t k c U :: X)) (hc:c≤c'):St w (TabS t k c' U :: X):=by
 obtain ⟨hr,q⟩:=TabS.parts h
 have q1:=MpS.mono q.up2 hc
 have q2:=MpS.mono q1.up3 hc
 exact TabS.join hr q2.dn3.sw.up2.sw
theorem TabS.has (h:St w (TabS t k c U :: X)) {sl:Sl} {l:List Ey} (hq:InR U.rows sl l):Has EE w sl l∧NilOk sl:=by
 rcases hq with hq | ⟨rfl,rfl⟩
 · obtain ⟨hr,q⟩:=TabS.parts h
   obtain ⟨i,hi,e⟩:=List.mem_iff_getElem.1 hq
   obtain ⟨S,hS,_⟩:=St.amongs q.up4 (i:=i) (A:=rowA (sl,l)) (by simp [hi,e])
   exact ⟨Has.of_own (by decide) hS,fun ha=>(Own.isNil hS ha).1⟩
 · exact ⟨Has.nil,fun _=>rfl⟩
theorem rows_snoc {rows:Rw} {sl:Sl} {l:List Ey} (h:St w (Row EE T.y_api_Entry sl l :: As.all (rows.map rowA) :: X)):St w (As.all ((rows ++ [(sl,l)]).map rowA) :: X):=by
 rw [List.map_append]
 exact St.snocs h
theorem set_st {sl : Sl} {l : List Ey} (h : St w (TabS t k c U :: Row EE T.y_api_Entry sl l :: X)) (hc : c ≤ 900000) {n : Int} (hn : rng64 n) {R : World → Prop}
   (hR:∀ w',St w' (TabS t k (c + 1) { U with kn:=fun x=>if x=n then some (sl,l) else U.kn x,wr:=fun x=>if x=n then some true else U.wr x,rows:=U.rows ++ [(sl,l)] } :: X)→R w'):F.bucket_table_set (some (blk t)) n sl w R:=by
 apply E.bucket_table_set
 unfold V.bucket_table_set
 try simp -zeta only [ldC,soC,brC,bkA,slC,cnd_all,blk_add2,Nat.reduceAdd]
 refine St.dr h fun wa1 h=>?_
 obtain ⟨hr,q⟩:=TabS.parts h
 refine ⟨_,q.cell 5,_,q.cell 6,?_⟩
 have q:=q.up2
 obtain ⟨v0,st,w1,hr1,q⟩:=MpS.entry q und_mie zero_mie (by omega) hn
 refine ⟨v0,st,w1,hr1,MpE.store q fun w2 q=>?_⟩
 have q:=q.up3
 obtain ⟨v1,st1,w3,hr2,q⟩:=MpS.entry q und_mib zero_mib (by omega) hn
 refine ⟨v1,st1,w3,hr2,MpE.store q fun w4 q=>?_⟩
 -- wrote, known, table, places, rows, row, X
 have q:=rows_snoc q.up5.up5.sw
 refine hR w4 (TabS.join ⟨fun x q0 hx=>?_,hr.2.1,hr.2.2.1,fun x hx=>?_⟩ ?_)
 · dsimp only at hx ⊢
   by_cases hxn:x=n
   · rw [if_pos hxn] at hx
     injection hx with hx
     subst hx
     simp
   · rw [if_neg hxn] at hx
     exact List.mem_append_left _ (hr.1 x q0 hx)
 · dsimp only at hx ⊢
   by_cases hxn:x=n
   · rw [if_pos hxn]; exact ⟨_,rfl⟩
   · rw [if_neg hxn] at hx ⊢
     exact hr.2.2.2 x hx
 · dsimp only
   rw [knM_upd,wrM_upd]
   exact q.sw.up2.up4.up4
end
end Go.Proofs.YtgacpkgaogiocaaGreatDoor

/- what a bucket has: bucket. -/
set_option linter.unusedVariables false
namespace Go.Proofs.YtgacpkgaogiocaaGreatDoor
open Go Go.Vc Go.RowKit Go.Lib Go.Maps
section
variable {w:World} {X:List As} {t k g c cd:Nat} {U:Tb} {D:DkV} {es:List Ent} {B:Nat→List Ey} {gen:Int}
theorem InS.left {g:Nat} {l:Bs} (h:St w (InS g l 0 :: X)) {R:Int→World→Prop} (hR:R (l.length:Int) w):F.bits_In_Left (some (blk g)) w R:=by
 have ho:=(InS.put h).1.obj
 apply E.bits_In_Left
 unfold V.bits_In_Left
 try simp -zeta only [ldC,soC,brC,bkA,slC,cnd_all,blk_add2,Nat.reduceAdd]
 refine ⟨_,by rw [blk_cell ho]; rfl,fun e=>absurd rfl e,fun _=>⟨_,by rw [blk_cell0 ho]; rfl,?_⟩⟩
 rw [tx_size]; exact hR
theorem InS.fin {g:Nat} (h:St w (InS g [] 0 :: X)) {R:Int→World→Prop} (hR:∀ w',St w' (InS g [] 0 :: X)→R 0 w'):F.bits_In_End (some (blk g)) w R:=by
 have ho:=(InS.put h).1.obj
 apply E.bits_In_End
 unfold V.bits_In_End
 try simp -zeta only [ldC,soC,brC,bkA,slC,cnd_all,blk_add2,Nat.reduceAdd]
 refine ⟨_,by rw [blk_cell ho]; rfl,fun _=>InS.rest h (by decide) fun w' h'=>⟨fun e=>(by simp at e),fun _=>⟨_,by rw [blk_cell (InS.put h').1.obj]; rfl,hR w' h'⟩⟩,fun e=>absurd rfl e⟩
set_option maxHeartbeats 4000000 in
theorem bucket_st {n : Nat} (h : St w (TabS t k c U :: DeskS k g cd D :: X)) (hH : Have D es) (hM : MemB es gen U.ps B U.kn U.wr) (hn : n < U.ps.length) (hok : ∀ x ∈ B n, okE x) (hlen : (B n).length ≤ 269) (hc : c ≤ 900000) {R : Sl → Int → World → Prop}
   (hR:∀ w' kn' rows' sl,MemB es gen U.ps B kn' U.wr→InR rows' sl (B n)→(∀ q∈U.rows,q∈rows')→St w' (TabS t k (c + 1) { U with kn:=kn',rows:=rows' } :: DeskS k g cd D :: X)→R sl 0 w'):F.bucket_table_bucket (some (blk t)) (n:Int) w R:=by
 apply E.bucket_table_bucket
 unfold V.bucket_table_bucket
 try simp -zeta only [ldC,soC,brC,bkA,slC,cnd_all,blk_add2,Nat.reduceAdd]
 obtain ⟨hr,q⟩:=TabS.parts h
 have hl:=hr.2.2.1
 refine ⟨_,q.cell 5,?_⟩
 have hlk:=MapF.lookok und_mie (zero_mie w) (MpS.of q.up2) (x:=(n:Int)) (by omega)
 obtain ⟨hk1,hk2⟩:=hM n hn
 have hpn:=U.ps[n]?
 obtain ⟨ad,ha,hb,c0⟩:=Has.int (St.has q.sw (by decide)) (m:=n) hn
 cases hk:U.kn n with
 | some q0=>
   have e:knM U.kn n=some (.slice q0.1.a q0.1.len q0.1.cap):=by simp [knM,hk]
   rw [e] at hlk
   refine ⟨q0.1,true,w,hlk,fun b w'=>b=true∧w=w',⟨fun _=>⟨rfl,rfl⟩,fun h=>(by cases h)⟩,?_⟩
   rintro b _ ⟨rfl,rfl⟩
   refine ⟨fun _=>?_,fun h=>(by cases h)⟩
   have hq:=hr.1 _ _ hk
   have hB:=hk1 _ hk
   refine hR w U.kn U.rows q0.1 hM (.inl ?_) (fun _ h=>h) (TabS.mono h (Nat.le_succ _))
   rw [← hB]; exact hq
 | none=>
   have e:knM U.kn n=none:=by simp [knM,hk]
   rw [e] at hlk
   have hat:AtD es gen U.ps n (B n):=by
     rcases hk2 with ⟨⟨p1,hp1⟩,_⟩ | hat
     · rw [hk] at hp1; cases hp1
     · exact hat
   refine ⟨⟨none,0,0⟩,false,w,hlk,fun b w'=>b=decide (U.ps[n]=0)∧w=w',⟨fun h=>(by cases h),fun _=>⟨_,q.cell 4,ad,ha,by omega,by omega,_,by simpa using c0,?_⟩⟩,?_⟩
   · exact ⟨rfl,rfl⟩
   rintro b _ ⟨rfl,rfl⟩
   refine ⟨fun hz=>?_,fun hz=>?_⟩
   · have hz:U.ps[n]=0:=of_decide_eq_true hz
     have hB:B n=[]:=by
       rcases hat with ⟨_,h2⟩ | ⟨_,p1,h1,h2,_⟩
       · exact h2
       · rw [List.getElem?_eq_getElem hn] at h1
         have h1:=Option.some.inj h1
         exact absurd (h1.symm.trans hz) h2
     exact hR w U.kn U.rows _ hM (.inr ⟨rfl,hB⟩) (fun _ h=>h) (TabS.mono h (Nat.le_succ _))
   have hz:¬ U.ps[n]=0:=of_decide_eq_false hz
   obtain ⟨hBne,en,hen,h1,h2,h3,h4⟩:B n≠[]∧∃ en∈es,en.x.at_=U.ps[n]∧en.x.gen=gen∧en.x.tag=13∧en.x.data=encL (B n):=by
     rcases hat with ⟨h1,h2⟩ | ⟨hb1,p1,h1,h2,en,r⟩
     · rw [List.getElem?_eq_getElem hn] at h1
       have h1:=Option.some.inj h1
       exact absurd h1 hz
     · rw [List.getElem?_eq_getElem hn] at h1
       have h1:=Option.some.inj h1
       subst h1
       exact ⟨hb1,en,r⟩
   generalize hBl:B n=l at *
   have hdl:(encL l).length=35 * l.length:=encL_len hok
   refine St.dr q fun wa1 q=>?_
   obtain ⟨ad,ha,hb,c0⟩:=Has.int (St.has q.sw (by decide)) (m:=n) hn
   refine ⟨_,q.cell0,_,q.cell 4,ad,ha,by omega,by omega,_,by simpa using c0,fun w3 hB3=>?_⟩
   have q:=q.fz.iv0 hB3
   rw [← h1]
   refine Get_E q.up6 hH hen fun w4 q=>?_
   -- desk, fz, table, places, known, wrote, rows, X
   obtain ⟨k4,q⟩:=St.kp q.sw
   refine ⟨k4,q.up2.cell 4,fun w5 g5 hB5 hg5 hn5 ho5 w6 hB6=>?_⟩
   have q:=((q.iv hB5 hg5 hn5 ho5).iv0 hB6).sw
   refine St.fill4 q fun wa5 q=>?_
   obtain ⟨k5,q⟩:=q.sw.kp
   refine ⟨k5,fun w11 hB11=>⟨fun h=>absurd rfl h,fun _=>?_⟩⟩
   have q:=(q.iv0 hB11).drop
   -- chain, desk, table, ..
   rw [h4] at q
   refine ⟨_,q.cell 3,?_⟩
   refine InS.on q fun g2 w12 q=>?_
   refine ⟨fun l3 w'=>∃ m:Nat,m≤l.length∧St w' (Row EE T.y_api_Entry l3 (l.take m) :: InS g2 (encL (l.drop m)) 0 :: Cs g5 [.int .i64 en.x.gen,.int .i64 en.x.tag,.int .i64 en.x.refs,.string (tx (encL l))] T.y_chain_Chain :: DeskS k g cd D :: Cs t (tbC k U) T.y_bucket_table :: Row EI T.y_int U.p.pl U.ps :: MpS zSl U.p.kb c (knM U.kn) :: MpS zB U.p.wb c (wrM U.wr) :: As.all (U.rows.map rowA) :: X),fun l3 _=>l.length - l3.len,⟨0,Nat.zero_le _,St.row0 q EE T.y_api_Entry⟩,?_⟩
   rintro l3 w13 ⟨m,hm,q⟩
   have hl3:l3.len=m:=by
     have:=(St.has q (by decide)).1
     rw [List.length_take] at this; omega
   have hlm:(encL (l.drop m)).length=35 * (l.length - m):=by
     rw [encL_len fun x hx=>hok x (List.mem_of_mem_drop hx),List.length_drop]
   refine InS.left q.sw ?_
   rw [hlm]
   refine ⟨fun hpos=>?_,fun hend=>?_⟩
   · have hlt:m < l.length:=by omega
     have hx:=hok l[m] (List.getElem_mem _)
     obtain ⟨r1,r2,r3⟩:=encE_read hx (encL (l.drop (m + 1)))
     have ed:encL (l.drop m)=encE l[m] ++ encL (l.drop (m + 1)):=by rw [List.drop_eq_getElem_cons hlt,encL_cons]
     rw [ed] at q
     refine InS.raw q.sw (by rw [← ed,hlm]; omega) fun w14 q=>?_
     rw [r1] at q ⊢
     have hl33:=hx.layl
     refine Read_mark q (by show (layPr l[m].k.toNat l[m].s).length≤_; omega) (fun e w' hno _ _=>by rw [r3] at hno; cases hno) fun kk ss w15 hk3 q=>?_
     rw [r3] at hk3
     injection hk3 with hk3
     obtain ⟨rfl,rfl⟩:=Prod.mk.inj hk3
     rw [hx.k0]
     refine St.al q fun wa6 q=>?_
     refine St.fill2 q fun wa8 q=>?_
     refine St.dr q fun wa9 q=>?_
     refine ⟨_,q.cell0,_,q.cell 1,fun w16 hB16=>?_⟩
     have q:=q.fz.iv0 hB16
     have hs2:(leBytes 2 l[m].a ++ encL (l.drop (m + 1))).length≤1000000000:=by
       have:=encL_len fun x hx=>hok x (List.mem_of_mem_drop (i:=m + 1) hx)
       rw [List.length_append,leBytes_len,this,List.length_drop]; omega
     refine InS.half q.up2 hs2 fun w17 q=>?_
     rw [r2] at q ⊢
     obtain ⟨k17,q⟩:=St.kp q.sw
     refine ⟨k17,q.up2.cell0,q.up2.cell 1,fun w18 g6 hB18 hg18 hn18 ho18 w19 hB19=>?_⟩
     have q:=((q.iv hB18 hg18 hn18 ho18).iv0 hB19).sw
     refine St.fill3 q fun wa12 q=>?_
     obtain ⟨k19,q⟩:=q.sw.kp
     refine ⟨k19,fun w20 hB20=>?_⟩
     have q:=(q.iv0 hB20).drop
     refine ⟨fun b w'=>b=false∧St w' _,⟨fun e=>absurd rfl e,fun _=>⟨_,q.cell0,_,q.cell 1,_,q.cell 2,valid_st q fun w21 q=>⟨?_,q⟩⟩⟩,?_⟩
     · rw [decide_eq_true hx]; rfl
     rintro b w21 ⟨rfl,q⟩
     refine ⟨fun h=>(by cases h),fun _=>⟨_,q.cell0,_,q.cell 1,_,q.cell 2,?_⟩⟩
     refine St.al q fun wa13 q=>?_
     refine app1_ey q.up4.sw (y:=l[m]) (by rw [List.length_take]; omega) fun l4 w23 q=>?_
     have q:=q.d2.d3
     rw [← List.take_succ_eq_append_getElem hlt] at q
     have hl4:l4.len=m + 1:=by
       have:=(St.has q (by decide)).1
       rw [List.length_take] at this; omega
     exact ⟨⟨m + 1,hlt,q⟩,by show l.length - l4.len < l.length - l3.len; omega⟩
   · have hmm:m=l.length:=by omega
     subst hmm
     rw [List.take_length,List.drop_length] at q
     have hne:l.length≠0:=fun e=>hBne (List.eq_nil_of_length_eq_zero e)
     refine ⟨fun b w'=>b=false∧St w' _,⟨_,q.up2.cell 1,fun e=>absurd h3 e,fun _=>InS.fin q.sw fun w24 q=>⟨fun e=>absurd rfl e,fun _=>⟨?_,q⟩⟩⟩,?_⟩
     · rw [hl3]; simp; exact hBne
     rintro b w24 ⟨rfl,q⟩
     refine ⟨fun h=>(by cases h),fun _=>⟨_,q.up4.cell 5,MpS.put q.up6 und_mie (by omega) (by omega) fun w25 q=>?_⟩⟩
     have q:=rows_snoc q.d2.d3.up6.up2
     have q:=MpS.mono q.up2.sw.up5 (Nat.le_succ c)
     have q:=q.up3.up5.up5
     have hM2:=MemB.read hM hk (sl:=l3)
     rw [hBl] at hM2
     refine hR w25 _ (U.rows ++ [(l3,l)]) l3 hM2 (.inl (by simp)) (fun q hq=>List.mem_append_left _ hq) (TabS.join ⟨fun x q0 hx=>?_,hr.2.1,hr.2.2.1,fun x hx=>?_⟩ ?_)
     · dsimp only at hx ⊢
       by_cases hxn:x=(n:Int)
       · rw [if_pos hxn] at hx
         have hx:=Option.some.inj hx
         subst hx
         simp
       · rw [if_neg hxn] at hx
         exact List.mem_append_left _ (hr.1 x q0 hx)
     · dsimp only at hx ⊢
       by_cases hxn:x=(n:Int)
       · rw [if_pos hxn]; exact ⟨_,rfl⟩
       · rw [if_neg hxn]
         exact hr.2.2.2 x hx
     · dsimp only
       rw [knM_upd]
       exact q
end
end Go.Proofs.YtgacpkgaogiocaaGreatDoor
