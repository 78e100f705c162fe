/- entries as bytes, and back; the chains of a table; plain. -/
import Derived.Test.YtgacpkgaogiocaaGreatDoorEa
import Derived.Test.YtgacpkgaogiocaaGreatDoorGh
import Derived.Test.YtgacpkgaogiocaaGreatDoorPn
import Derived.Test.YtgacpkgaogiocaaGreatDoorSq
import Derived.Test.YtgacpkgaogiocaaGreatDoorCy
set_option linter.unusedVariables false
namespace Go.Proofs.YtgacpkgaogiocaaGreatDoor
open Go Go.Vc Go.RowKit Go.Lib
/-- an entry that may be -/
def okE (x:Ey):Prop:=(x.k=1∨x.k=2)∧x.s.length=szN x.k.toNat∧1≤x.a∧x.a < 2000
instance (x:Ey):Decidable (okE x):=by unfold okE; infer_instance
def encE (x:Ey):Bs:=layPr x.k.toNat x.s ++ leBytes 2 x.a
def encL (l:List Ey):Bs:=l.flatMap encE
theorem okE.kk {x:Ey} (h:okE x):x.k.toNat=1∨x.k.toNat=2:=by rcases h.1 with e | e <;> rw [e] <;> decide
theorem okE.k0 {x:Ey} (h:okE x):((x.k.toNat:Nat):Int)=x.k:=by rcases h.1 with e | e <;> rw [e] <;> rfl
theorem okE.layl {x:Ey} (h:okE x):(layPr x.k.toNat x.s).length=33:=layPr_len (by rw [h.2.1]; exact szN_le _)
theorem encE_len {x:Ey} (h:okE x):(encE x).length=35:=by rw [encE,List.length_append,h.layl,leBytes_len]
theorem encL_cons (x:Ey) (l:List Ey):encL (x :: l)=encE x ++ encL l:=by simp [encL]
theorem encL_app (l m:List Ey):encL (l ++ m)=encL l ++ encL m:=by simp [encL]
theorem encL_len:∀ {l:List Ey},(∀ x∈l,okE x)→(encL l).length=35 * l.length
 | [],_=>rfl
 | x :: l,h=>by
   rw [encL_cons,List.length_append,encE_len (h x (List.mem_cons_self ..)),encL_len fun y hy=>h y (List.mem_cons_of_mem _ hy),List.length_cons]; omega
theorem encE_read {x:Ey} (h:okE x) (r:Bs):rawIn 33 (encE x ++ r) 0=(layPr x.k.toNat x.s,leBytes 2 x.a ++ r,0)∧lowIn 2 (leBytes 2 x.a ++ r) 0=(x.a,r,0)∧readPr (layPr x.k.toNat x.s)=some (x.k.toNat,x.s):=by
 refine ⟨?_, lowIn_layI (by have := h.2.2; omega) (by have := h.2.2; have e2 : (256 : Int) ^ 2 = 65536 := by decide
                                                      omega) (by decide) r,readPr_some.2 ⟨h.kk,h.2.1,rfl⟩⟩
 have:=rawIn_app (layPr x.k.toNat x.s) (leBytes 2 x.a ++ r)
 rw [h.layl] at this
 rw [encE,List.append_assoc]
 exact this
def rootB (many:Nat) (ps:List Int):Bs:=leBytes 2 (many:Int) ++ ps.flatMap (leBytes 2)
theorem halves_len (ps:List Int):(ps.flatMap (leBytes 2)).length=2 * ps.length:=by
 induction ps with
 | nil=>rfl
 | cons p r ih=>rw [List.flatMap_cons,List.length_append,leBytes_len,ih,List.length_cons]; omega
theorem rootB_len (many:Nat) (ps:List Int):(rootB many ps).length=2 + 2 * ps.length:=by rw [rootB,List.length_append,leBytes_len,halves_len]
theorem bktN_le (n:Nat):bktN n≤n:=by unfold bktN; split <;> omega
theorem bktN_mono {a b:Nat} (h:a≤b):bktN a≤bktN b:=by unfold bktN; split <;> split <;> omega
theorem bktN_succ (n:Nat):bktN (n + 1)=bktN n∨bktN (n + 1)=bktN n + 1:=by unfold bktN; split <;> split <;> omega
theorem needN_mono {a b:Nat} (h:a≤b):needN a≤needN b:=by
 unfold needN
 split <;> split <;> omega
/-! ### Chains -/
/-- a chain that is there -/
def Ch (es:List Ent) (gen p tag:Int) (d:Bs):Prop:=∃ e∈es,e.x.at_=p∧e.x.gen=gen∧e.x.tag=tag∧e.x.data=d
def nz (ps:List Int):List Int:=ps.filter fun p=>decide (p≠0)
/-- these are all chains that there are -/
def Cov (es:List Ent) (ps:List Int):Prop:=(es.map fun e=>e.x.at_).Perm (nz ps)
section
variable {D:DkV} {es a b:List Ent} {e e':Ent} {ps:List Int}
theorem Ent.first (h:EntOk D e):e.x.at_∈e.ps:=by
 rw [← h.at_]
 exact ps_mem.2 ⟨0,h.chn.pos.1,rfl⟩
theorem Have.inj:∀ {es:List Ent},(∀ e∈es,EntOk D e)→(allP es).Nodup→∀ {e e'},e∈es→e'∈es→e.x.at_=e'.x.at_→e=e'
 | [],_,_,e,e',h,_,_=>by cases h
 | c :: r,ho,hn,e,e',h,h',heq=>by
   rw [allP_cons] at hn
   obtain ⟨n1,n2,n3⟩:=List.nodup_append.1 hn
   have hr:∀ f∈r,f.x.at_≠c.x.at_:=fun f hf e1=>by
     refine n3 c.x.at_ (Ent.first (ho c (List.mem_cons_self ..))) f.x.at_ ?_ e1.symm
     exact List.mem_flatMap.2 ⟨f,hf,Ent.first (ho f (List.mem_cons_of_mem _ hf))⟩
   rcases List.mem_cons.1 h with e1 | e1 <;> rcases List.mem_cons.1 h' with e2 | e2
   · rw [e1,e2]
   · subst e1; exact absurd heq.symm (hr _ e2)
   · subst e2; exact absurd heq (hr _ e1)
   · exact Have.inj (fun f hf=>ho f (List.mem_cons_of_mem _ hf)) n2 e1 e2 heq
theorem nz_mem {p:Int}:p∈nz ps↔p∈ps∧p≠0:=by unfold nz; rw [List.mem_filter,decide_eq_true_eq]
theorem nz_cons0:nz (0 :: ps)=nz ps:=rfl
theorem nz_cons {p:Int} (h:p≠0):nz (p :: ps)=p :: nz ps:=by
 by_cases c:p=0
 · exact absurd c h
 · simp [nz,c]
theorem nz_app (p q:List Int):nz (p ++ q)=nz p ++ nz q:=List.filter_append ..
theorem nz_zero (p:List Int):nz (p ++ [0])=nz p:=by rw [nz_app]; simp [nz]
theorem nz_len (ps:List Int):(nz ps).length≤ps.length:=List.length_filter_le ..
/-- one place less -/
theorem nz_set0:∀ {ps:List Int} {i:Nat} {p:Int},ps[i]? = some p→p≠0→(nz ps).Perm (p :: nz (ps.set i 0))
 | [],i,p,h,_=>by simp at h
 | q :: r,0,p,h,hp=>by
   simp only [List.getElem?_cons_zero,Option.some.injEq] at h
   subst h
   rw [nz_cons hp,List.set_cons_zero,nz_cons0]
 | q :: r,i + 1,p,h,hp=>by
   have ih:=nz_set0 (ps:=r) (i:=i) (p:=p) (by simpa using h) hp
   rw [List.set_cons_succ]
   by_cases hq:q=0
   · subst hq; rw [nz_cons0,nz_cons0]; exact ih
   · rw [nz_cons hq,nz_cons hq]
     exact (ih.cons q).trans (List.Perm.swap p q _)
/-- one place more -/
theorem nz_setP:∀ {ps:List Int} {i:Nat} {p:Int},ps[i]? = some 0→p≠0→(nz (ps.set i p)).Perm (p :: nz ps)
 | [],i,p,h,_=>by simp at h
 | q :: r,0,p,h,hp=>by
   simp only [List.getElem?_cons_zero,Option.some.injEq] at h
   subst h
   rw [List.set_cons_zero,nz_cons hp,nz_cons0]
 | q :: r,i + 1,p,h,hp=>by
   have ih:=nz_setP (ps:=r) (i:=i) (p:=p) (by simpa using h) hp
   rw [List.set_cons_succ]
   by_cases hq:q=0
   · subst hq; rw [nz_cons0,nz_cons0]; exact ih
   · rw [nz_cons hq,nz_cons hq]
     exact (ih.cons q).trans (List.Perm.swap p q _)
theorem Cov.get (h:Cov es ps) {p:Int} (hp:p∈ps) (h0:p≠0):∃ a e b,es=a ++ e :: b∧e.x.at_=p:=by
 have:=(h.mem_iff (a:=p)).2 (nz_mem.2 ⟨hp,h0⟩)
 obtain ⟨e,he,rfl⟩:=List.mem_map.1 this
 obtain ⟨a,b,rfl⟩:=List.append_of_mem he
 exact ⟨a,e,b,rfl,rfl⟩
theorem Cov.len (h:Cov es ps):es.length≤ps.length:=by
 have:=h.length_eq
 rw [List.length_map] at this
 rw [this]; exact nz_len ps
theorem Cov.drop (h:Cov (a ++ e :: b) ps) {i:Nat} (hi:ps[i]? = some e.x.at_) (h0:e.x.at_≠0):Cov (a ++ b) (ps.set i 0):=by
 unfold Cov at *
 have h1:((a ++ e :: b).map fun e=>e.x.at_).Perm (e.x.at_ :: (a ++ b).map fun e=>e.x.at_):=by
   rw [List.map_append,List.map_cons,List.map_append]
   exact List.perm_middle
 exact List.Perm.cons_inv (h1.symm.trans (h.trans (nz_set0 hi h0)))
theorem Cov.put (h:Cov es ps) {i:Nat} (hi:ps[i]? = some 0) (h0:e'.x.at_≠0):Cov (es ++ [e']) (ps.set i e'.x.at_):=by
 unfold Cov at *
 rw [List.map_append]
 refine List.Perm.trans ?_ (nz_setP hi h0).symm
 exact List.perm_append_comm.trans (h.cons _)
theorem Ch.put {gen p tag:Int} {d:Bs} (h:Ch es gen p tag d):Ch (es ++ [e']) gen p tag d:=by
 obtain ⟨f,hf,r⟩:=h
 exact ⟨f,List.mem_append_left _ hf,r⟩
theorem Ch.drop {gen p tag:Int} {d:Bs} (h:Ch (a ++ e :: b) gen p tag d) (hH:Have D (a ++ e :: b)) (hc:Cov (a ++ b) ps) (hp:p∈ps) (h0:p≠0):Ch (a ++ b) gen p tag d:=by
 obtain ⟨f,hf,r1,r2⟩:=h
 obtain ⟨x,y,z,h1,h2⟩:=hc.get hp h0
 have hy:y∈a ++ b:=by rw [h1]; simp
 have hy2:y∈a ++ e :: b:=by
   rcases List.mem_append.1 hy with k | k
   · exact List.mem_append_left _ k
   · exact List.mem_append_right _ (List.mem_cons_of_mem _ k)
 have:=Have.inj hH.ok hH.nd hf hy2 (r1.trans h2.symm)
 subst this
 exact ⟨f,hy,r1,r2⟩
/-- how much room there is -/
theorem allP_le {q:Nat}:∀ {es:List Ent},(∀ e∈es,e.n≤q)→(allP es).length≤es.length * q
 | [],_=>by simp [allP]
 | e :: r,h=>by
   rw [allP_cons,List.length_append,Ent.ps_len,List.length_cons]
   have h1:=h e (List.mem_cons_self ..)
   have h2:=allP_le (es:=r) fun f hf=>h f (List.mem_cons_of_mem _ hf)
   have:(r.length + 1) * q=r.length * q + q:=Nat.succ_mul _ _
   omega
theorem Have.room (hH:Have D es) (hc:Cov es ps) {M:Nat} (hl:∀ e∈es,e.x.data.length≤M) {k:Nat} (hk:k≤M) (hr:(ps.length + 1) * needN M + 2≤D.bs.length):needN k≤freeN D.bs:=by
 have h1:=hH.free
 have h2:=allP_le (es:=es) (q:=needN M) fun e he=>needN_mono (hl e he)
 have h3:=Nat.mul_le_mul_right (needN M) hc.len
 have h4:=needN_mono hk
 have:(ps.length + 1) * needN M=ps.length * needN M + needN M:=Nat.succ_mul _ _
 omega
/-! ### A table -/
/-- what a bucket has on the disk -/
def AtD (es:List Ent) (gen:Int) (ps:List Int) (n:Nat) (l:List Ey):Prop:=(ps[n]? = some 0∧l=[])∨(l≠[]∧∃ p,ps[n]? = some p∧p≠0∧Ch es gen p 13 (encL l))
/-- a table on the disk -/
structure TabD (es:List Ent) (gen root:Int) (L:List Ey) (ps:List Int) (M:Nat):Prop where
 srt:Srt L
 ok:∀ x∈L,okE x
 cov:Cov es (root :: ps)
 len:∀ e∈es,e.x.data.length≤35 * M
 gens:∀ e∈es,e.x.gen=gen
 plen:ps.length=bktN L.length
 many:L.length≤M
 rt:(root=0∧L=[])∨(root≠0∧L≠[]∧Ch es gen root 3 (rootB L.length ps))
 bk:∀ n,n < ps.length→AtD es gen ps n (bk L ps.length n)
abbrev Kn:=Int→Option (Sl × List Ey)
/-- what a table in memory says of its buckets -/
def MemB (es:List Ent) (gen:Int) (ps:List Int) (B:Nat→List Ey) (kn:Kn) (wr:Int→Option Bool):Prop:=
 ∀ n:Nat,n < ps.length→(∀ p,kn n=some p→p.2=B n)∧(((∃ p,kn n=some p)∧wr n=some true)∨AtD es gen ps n (B n))
theorem TabD.none {gen root:Int} {L:List Ey} {M:Nat} (h:TabD es gen root L ps M):MemB es gen ps (Go.Proofs.YtgacpkgaogiocaaGreatDoor.bk L ps.length) (fun _=>none) fun _=>none:=fun n hn=>⟨fun p hp=>(by cases hp),.inr (h.bk n hn)⟩
theorem TabD.empty {M:Nat} (gen:Int):TabD [] gen 0 [] [] M:=
 ⟨List.Pairwise.nil,fun x h=>(by cases h),List.Perm.refl _,fun x h=>(by cases h),fun x h=>(by cases h),rfl,Nat.zero_le _,.inl ⟨rfl,rfl⟩,fun n h=>absurd h (Nat.not_lt_zero n)⟩
section
variable {gen:Int} {B B':Nat→List Ey} {kn:Kn} {wr:Int→Option Bool}
theorem MemB.to (h:MemB es gen ps B kn wr) (he:∀ n,n < ps.length→B' n=B n):MemB es gen ps B' kn wr:=fun n hn=>by rw [he n hn]; exact h n hn
theorem MemB.read (h:MemB es gen ps B kn wr) {n:Nat} {sl:Sl} (hn:kn n=none):MemB es gen ps B (fun x=>if x=(n:Int) then some (sl,B n) else kn x) wr:=fun i hi=>by
 obtain ⟨h1,h2⟩:=h i hi
 dsimp only
 by_cases c:(i:Int)=(n:Int)
 · have:i=n:=by omega
   subst this
   rw [if_pos rfl]
   refine ⟨fun p hp=>by cases hp; rfl,?_⟩
   rcases h2 with ⟨⟨p,hp⟩,_⟩ | h2
   · rw [hn] at hp; cases hp
   · exact .inr h2
 · rw [if_neg c]; exact ⟨h1,h2⟩
theorem MemB.set (h:MemB es gen ps B kn wr) {n:Nat} {sl:Sl} {l:List Ey}:MemB es gen ps (fun i=>if i=n then l else B i) (fun x=>if x=(n:Int) then some (sl,l) else kn x) (fun x=>if x=(n:Int) then some true else wr x):=fun i hi=>by
 obtain ⟨h1,h2⟩:=h i hi
 dsimp only
 by_cases c:(i:Int)=(n:Int)
 · have:i=n:=by omega
   subst this
   rw [if_pos rfl,if_pos rfl,if_pos rfl]
   exact ⟨fun p hp=>by cases hp; rfl,.inl ⟨⟨_,rfl⟩,rfl⟩⟩
 · have:¬ i=n:=by omega
   rw [if_neg c,if_neg c,if_neg this]; exact ⟨h1,h2⟩
theorem AtD.app {n:Nat} {l:List Ey} (h:AtD es gen ps n l) (hn:n < ps.length) (q:Int):AtD es gen (ps ++ [q]) n l:=by
 unfold AtD at *
 rw [List.getElem?_append_left hn]; exact h
/-- one more place, of nothing -/
theorem MemB.more (h:MemB es gen ps B kn wr) {sl:Sl}:MemB es gen (ps ++ [0]) (fun i=>if i=ps.length then [] else B i) (fun x=>if x=(ps.length:Int) then some (sl,[]) else kn x) (fun x=>if x=(ps.length:Int) then some true else wr x):=fun i hi=>by
 rw [List.length_append,List.length_singleton] at hi
 dsimp only
 by_cases c:(i:Int)=(ps.length:Int)
 · rw [if_pos c,if_pos c,if_pos (by omega)]
   exact ⟨fun p hp=>by cases hp; rfl,.inl ⟨⟨_,rfl⟩,rfl⟩⟩
 · obtain ⟨h1,h2⟩:=h i (by omega)
   rw [if_neg c,if_neg c,if_neg (by omega)]
   exact ⟨h1,h2.imp id fun h2=>h2.app (by omega) 0⟩
theorem AtD.take {n k:Nat} {l:List Ey} (h:AtD es gen ps n l) (hn:n < k):AtD es gen (ps.take k) n l:=by
 unfold AtD at *
 rw [List.getElem?_take_of_lt hn]; exact h
end
end
end Go.Proofs.YtgacpkgaogiocaaGreatDoor

/- what is added and dropped, and in which order; plain. -/
set_option linter.unusedVariables false
namespace Go.Proofs.YtgacpkgaogiocaaGreatDoor
open Go Go.Vc Go.RowKit Go.Lib
/-- one is added, dropped; the second part is an error -/
def addS (st:List Ey × Int) (x:Ey):List Ey × Int:=if st.2≠0 then st else if ¬ okE x then (st.1,1) else if x∈st.1 then (st.1,9) else if 1500≤st.1.length then (st.1,2) else (insE st.1 x,0)
def dropS (st:List Ey × Int) (x:Ey):List Ey × Int:=if st.2≠0 then st else if x∈st.1 then (st.1.filter fun y=>decide (y≠x),0) else (st.1,8)
def allF (f:List Ey × Int→Ey→List Ey × Int) (L l:List Ey):List Ey × Int:=l.foldl f (L,0)
section
variable {f:List Ey × Int→Ey→List Ey × Int} {L l:List Ey}
theorem allF_take {m:Nat} (h:m < l.length):allF f L (l.take (m + 1))=f (allF f L (l.take m)) l[m]:=by
 unfold allF
 rw [List.take_succ_eq_append_getElem h,List.foldl_append]; rfl
theorem fold_err (hf:∀ st x,st.2≠0→f st x=st):∀ (l:List Ey) (st:List Ey × Int),st.2≠0→l.foldl f st=st
 | [],_,_=>rfl
 | x :: l,st,h=>by rw [List.foldl_cons,hf st x h]; exact fold_err hf l st h
theorem allF_err (hf:∀ st x,st.2≠0→f st x=st) {m:Nat} (h:(allF f L (l.take m)).2≠0):allF f L l=allF f L (l.take m):=by
 have e:l=l.take m ++ l.drop m:=(List.take_append_drop m l).symm
 unfold allF at *
 conv=>lhs; rw [e,List.foldl_append]
 exact fold_err hf _ _ h
end
theorem addS_err (st:List Ey × Int) (x:Ey) (h:st.2≠0):addS st x=st:=if_pos h
theorem dropS_err (st:List Ey × Int) (x:Ey) (h:st.2≠0):dropS st x=st:=if_pos h
def GoodE (l:List Ey):Prop:=Srt l∧∀ x∈l,okE x
theorem GoodE.ins {l:List Ey} (h:GoodE l) {x:Ey} (hx:okE x) (hn:x∉l):GoodE (insE l x):=
 ⟨insE_srt h.1 hn,fun y hy=>by rcases insE_mem.1 hy with e | e; exact e ▸ hx; exact h.2 y e⟩
theorem GoodE.del {l:List Ey} (h:GoodE l) (x:Ey):GoodE (l.filter fun y=>decide (y≠x)):=⟨h.1.filter _,fun y hy=>h.2 y (List.mem_filter.1 hy).1⟩
theorem addS_good {st:List Ey × Int} {x:Ey} (h:GoodE st.1):GoodE (addS st x).1:=by
 unfold addS
 split
 · exact h
 split
 · exact h
 split
 · exact h
 split
 · exact h
 · rename_i h1 h2 h3
   exact h.ins (Decidable.of_not_not h1) h2
theorem dropS_good {st:List Ey × Int} {x:Ey} (h:GoodE st.1):GoodE (dropS st x).1:=by
 unfold dropS
 split
 · exact h
 split
 · exact h.del x
 · exact h
theorem insE_len (l:List Ey) (x:Ey):(insE l x).length=l.length + 1:=by
 have:=cntE_le l x
 unfold insE
 rw [List.length_append,List.length_cons,List.length_take,List.length_drop]; omega
theorem addS_len (st:List Ey × Int) (x:Ey):(addS st x).1.length≤st.1.length + 1:=by
 unfold addS
 split
 · omega
 split
 · show st.1.length≤_; omega
 split
 · show st.1.length≤_; omega
 split
 · show st.1.length≤_; omega
 · show (insE st.1 x).length≤_; rw [insE_len]; omega
theorem dropS_len (st:List Ey × Int) (x:Ey):(dropS st x).1.length≤st.1.length + 1:=by
 unfold dropS
 split
 · omega
 split
 · show (st.1.filter _).length≤_
   have:=List.length_filter_le (fun y=>decide (y≠x)) st.1
   omega
 · show st.1.length≤_; omega
theorem allF_good {f:List Ey × Int→Ey→List Ey × Int} (hf:∀ {st:List Ey × Int} {x:Ey},GoodE st.1→GoodE (f st x).1) {L:List Ey} (h:GoodE L) (l:List Ey):GoodE (allF f L l).1:=by
 have:∀ (l:List Ey) (st:List Ey × Int),GoodE st.1→GoodE (l.foldl f st).1:=fun l=>by
   induction l with
   | nil=>exact fun st h=>h
   | cons x l ih=>exact fun st h=>ih _ (hf h)
 exact this l _ h
theorem allF_len {f:List Ey × Int→Ey→List Ey × Int} (hf:∀ (st:List Ey × Int) (x:Ey),(f st x).1.length≤st.1.length + 1) (L l:List Ey):(allF f L l).1.length≤L.length + l.length:=by
 have:∀ (l:List Ey) (st:List Ey × Int),(l.foldl f st).1.length≤st.1.length + l.length:=fun l=>by
   induction l with
   | nil=>exact fun st=>Nat.le_refl _
   | cons x l ih=>
     intro st
     have h1:=ih (f st x)
     have h2:=hf st x
     rw [List.foldl_cons,List.length_cons]; omega
 exact this l _
/-! ### Sorting -/
def cfE (x y:Ey):Int:=if ltE x y then -1 else if x=y then 0 else 1
theorem cfE_lt (x y:Ey):cfE x y < 0↔ltE x y:=by
 unfold cfE
 by_cases h:ltE x y
 · simp [h]
 · rw [if_neg h]
   by_cases e:x=y
   · simp [e,ltE_irrefl]
   · rw [if_neg e]; simp [h]
def leB (x y:Ey):Bool:=!decide (ltE y x)
theorem msort_eq {l m:List Ey} (hp:l.Perm m) (hm:Srt m):l.mergeSort leB=m:=by
 have hpw:(l.mergeSort leB).Pairwise (fun a b=>leB a b=true):=List.pairwise_mergeSort (fun a b c h1 h2=>by
   simp only [leB,Bool.not_eq_true',decide_eq_false_iff_not] at *
   intro h3
   rcases ltE_total b a with k | k | k
   · exact h1 k
   · subst k; exact h2 h3
   · exact h2 (ltE_trans h3 k)) (fun a b=>by
   simp only [leB,Bool.or_eq_true,Bool.not_eq_true',decide_eq_false_iff_not]
   by_cases h:ltE b a
   · exact .inr fun k=>ltE_irrefl a (ltE_trans k h)
   · exact .inl h) l
 have hperm:=(List.mergeSort_perm l leB).trans hp
 have hnd:(l.mergeSort leB).Nodup:=hperm.nodup_iff.2 hm.nodup
 refine srt_ext (List.Pairwise.imp₂ (fun a b h1 h2=>?_) hpw hnd) hm fun x=>hperm.mem_iff
 simp only [leB,Bool.not_eq_true',decide_eq_false_iff_not] at h1
 rcases ltE_total a b with k | k | k
 · exact k
 · exact absurd k h2
 · exact absurd k h1
/-- the place of an entry -/
theorem cnt_uniq {l:List Ey} {x:Ey} {i:Nat} (hi:i≤l.length) (h1:∀ k (hk:k < l.length),k < i→ltE l[k] x) (h2:∀ k (hk:k < l.length),i≤k→¬ ltE l[k] x):cntE l x=i:=by
 have e:cntE l x=cntE (l.take i) x + cntE (l.drop i) x:=by
   unfold cntE
   rw [← List.countP_append,List.take_append_drop]
 have e1:cntE (l.take i) x=i:=by
   have:cntE (l.take i) x=(l.take i).length:=List.countP_eq_length.2 fun y hy=>by
     obtain ⟨k,hk,rfl⟩:=List.mem_iff_getElem.1 hy
     rw [List.length_take] at hk
     rw [List.getElem_take]
     exact decide_eq_true (h1 k (by omega) (by omega))
   rw [this,List.length_take]; omega
 have e2:cntE (l.drop i) x=0:=List.countP_eq_zero.2 fun y hy=>by
   obtain ⟨k,hk,rfl⟩:=List.mem_iff_getElem.1 hy
   rw [List.length_drop] at hk
   rw [List.getElem_drop]
   simpa using h2 (i + k) (by omega) (by omega)
 omega
theorem srt_lt {l:List Ey} (h:Srt l) {i j:Nat} (hi:i < l.length) (hj:j < l.length) (hij:i < j):ltE l[i] l[j]:=List.pairwise_iff_getElem.1 h i j hi hj hij
/-- the places of a print -/
def findE (L:List Ey) (k:Int) (s:Bs):List Int:=(L.filter fun x=>decide (x.k=k∧x.s=s)).map (·.a)
theorem findE_take {L:List Ey} {k:Int} {s:Bs} {m:Nat} (h:m < L.length):findE (L.take (m + 1)) k s=if L[m].k=k∧L[m].s=s then findE (L.take m) k s ++ [L[m].a] else findE (L.take m) k s:=by
 unfold findE
 rw [List.take_succ_eq_append_getElem h,List.filter_append,List.map_append]
 split
 · rename_i c; simp [c.1,c.2]
 · rename_i c
   have:decide (L[m].k=k∧L[m].s=s)=false:=decide_eq_false c
   simp only [List.filter_cons,this,List.filter_nil,List.map_nil,List.append_nil,Bool.false_eq_true,if_false]
/-- in the bucket of a print are all its places -/
theorem findE_bk {L:List Ey} {k:Int} {s:Bs} (hk:∀ x∈L,x.k=k→x.s=s→True) (nb n:Nat) (hn:∀ x:Ey,x.k=k→x.s=s→slotN (hashE x) nb=n):findE (bk L nb n) k s=findE L k s:=by
 unfold findE bk
 rw [List.filter_filter]
 congr 1
 refine List.filter_congr fun x hx=>?_
 by_cases c:x.k=k∧x.s=s
 · simp [c,hn x c.1 c.2]
 · rw [decide_eq_false c]; rfl
/-- the places of a print rise -/
theorem findE_up {L:List Ey} (h:Srt L) (k:Int) (s:Bs):(findE L k s).Pairwise (· < ·):=by
 unfold findE
 rw [List.pairwise_map]
 refine List.Pairwise.imp_of_mem (R:=ltE) (fun {a b} ha hb hab=>?_) (h.filter _)
 have h1:=(List.mem_filter.1 ha).2
 have h2:=(List.mem_filter.1 hb).2
 simp only [decide_eq_true_eq] at h1 h2
 unfold ltE at hab
 rw [h1.1,h1.2,h2.1,h2.2] at hab
 rcases hab with k | ⟨_,k | ⟨_,k⟩⟩
 · omega
 · exact absurd k (bs_irrefl _)
 · exact k
end Go.Proofs.YtgacpkgaogiocaaGreatDoor

/- plan: which pieces of a range; in plain words. -/
set_option linter.unusedVariables false
namespace Go.Proofs.YtgacpkgaogiocaaGreatDoor
open Go Go.Vc Go.RowKit Go.Lib
end Go.Proofs.YtgacpkgaogiocaaGreatDoor

/- plan: pieces as bytes, and back; in plain words. -/
set_option linter.unusedVariables false
namespace Go.Proofs.YtgacpkgaogiocaaGreatDoor
open Go Go.Vc Go.RowKit Go.Lib
theorem lowIn_at {n:Nat} (hn:n≤7) {s:Bs} (h:n≤s.length):lowIn n s 0=((leVal (s.take n):Int),s.drop n,0):=by
 have hr:rawIn n s 0=(s.take n,s.drop n,0):=by
   unfold rawIn
   rw [if_neg (by simp),if_neg (by omega),if_neg (by omega),Int.toNat_natCast]
 have hlen:(s.take n).length=n:=by rw [List.length_take]; omega
 have hlt:=leVal_lt (s.take n)
 have h2:256 ^ (s.take n).length≤256 ^ 7:=Nat.pow_le_pow_right (by decide) (by omega)
 have h4:(256:Nat) ^ 7=72057594037927936:=by decide
 simp only [lowIn,hr]
 rw [if_pos (by omega)]
end Go.Proofs.YtgacpkgaogiocaaGreatDoor

/- plan: Size, Cut, may; masonrybook.SamePieces. -/
set_option linter.unusedVariables false
namespace Go.Proofs.YtgacpkgaogiocaaGreatDoor
open Go Go.Vc Go.RowKit Go.Lib
section
variable {w:World} {X:List As}
end
end Go.Proofs.YtgacpkgaogiocaaGreatDoor

/- plan: may; masonrybook.SamePieces. -/
set_option linter.unusedVariables false
namespace Go.Proofs.YtgacpkgaogiocaaGreatDoor
open Go Go.Vc Go.RowKit Go.Lib
section
variable {w:World} {X:List As}
end
end Go.Proofs.YtgacpkgaogiocaaGreatDoor

/- masonrybook: lists of pieces that are lent, kept, marked, grown. -/
set_option linter.unusedVariables false
namespace Go.Proofs.YtgacpkgaogiocaaGreatDoor
open Go Go.Vc Go.RowKit Go.Lib
theorem Own.setN {w : World} {t : TypeId} {sz : Nat} (hsz : 0 < sz) {l : Sl} {xs : List Value} (h : Own w t sz l xs) {k : Nat} (hk : k < xs.length) (x : Value) {a : Addr} (ha : l.a = some a) :
   Wr w (a.add k)∧Own (w.setCell (a.add k) x) t sz l (xs.set k x)∧Fr l.bk w (w.setCell (a.add k) x):=by
 have hlen:=h.len
 have h0:l.len≠0:=fun h0=>by rw [h0] at hlen; omega
 obtain ⟨g,cur,ha',hg,hc,ht,hlc,hm⟩:=Own.row h h0
 rw [ha] at ha'
 injection ha' with ha'
 subst ha'
 have h2:=blk_set hg k x
 have hle:l.len * sz≤l.cap * sz:=Nat.mul_le_mul_right _ hlc
 refine ⟨blk_wr hg (by omega),?_,(fr_set w g k _).mono (fun i _ hi=>⟨blk g,ha,Eq.symm hi⟩)⟩
 have h3:=Own.of (n:=l.len) (cap:=l.cap) h2 (by rw [List.length_set,hc]) hlc hm
 have e:(cur.set k x).take (l.len * sz)=xs.set k x:=by
   rw [List.take_set,ht]
 rw [e] at h3
 have:l=⟨some (blk g),l.len,l.cap⟩:=by cases l; simp only at ha; subst ha; rfl
 rw [this]; exact h3
section
variable {w:World} {X:List As}
end
section
variable {w:World} {X:List As} {α:Type} {En:Enc α} {t:TypeId} {l:Sl} {xs:List α}
/-- append of a slice that may be nil -/
theorem St.appN {P : Program} {ts ty : TypeId} {bytes : Nat} (hE : Elt P ts t En.n bytes) (h : St w (Row En t l xs :: X)) {sl : Sl} {ys : List α} (hs : Has En w sl ys) (hn : NilOk sl)
   (hb:(xs.length + ys.length) * bytes≤140737488355328) (hb2:xs.length + ys.length≤4611686018427387904) {R:Sl→World→Prop}
   (hR:∀ l' w',St w' (Row En t l' (xs ++ ys) :: X)→l'.len=xs.length + ys.length→R l' w') :
   RunT P (Builtin.append_ #[ts,ts] ty #[.slice l.a l.len l.cap,.slice sl.a sl.len sl.cap]) [.one .slice] w R:=by
 cases ha:sl.a with
 | none=>
   have hz:=hn ha
   subst hz
   have hy:ys=[]:=List.eq_nil_of_length_eq_zero (by rw [← hs.1])
   subst hy
   obtain ⟨i,z,hi,hz,h1,h2,h3⟩:=hE.info
   have hr:=run_append_owned_none (P:=P) w 0 ts ty t i En.n hE.und hi (.slice l.a l.len l.cap) l.len (En.all xs) h.own
   exact runT_slice hr (hR l w (by rw [List.append_nil]; exact h) (h.has hE.pos).1)
 | some a=>exact St.app hE h hs ha hb hb2 hR
theorem St.copy {P : Program} {ts ty : TypeId} {bytes : Nat} (hE : Elt P ts t En.n bytes) (h : St w X) {sl : Sl} (hs : Has En w sl xs) (hn : NilOk sl)
   (hb:xs.length * bytes≤140737488355328) (hb2:xs.length≤4611686018427387904) {R:Sl→World→Prop} (hR:∀ l' w',St w' (Row En t l' xs :: X)→R l' w') :
   RunT P (Builtin.append_ #[ts,ts] ty #[.slice none 0 0,.slice sl.a sl.len sl.cap]) [.one .slice] w R:=
 St.appN hE (h.row0 En t) hs hn (by simpa using hb) (by simpa using hb2) fun l' w' h' _=>hR l' w' h'
theorem Row.nilOk (h:St w (Row En t l xs :: X)):NilOk l:=fun ha=>(Own.isNil h.own ha).1
/-- one of several -/
theorem St.among {M:List As}:∀ {w:World} {i:Nat} {A:As} {S:Nat→Prop},StP M w S→M[i]? = some A→∃ S,A.p w S:=by
 induction M with
 | nil=>intro w i A S _ hi; simp at hi
 | cons B r ih=>
   intro w i A S h hi
   obtain ⟨a,b,ha,hb,_,_⟩:=h
   rcases i with _ | i
   · simp only [List.getElem?_cons_zero,Option.some.injEq] at hi
     subst hi; exact ⟨a,ha⟩
   · exact ih hb (by simpa using hi)
theorem St.amongs {M:List As} (h:St w (As.all M :: X)) {i:Nat} {A:As} (hi:M[i]? = some A):∃ S,A.p w S:=by
 obtain ⟨S,hS⟩:=h.hd
 exact St.among hS hi
theorem St.snocs {M:List As} {A:As} (h:St w (A :: As.all M :: X)):St w (As.all (M ++ [A]) :: X):=by
 have h1:St w (M ++ A :: X):=St.perm h.sw.unfold (List.Perm.refl _)
 have h2:St w ((M ++ [A]) ++ X):=by rw [List.append_assoc]; exact h1
 exact h2.fold _
end
/-! ### Marks -/
section
variable {w:World} {X:List As}
end
end Go.Proofs.YtgacpkgaogiocaaGreatDoor
