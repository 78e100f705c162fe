/- entries in order, and the buckets that they stand in; plain. -/
import Derived.Test.YtgacpkgaogiocaaGreatDoorPn
set_option linter.unusedVariables false
namespace Go.Proofs.YtgacpkgaogiocaaGreatDoor
open Go Go.Vc Go.RowKit Go.Lib
/-- an entry: the print's kind and bytes, a place -/
structure Ey where
 k:Int
 s:Bs
 a:Int
deriving DecidableEq
/-- stands one ahead of the other? -/
def ltE (x y:Ey):Prop:=x.k < y.k∨(x.k=y.k∧(x.s < y.s∨(x.s=y.s∧x.a < y.a)))
instance (x y:Ey):Decidable (ltE x y):=by unfold ltE; infer_instance
theorem bs_irrefl (x:Bs):¬ x < x:=List.lt_irrefl x
theorem bs_trans {x y z:Bs} (h:x < y) (k:y < z):x < z:=List.lt_trans h k
theorem bs_total (x y:Bs):x < y∨x=y∨y < x:=by
 by_cases h:x < y
 · exact .inl h
 · by_cases k:y < x
   · exact .inr (.inr k)
   · exact .inr (.inl (List.le_antisymm (List.not_lt.1 k) (List.not_lt.1 h)))
theorem ltE_irrefl (x:Ey):¬ ltE x x:=by
 unfold ltE
 rintro (h | ⟨_,h | ⟨_,h⟩⟩)
 · omega
 · exact bs_irrefl _ h
 · omega
theorem ltE_trans {x y z:Ey} (h:ltE x y) (k:ltE y z):ltE x z:=by
 unfold ltE at *
 rcases h with h | ⟨h1,h⟩
 · rcases k with k | ⟨k1,_⟩ <;> left <;> omega
 · rcases k with k | ⟨k1,k⟩
   · left; omega
   · refine .inr ⟨h1.trans k1,?_⟩
     rcases h with h | ⟨h2,h⟩
     · rcases k with k | ⟨k2,_⟩
       · exact .inl (bs_trans h k)
       · rw [← k2]; exact .inl h
     · rcases k with k | ⟨k2,k⟩
       · rw [h2]; exact .inl k
       · exact .inr ⟨h2.trans k2,by omega⟩
theorem ltE_total (x y:Ey):ltE x y∨x=y∨ltE y x:=by
 unfold ltE
 rcases Int.lt_trichotomy x.k y.k with h | h | h
 · exact .inl (.inl h)
 · rcases bs_total x.s y.s with h2 | h2 | h2
   · exact .inl (.inr ⟨h,.inl h2⟩)
   · rcases Int.lt_trichotomy x.a y.a with h3 | h3 | h3
     · exact .inl (.inr ⟨h,.inr ⟨h2,h3⟩⟩)
     · refine .inr (.inl ?_)
       cases x; cases y; simp_all
     · exact .inr (.inr (.inr ⟨h.symm,.inr ⟨h2.symm,h3⟩⟩))
   · exact .inr (.inr (.inr ⟨h.symm,.inl h2⟩))
 · exact .inr (.inr (.inl h))
abbrev Srt (l:List Ey):Prop:=l.Pairwise ltE
theorem Srt.nodup {l:List Ey} (h:Srt l):l.Nodup:=List.Pairwise.imp (S:=fun a b=>a≠b) (fun {a b} hab e=>ltE_irrefl a (by rw [← e] at hab; exact hab)) h
/-- lists in order with the same entries are one -/
theorem srt_ext:∀ {l m:List Ey},Srt l→Srt m→(∀ x,x∈l↔x∈m)→l=m
 | [],[],_,_,_=>rfl
 | [],y :: m,_,_,h=>absurd ((h y).2 (List.mem_cons_self ..)) (by simp)
 | x :: l,[],_,_,h=>absurd ((h x).1 (List.mem_cons_self ..)) (by simp)
 | x :: l,y :: m,hl,hm,h=>by
   obtain ⟨h1,h2⟩:=List.pairwise_cons.1 hl
   obtain ⟨k1,k2⟩:=List.pairwise_cons.1 hm
   have e:x=y:=by
     rcases ltE_total x y with c | c | c
     · rcases List.mem_cons.1 ((h x).1 (List.mem_cons_self ..)) with e | e
       · exact e
       · exact absurd (ltE_trans c (k1 x e)) (ltE_irrefl x)
     · exact c
     · rcases List.mem_cons.1 ((h y).2 (List.mem_cons_self ..)) with e | e
       · exact e.symm
       · exact absurd (ltE_trans c (h1 y e)) (ltE_irrefl y)
   subst e
   congr 1
   refine srt_ext h2 k2 fun z=>?_
   constructor
   · intro hz
     rcases List.mem_cons.1 ((h z).1 (List.mem_cons_of_mem _ hz)) with e | e
     · subst e; exact absurd (h1 z hz) (ltE_irrefl z)
     · exact e
   · intro hz
     rcases List.mem_cons.1 ((h z).2 (List.mem_cons_of_mem _ hz)) with e | e
     · subst e; exact absurd (k1 z hz) (ltE_irrefl z)
     · exact e
/-- how many stand ahead of an entry -/
def cntE (l:List Ey) (x:Ey):Nat:=l.countP fun y=>decide (ltE y x)
/-- an entry put to its place -/
def insE (l:List Ey) (x:Ey):List Ey:=l.take (cntE l x) ++ x :: l.drop (cntE l x)
theorem cntE_le (l:List Ey) (x:Ey):cntE l x≤l.length:=List.countP_le_length
theorem insE_mem {l:List Ey} {x y:Ey}:y∈insE l x↔y=x∨y∈l:=by
 unfold insE
 rw [List.mem_append,List.mem_cons]
 have h:=List.take_append_drop (cntE l x) l
 constructor
 · rintro (h1 | h1 | h1)
   · exact .inr (List.mem_of_mem_take h1)
   · exact .inl h1
   · exact .inr (List.mem_of_mem_drop h1)
 · rintro (h1 | h1)
   · exact .inr (.inl h1)
   · rw [← h] at h1
     rcases List.mem_append.1 h1 with h2 | h2
     · exact .inl h2
     · exact .inr (.inr h2)
/-- of a list in order, those ahead of an entry stand first -/
theorem srt_cut:∀ {l:List Ey} (h:Srt l) (x:Ey),(∀ y∈l.take (cntE l x),ltE y x)∧(∀ y∈l.drop (cntE l x),¬ ltE y x)
 | [],_,x=>by simp [cntE]
 | z :: l,h,x=>by
   obtain ⟨h1,h2⟩:=List.pairwise_cons.1 h
   have ih:=srt_cut h2 x
   by_cases c:ltE z x
   · have e:cntE (z :: l) x=cntE l x + 1:=by unfold cntE; rw [List.countP_cons,if_pos (by simpa using c)]
     rw [e]
     refine ⟨fun y hy=>?_,fun y hy=>ih.2 y hy⟩
     rw [List.take_succ_cons] at hy
     rcases List.mem_cons.1 hy with e2 | e2
     · subst e2; exact c
     · exact ih.1 y e2
   · have e : cntE (z :: l) x = 0 := by
       unfold cntE
       rw [List.countP_cons,if_neg (by simpa using c),List.countP_eq_zero.2]
       intro y hy
       simp only [decide_eq_true_eq]
       exact fun k=>c (ltE_trans (h1 y hy) k)
     rw [e]
     refine ⟨fun y hy=>(by simp at hy),fun y hy=>?_⟩
     rcases List.mem_cons.1 hy with e2 | e2
     · subst e2; exact c
     · exact fun k=>c (ltE_trans (h1 y e2) k)
theorem insE_srt {l:List Ey} (h:Srt l) {x:Ey} (hx:x∉l):Srt (insE l x):=by
 obtain ⟨c1,c2⟩:=srt_cut h x
 unfold insE
 have hs:=h
 rw [← List.take_append_drop (cntE l x) l] at hs
 obtain ⟨p1,p2,p3⟩:=List.pairwise_append.1 hs
 refine List.pairwise_append.2 ⟨p1,List.pairwise_cons.2 ⟨fun y hy=>?_,p2⟩,fun a ha b hb=>?_⟩
 · rcases ltE_total x y with c | c | c
   · exact c
   · subst c; exact absurd (List.mem_of_mem_drop hy) hx
   · exact absurd c (c2 y hy)
 · rcases List.mem_cons.1 hb with e | e
   · subst e; exact c1 a ha
   · exact p3 a ha b e
/-- is an entry there: it stands at its place -/
theorem srt_at {l:List Ey} (h:Srt l) (x:Ey):x∈l↔l[cntE l x]? = some x:=by
 obtain ⟨c1,c2⟩:=srt_cut h x
 constructor
 · intro hx
   rw [← List.take_append_drop (cntE l x) l] at hx
   rcases List.mem_append.1 hx with k | k
   · exact absurd (c1 x k) (ltE_irrefl x)
   · have hs:=h
     rw [← List.take_append_drop (cntE l x) l] at hs
     obtain ⟨_,p2,_⟩:=List.pairwise_append.1 hs
     cases hd:l.drop (cntE l x) with
     | nil=>rw [hd] at k; cases k
     | cons y r=>
       rw [hd] at k p2 c2
       have e0:l[cntE l x]? = some y:=by rw [← List.head?_drop,hd]; rfl
       rcases List.mem_cons.1 k with e | e
       · rw [e0,e]
       · have:=(List.pairwise_cons.1 p2).1 x e
         exact absurd this (c2 y (List.mem_cons_self ..))
 · intro e
   exact List.mem_of_getElem? e
theorem insE_filter {l:List Ey} (h:Srt l) {x:Ey} (hx:x∉l) (p:Ey→Bool):(insE l x).filter p=if p x then insE (l.filter p) x else l.filter p:=by
 have hf:Srt (l.filter p):=h.filter p
 have hs:=insE_srt h hx
 by_cases c:p x=true
 · rw [if_pos c]
   refine srt_ext (hs.filter p) (insE_srt hf (fun k=>hx (List.mem_filter.1 k).1)) fun y=>?_
   rw [List.mem_filter,insE_mem,insE_mem,List.mem_filter]
   constructor
   · rintro ⟨e | e,h2⟩
     · exact .inl e
     · exact .inr ⟨e,h2⟩
   · rintro (e | ⟨e,h2⟩)
     · exact ⟨.inl e,by rw [e]; exact c⟩
     · exact ⟨.inr e,h2⟩
 · rw [if_neg c]
   refine srt_ext (hs.filter p) hf fun y=>?_
   rw [List.mem_filter,insE_mem,List.mem_filter]
   constructor
   · rintro ⟨e | e,h2⟩
     · rw [e] at h2; exact absurd h2 c
     · exact ⟨e,h2⟩
   · rintro ⟨e,h2⟩; exact ⟨.inr e,h2⟩
/-- an entry taken out -/
theorem erase_srt {l:List Ey} (h:Srt l) (x:Ey):Srt (l.filter fun y=>decide (y≠x)):=h.filter _
theorem erase_at {l:List Ey} (h:Srt l) {x:Ey} {i:Nat} (hi:l[i]? = some x):l.take i ++ l.drop (i + 1)=l.filter fun y=>decide (y≠x):=by
 have hlt:i < l.length:=(List.getElem?_eq_some_iff.1 hi).1
 have hs:=h
 have hd:l.drop i=x :: l.drop (i + 1):=by
   rw [List.drop_eq_getElem_cons hlt]
   rw [List.getElem?_eq_getElem hlt] at hi
   rw [Option.some.inj hi]
 rw [← List.take_append_drop i l,hd] at hs
 obtain ⟨p1,p2,p3⟩:=List.pairwise_append.1 hs
 obtain ⟨p4,p5⟩:=List.pairwise_cons.1 p2
 have e:l=l.take i ++ x :: l.drop (i + 1):=by rw [← hd,List.take_append_drop]
 refine srt_ext (List.pairwise_append.2 ⟨p1,p5,fun a ha b hb=>p3 a ha b (List.mem_cons_of_mem _ hb)⟩) (erase_srt h x) fun y=>?_
 rw [List.mem_filter,decide_eq_true_eq,List.mem_append]
 constructor
 · rintro (k | k)
   · exact ⟨List.mem_of_mem_take k,fun e2=>ltE_irrefl x (by have:=p3 y k x (List.mem_cons_self ..); rw [e2] at this; exact this)⟩
   · exact ⟨List.mem_of_mem_drop k,fun e2=>ltE_irrefl x (by have:=p4 y k; rw [e2] at this; exact this)⟩
 · rintro ⟨k,ne⟩
   rw [e] at k
   rcases List.mem_append.1 k with k | k
   · exact .inl k
   · rcases List.mem_cons.1 k with k | k
     · exact absurd k ne
     · exact .inr k
/-- the highest power of two that is not above -/
def powN (n:Nat):Nat:=2 ^ Nat.log2 n
def slotN (h n:Nat):Nat:=if n=0 then 0 else if h % (2 * powN n) < n then h % (2 * powN n) else h % powN n
theorem powN_le {n:Nat} (h:n≠0):powN n≤n∧n < 2 * powN n:=by
 unfold powN
 refine ⟨Nat.log2_self_le h,?_⟩
 have:=(Nat.log2_lt h (k:=Nat.log2 n + 1)).1 (Nat.lt_succ_self _)
 rw [Nat.pow_succ] at this
 omega
theorem powN_uniq {n k:Nat} (h1:2 ^ k≤n) (h2:n < 2 * 2 ^ k):powN n=2 ^ k:=by
 have hn:n≠0:=by
   have:0 < 2 ^ k:=Nat.two_pow_pos k
   omega
 unfold powN
 congr 1
 have a:=(Nat.log2_lt hn (k:=k + 1)).2 (by rw [Nat.pow_succ]; omega)
 have b:¬ Nat.log2 n < k:=fun hlt=>by
   have:=(Nat.log2_lt hn).1 hlt
   omega
 omega
theorem slotN_lt {h n:Nat} (hn:n≠0):slotN h n < n:=by
 obtain ⟨a,b⟩:=powN_le hn
 unfold slotN
 rw [if_neg hn]
 split
 · assumption
 · have:0 < powN n:=Nat.two_pow_pos _
   exact Nat.lt_of_lt_of_le (Nat.mod_lt _ this) a
theorem powN_next {n:Nat} (hn:n≠0):(powN (n + 1)=powN n∧n + 1 < 2 * powN n)∨(powN (n + 1)=2 * powN n∧n + 1=2 * powN n):=by
 obtain ⟨a,b⟩:=powN_le hn
 by_cases h:n + 1 < 2 * powN n
 · exact .inl ⟨powN_uniq (k:=Nat.log2 n) (by show powN n≤_; omega) h,h⟩
 · have e:n + 1=2 * powN n:=by omega
   refine .inr ⟨?_,e⟩
   have e2:2 * powN n=2 ^ (Nat.log2 n + 1):=by rw [Nat.pow_succ,Nat.mul_comm]; rfl
   rw [e2]
   refine powN_uniq (by rw [← e2,← e]; exact Nat.le_refl _) ?_
   have:0 < powN n:=Nat.two_pow_pos _
   rw [← e2]; omega
theorem mod_two (h m:Nat):h % m=(h % (2 * m)) % m:=by rw [Nat.mod_mod_of_dvd _ (Nat.dvd_mul_left m 2)]
/-- one bucket more takes from one other one alone -/
theorem slotN_next {h n:Nat} (hn:n≠0):slotN h (n + 1)=slotN h n∨(slotN h (n + 1)=n∧slotN h n=n - powN n):=by
 obtain ⟨a,b⟩:=powN_le hn
 have hp:0 < powN n:=Nat.two_pow_pos _
 have hm:=mod_two h (powN n)
 have hr:=Nat.mod_lt h (show 0 < 2 * powN n by omega)
 have hsub:∀ r,powN n≤r→r < 2 * powN n→r % powN n=r - powN n:=fun r h1 h2=>by
   rw [Nat.mod_eq_sub_mod h1,Nat.mod_eq_of_lt (by omega)]
 unfold slotN
 rw [if_neg hn,if_neg (Nat.succ_ne_zero n)]
 rcases powN_next hn with ⟨e,h1⟩ | ⟨e,h1⟩
 · rw [e]
   by_cases c:h % (2 * powN n) < n
   · rw [if_pos c,if_pos (by omega)]; exact .inl rfl
   · rw [if_neg c]
     by_cases c2:h % (2 * powN n) < n + 1
     · rw [if_pos c2]
       have e3:h % (2 * powN n)=n:=by omega
       refine .inr ⟨e3,?_⟩
       rw [hm,e3,hsub n a (by omega)]
     · rw [if_neg c2]; exact .inl rfl
 · rw [e]
   have e4:(if h % (2 * (2 * powN n)) < n + 1 then h % (2 * (2 * powN n)) else h % (2 * powN n))=h % (2 * powN n):=by
     split
     · rename_i c
       have:=mod_two h (2 * powN n)
       exact (this.trans (Nat.mod_eq_of_lt (by omega))).symm
     · rfl
   rw [e4]
   by_cases c:h % (2 * powN n) < n
   · rw [if_pos c]; exact .inl rfl
   · rw [if_neg c]
     have e3:h % (2 * powN n)=n:=by omega
     refine .inr ⟨e3,?_⟩
     rw [hm,e3,hsub n a (by omega)]
/-- how many buckets so many entries have -/
def bktN (n:Nat):Nat:=if n=0 then 0 else (n - 1) / 4 + 1
/-- an entry's hash -/
def hashE (x:Ey):Nat:=if x.s.length < 2 then 0 else (x.s.getD 0 0).toNat + 256 * (x.s.getD 1 0).toNat
/-- what a bucket has -/
def bk (L:List Ey) (nb n:Nat):List Ey:=L.filter fun x=>decide (slotN (hashE x) nb=n)
theorem bk_srt {L:List Ey} (h:Srt L) (nb n:Nat):Srt (bk L nb n):=h.filter _
theorem bk_mem {L:List Ey} {nb n:Nat} {x:Ey}:x∈bk L nb n↔x∈L∧slotN (hashE x) nb=n:=by
 unfold bk; rw [List.mem_filter,decide_eq_true_eq]
theorem bk_ins {L:List Ey} (h:Srt L) {x:Ey} (hx:x∉L) (nb n:Nat):bk (insE L x) nb n=if slotN (hashE x) nb=n then insE (bk L nb n) x else bk L nb n:=by
 unfold bk
 rw [insE_filter h hx]
 by_cases c:slotN (hashE x) nb=n
 · rw [if_pos (decide_eq_true c),if_pos c]
 · rw [if_neg (by simpa using c),if_neg c]
theorem bk_del {L:List Ey} (x:Ey) (nb n:Nat):bk (L.filter fun y=>decide (y≠x)) nb n=if slotN (hashE x) nb=n then (bk L nb n).filter (fun y=>decide (y≠x)) else bk L nb n:=by
 unfold bk
 rw [List.filter_filter]
 by_cases c:slotN (hashE x) nb=n
 · rw [if_pos c,List.filter_filter]
   congr 1
   funext y
   exact Bool.and_comm _ _
 · rw [if_neg c]
   refine List.filter_congr fun y hy=>?_
   by_cases e:y=x
   · subst e; simp [c]
   · simp [e]
/-- one bucket more -/
theorem bk_grow {L : List Ey} {nb n : Nat} (hnb : nb ≠ 0) (hn : n ≤ nb) : bk L (nb + 1) n =
   if n=nb then (bk L nb (nb - powN nb)).filter (fun x=>decide (slotN (hashE x) (nb + 1)=nb))
   else if n=nb - powN nb then (bk L nb n).filter (fun x=>decide (slotN (hashE x) (nb + 1)≠nb)) else bk L nb n:=by
 unfold bk
 have hp:0 < powN nb:=Nat.two_pow_pos _
 by_cases c:n=nb
 · subst c
   rw [if_pos rfl,List.filter_filter]
   refine List.filter_congr fun y _=>?_
   have h1:=slotN_next (h:=hashE y) hnb
   have h2:=slotN_lt (h:=hashE y) hnb
   rw [Bool.eq_iff_iff,Bool.and_eq_true,decide_eq_true_eq,decide_eq_true_eq]
   constructor
   · intro e
     refine ⟨e,?_⟩
     rcases h1 with k | ⟨_,k⟩
     · omega
     · exact k
   · exact fun e=>e.1
 · rw [if_neg c]
   by_cases c2:n=nb - powN nb
   · rw [if_pos c2,List.filter_filter]
     refine List.filter_congr fun y _=>?_
     have h1:=slotN_next (h:=hashE y) hnb
     rw [Bool.eq_iff_iff,Bool.and_eq_true,decide_eq_true_eq,decide_eq_true_eq,decide_eq_true_eq]
     constructor
     · intro e
       refine ⟨by omega,?_⟩
       rcases h1 with k | ⟨k,_⟩ <;> omega
     · rintro ⟨e1,e2⟩
       rcases h1 with k | ⟨k,_⟩
       · omega
       · exact absurd k e1
   · rw [if_neg c2]
     refine List.filter_congr fun y _=>?_
     have h1:=slotN_next (h:=hashE y) hnb
     rw [Bool.eq_iff_iff,decide_eq_true_eq,decide_eq_true_eq]
     rcases h1 with k | ⟨k,k2⟩
     · rw [k]
     · constructor
       · intro e; omega
       · intro e; omega
/-- one bucket less: the last one's entries go to the one that it was split off from -/
theorem bk_shrink {L:List Ey} {nb n:Nat} (hnb:nb≠0) (hn:n < nb) (x:Ey):x∈bk L nb n↔x∈bk L (nb + 1) n∨(n=nb - powN nb∧x∈bk L (nb + 1) nb):=by
 rw [bk_mem,bk_mem,bk_mem]
 have h1:=slotN_next (h:=hashE x) hnb
 have hp:0 < powN nb:=Nat.two_pow_pos _
 constructor
 · rintro ⟨a,b⟩
   rcases h1 with k | ⟨k,k2⟩
   · exact .inl ⟨a,by omega⟩
   · exact .inr ⟨by omega,a,k⟩
 · rintro (⟨a,b⟩ | ⟨a,b,c⟩)
   · refine ⟨a,?_⟩
     rcases h1 with k | ⟨k,k2⟩ <;> omega
   · refine ⟨b,?_⟩
     rcases h1 with k | ⟨k,k2⟩
     · have:=slotN_lt (h:=hashE x) hnb
       omega
     · omega
theorem bk_perm {L:List Ey} (h:Srt L) (nb:Nat):∀ m:Nat,((List.range m).flatMap (bk L nb)).Perm (L.filter fun x=>decide (slotN (hashE x) nb < m))
 | 0=>by
   have:(L.filter fun x=>decide (slotN (hashE x) nb < 0))=[]:=List.filter_eq_nil_iff.2 fun x _=>by simp
   rw [this]; exact List.Perm.refl _
 | m + 1=>by
   rw [List.range_succ,List.flatMap_append]
   have e1:([m]:List Nat).flatMap (bk L nb)=bk L nb m:=by simp
   rw [e1]
   refine ((bk_perm h nb m).append_right _).trans ?_
   refine (List.perm_ext_iff_of_nodup ?_ (Srt.nodup (h.filter _))).2 fun x=>?_
   · rw [List.nodup_append]
     refine ⟨Srt.nodup (h.filter _),(bk_srt h nb m).nodup,fun a ha b hb e=>?_⟩
     subst e
     have a1:=(List.mem_filter.1 ha).2
     have a2:=(bk_mem.1 hb).2
     simp only [decide_eq_true_eq] at a1
     omega
   · rw [List.mem_append,List.mem_filter,bk_mem,List.mem_filter,decide_eq_true_eq,decide_eq_true_eq]
     constructor
     · rintro (⟨a,b⟩ | ⟨a,b⟩)
       · exact ⟨a,by omega⟩
       · exact ⟨a,by omega⟩
     · rintro ⟨a,b⟩
       by_cases c:slotN (hashE x) nb=m
       · exact .inr ⟨a,c⟩
       · exact .inl ⟨a,by omega⟩
theorem bk_full {L:List Ey} (h:Srt L) {nb:Nat} (hnb:nb≠0):((List.range nb).flatMap (bk L nb)).Perm L:=by
 refine (bk_perm h nb nb).trans ?_
 have:(L.filter fun x=>decide (slotN (hashE x) nb < nb))=L:=List.filter_eq_self.2 fun x _=>decide_eq_true (slotN_lt hnb)
 rw [this]
theorem bk_lens {L:List Ey} (h:Srt L) {nb:Nat} (hnb:nb≠0):((List.range nb).map fun n=>(bk L nb n).length).sum=L.length:=by
 have:=(bk_full h hnb).length_eq
 rw [List.length_flatMap] at this
 exact this
/-- the order of texts, as the machine reckons it -/
theorem bless:∀ (x y:Bs),Op.bytesLess x y=decide (x < y)
 | [],[]=>by simp [Op.bytesLess]
 | [],b :: y=>by simp [Op.bytesLess]
 | a :: x,[]=>by simp [Op.bytesLess]
 | a :: x,b :: y=>by
   rw [Op.bytesLess,bless x y]
   rw [Bool.eq_iff_iff]
   simp only [Bool.or_eq_true,decide_eq_true_eq,Bool.and_eq_true,beq_iff_eq,List.cons_lt_cons_iff]
end Go.Proofs.YtgacpkgaogiocaaGreatDoor
