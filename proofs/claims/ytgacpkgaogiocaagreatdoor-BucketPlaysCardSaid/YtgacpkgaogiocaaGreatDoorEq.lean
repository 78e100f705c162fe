/- a table of buckets: an entry is dropped. -/
import Derived.Test.YtgacpkgaogiocaaGreatDoorEo
set_option linter.unusedVariables false
namespace Go.Proofs.YtgacpkgaogiocaaGreatDoor
open Go Go.Vc Go.RowKit Go.Lib Go.Maps
theorem idxE_at {l:List Ey} {x:Ey} (h:x∈l):idxE l x=(l.idxOf x:Int)∧l.idxOf x < l.length∧l[l.idxOf x]? = some x:=by
 have h1:l.idxOf x < l.length:=List.idxOf_lt_length_iff.2 h
 refine ⟨if_pos h,h1,?_⟩
 rw [List.getElem?_eq_getElem h1,List.getElem_idxOf h1]
theorem del_len {l:List Ey} (hs:Srt l) {x:Ey} (h:x∈l):(l.filter fun y=>decide (y≠x)).length + 1=l.length:=by
 obtain ⟨_,h1,h2⟩:=idxE_at h
 rw [← erase_at hs h2,List.length_append,List.length_take,List.length_drop]; omega
section
variable {w:World} {X:List As} {t k g c cd:Nat} {U:Tb} {D:DkV} {es:List Ent} {gen:Int} {L:List Ey} {M:Nat}
set_option maxHeartbeats 4000000 in
theorem drop_st {x : Ey} (h : St w (TabS t k c U :: DeskS k g cd D :: X)) (hT : MemT D es gen U L M) (hM : M ≤ 269) (hxh : x.s.length ≤ 1000000000) (hc : c ≤ 700000) {R : Int → World → Prop}
   (hB:∀ e w',dropS (L,0) x=(L,e)→e≠0→St w' (DeskS k g cd D :: X)→R e w')
   (hR:∀ w' D' es' U',dropS (L,0) x=(L.filter fun y=>decide (y≠x),0)→Sm D D'→MemT D' es' gen U' (L.filter fun y=>decide (y≠x)) M→U'.root=U.root→St w' (TabS t k (c + 10) U' :: DeskS k g cd D' :: X)→R 0 w'):F.bucket_table_drop (some (blk t)) x.k (tx x.s) x.a w R:=by
 apply E.bucket_table_drop
 unfold V.bucket_table_drop
 try simp -zeta only [ldC,soC,brC,bkA,slC,cnd_all,blk_add2,Nat.reduceAdd]
 have hle:=hT.le
 have hbl:=bktN_le L.length
 have hpn:=hT.plen
 have hmn:=hT.many
 have hok:∀ nb i,∀ x∈Go.Proofs.YtgacpkgaogiocaaGreatDoor.bk L nb i,okE x:=fun nb i x hx=>hT.good.2 x (bk_sub x hx)
 have hbl2:∀ nb i,(Go.Proofs.YtgacpkgaogiocaaGreatDoor.bk L nb i).length≤269:=fun nb i=>Nat.le_trans (bk_len L _ _) (by omega)
 have c3:=fun {w':World} {c':Nat} {U':Tb} {Y:List As} (q:St w' (TabS t k c' U' :: Y))=>(TabS.cell q).2.2.2.1
 have c4:=fun {w':World} {c':Nat} {U':Tb} {Y:List As} (q:St w' (TabS t k c' U' :: Y))=>(TabS.cell q).2.2.2.2.1
 have hno:x∉L→dropS (L,0) x=(L,8):=fun hn=>by
   unfold dropS
   rw [if_neg (by simp),if_neg hn]
 have hyes:x∈L→dropS (L,0) x=(L.filter fun y=>decide (y≠x),0):=fun hn=>by
   unfold dropS
   rw [if_neg (by simp),if_pos hn]
 have q:=h
 refine St.al q fun wa1 q=>?_
 generalize w.heap.size=g0 at *
 refine ⟨_,c3 q.sw,fun hz=>?_,fun hnz=>?_⟩
 · have hz:((U.many:Nat):Int)=0:=by first | exact hz | simpa using hz
   have hL:L=[]:=List.eq_nil_of_length_eq_zero (by omega)
   exact hB 8 _ (hno (by rw [hL]; simp)) (by decide) q.drop.drop
 have hnz:¬ ((U.many:Nat):Int)=0:=by first | exact hnz | simpa using hnz
 have hL0:L.length≠0:=by omega
 have hnb:=bktN_pos hL0
 refine St.dr q fun wa2 q=>?_
 have hp:U.p.pl.len=U.ps.length:=(TabS.cell q.sw).2.2.2.2.2.1
 refine ⟨_,q.cell0,_,q.cell 1,_,c4 q.sw,Hash_any q hxh fun w2 q=>⟨c4 q.sw,?_⟩⟩
 rw [hp]
 have hsl:slotN (hashE x) U.ps.length < U.ps.length:=slotN_lt (by omega)
 refine Slot_any (by omega) ⟨?_,?_⟩
 · rw [← hp]; exact c4 q.sw
 refine bucket_st q.up2.up2 hT.hv hT.bk hsl (hok _ _) (hbl2 _ _) (by omega) fun w4 kn4 rows4 l1 M4 hin _ q=>⟨fun h=>absurd rfl h,fun _=>?_⟩
 have hbn:=hbl2 U.ps.length (slotN (hashE x) U.ps.length)
 refine ⟨_,q.up2.cell0,_,q.up2.cell 1,_,q.up2.cell 2,Index_ey q (fun w' hw=>(TabS.has hw hin).1) (by omega) fun w5 q=>⟨fun hneg=>?_,fun hpos=>?_⟩⟩
 · refine hB 8 _ (hno fun hm=>?_) (by decide) q.drop.d2
   have:=(idxE_at (bk_slot (nb:=U.ps.length).2 hm)).1
   omega
 have hxb:x∈Go.Proofs.YtgacpkgaogiocaaGreatDoor.bk L U.ps.length (slotN (hashE x) U.ps.length):=Decidable.byContradiction fun hn=>by
   have:idxE (Go.Proofs.YtgacpkgaogiocaaGreatDoor.bk L U.ps.length (slotN (hashE x) U.ps.length)) x = -1:=if_neg hn
   omega
 have hxm:x∈L:=bk_slot.1 hxb
 obtain ⟨i1,i2,i3⟩:=idxE_at hxb
 rw [i1]
 refine Clone_ey q (fun w' hw=>(TabS.has hw hin).1) (TabS.has q hin).2 (by omega) fun l2 w6 q=>Delete_st q (by omega) i2 fun l3 w7 q=>?_
 rw [erase_at (bk_srt hT.good.1 _ _) i3] at q
 refine set_st q.sw (by omega) (by omega) fun w8 q=>⟨_,c3 q,?_⟩
 have hdl:=del_len hT.good.1 hxm
 refine many_put (n:=L.length - 1) (by show w64 ((U.many:Int) - 1)=_; rw [w64_id (by omega) (by omega)]; omega) (by omega) q fun w9 q=>?_
 refine St.dr q fun wa3 q=>?_
 have hp2:(({ U with many:=L.length - 1 }:Tb)).p.pl.len=U.ps.length:=hp
 have hM9:=(MemB.set M4 (n:=slotN (hashE x) U.ps.length) (sl:=l3) (l:=_)).to (B':=Go.Proofs.YtgacpkgaogiocaaGreatDoor.bk (L.filter fun y=>decide (y≠x)) U.ps.length) fun i hi=>(by
   rw [bk_del]
   by_cases c1:i=slotN (hashE x) U.ps.length
   · rw [if_pos c1,if_pos c1.symm,c1]
   · rw [if_neg c1,if_neg (fun h=>c1 h.symm)])
 have hs:=bktN_succ (L.filter fun y=>decide (y≠x)).length
 rw [hdl] at hs
 refine ⟨_,c3 q,_,c4 q,buckets_any (n:=L.length - 1) (by omega) ⟨c4 q,fun hlt=>?_,fun hge=>?_⟩⟩
 · have hlt:(bktN (L.length - 1):Int) < (U.p.pl.len:Nat):=hlt
   have e1:L.length - 1=(L.filter fun y=>decide (y≠x)).length:=by omega
   rw [e1] at hlt
   have hn1:U.ps.length=bktN (L.filter fun y=>decide (y≠x)).length + 1:=by omega
   refine shrink_st (L:=L.filter fun y=>decide (y≠x)) (n:=bktN (L.filter fun y=>decide (y≠x)).length) q hT.hv (hT.good.del x) (by omega) (hM9.to fun i _=>by rw [hn1]) hT.cov hn1 (fun h0=>?_) (c:=c + 1 + 1) (by omega) fun w12 D' es' kn' wr' rows' p' hH2 hS2 hC2 hsub2 M12 q=>?_
   · exact List.eq_nil_of_length_eq_zero (Decidable.byContradiction fun hne=>bktN_pos hne h0)
   · have q':=TabS.mono (c':=c + 10) q.d3 (by omega)
     refine hR w12 D' es' _ (hyes hxm) hS2 ?_ ?_ q'
     rotate_left
     · rfl
     refine ⟨hH2,hT.good.del x,hC2,fun e he=>hT.len e (hsub2 e he),fun e he=>hT.gens e (hsub2 e he),hT.ugen,e1,by omega,?_,?_⟩
     · show (U.ps.take _).length=_
       rw [List.length_take]; omega
     · show MemB es' gen (U.ps.take _) (Go.Proofs.YtgacpkgaogiocaaGreatDoor.bk _ (U.ps.take _).length) kn' wr'
       have e2:(U.ps.take (bktN (L.filter fun y=>decide (y≠x)).length)).length=bktN (L.filter fun y=>decide (y≠x)).length:=by rw [List.length_take]; omega
       rw [e2]; exact M12
 · have hge:¬ (bktN (L.length - 1):Int) < (U.p.pl.len:Nat):=hge
   have e1:L.length - 1=(L.filter fun y=>decide (y≠x)).length:=by omega
   rw [e1] at hge
   have q':=TabS.mono (c':=c + 10) q.d3 (by omega)
   refine hR _ D es _ (hyes hxm) (Sm.refl D) ?_ ?_ q'
   rotate_left
   · rfl
   exact ⟨hT.hv,hT.good.del x,hT.cov,hT.len,hT.gens,hT.ugen,e1,by omega,(by show U.ps.length=_; omega),hM9⟩
end
end Go.Proofs.YtgacpkgaogiocaaGreatDoor

/- a table of buckets: a chain is put in the place of another one. -/
set_option linter.unusedVariables false
namespace Go.Proofs.YtgacpkgaogiocaaGreatDoor
open Go Go.Vc Go.RowKit Go.Lib Go.Maps
section
variable {w:World} {X:List As} {t k g c cd:Nat} {U:Tb} {D:DkV} {es:List Ent} {ps:List Int}
theorem Put_E2 (h : St w (DeskS k g c D :: X)) (hH : Have D es) {gen tag : Int} {b : Bs} (hg : 1 ≤ gen ∧ gen ≤ 3) (ht : 0 ≤ tag ∧ tag ≤ 200) (hb : b.length ≤ 9440) (hc : c ≤ 900000) (hf : needN b.length ≤ freeN D.bs) {R : Int → Int → World → Prop}
   (hR:∀ w' D' e',e'.x.gen=gen→e'.x.tag=tag→e'.x.data=b→Sm D D'→Have D' (es ++ [e'])→St w' (DeskS k g (c + 40) D' :: X)→R e'.x.at_ 0 w'):F.chain_Put (some (blk k)) gen tag (tx b) w R:=by
 refine Put_chain h hg ht hb hc (fun w' hlt _=>absurd hlt (by omega)) fun w' hle h'=>?_
 exact hR w' _ ⟨⟨placeP D (needN b.length) 0,gen,tag,1,b⟩,linkP D gen tag b (needN b.length),placeP D (needN b.length)⟩ rfl rfl rfl ⟨putS_back _,by rw [putS_bs,takeN_len]⟩ (hH.put hg ht hb hle) h'
/-- what a chain's put leaves -/
structure PutR (D:DkV) (es:List Ent) (ps:List Int) (i:Nat) (gen tag:Int) (b:Bs) (D':DkV) (es':List Ent) (q:Int):Prop where
 hv:Have D' es'
 sm:Sm D D'
 cov:Cov es' (ps.set i q)
 nil:b=[]→q=0
 put:b≠[]→q≠0∧Ch es' gen q tag b
 sub:∀ e∈es',e∈es∨(e.x.gen=gen∧e.x.data=b)
 old:∀ j p tag' d gen',j≠i→ps[j]? = some p→p≠0→Ch es gen' p tag' d→Ch es' gen' p tag' d
set_option maxHeartbeats 2000000 in
theorem putT_st (h : St w (TabS t k c U :: DeskS k g cd D :: X)) (hH : Have D es) (hg : 1 ≤ U.gen ∧ U.gen ≤ 3) (hcov : Cov es ps) {i : Nat} {old : Int} (hi : ps[i]? = some old) {tag : Int} (ht : 0 ≤ tag ∧ tag ≤ 200) {b : Bs} {m : Nat} (hm : m ≤ 9440) (hlen : ∀ e ∈ es, e.x.data.length ≤ m) (hbm : b.length ≤ m)
   (hroom:(ps.length + 1) * needN m + 2≤D.bs.length) (hcd:cd≤900000) {R:Int→Int→World→Prop}
   (hR:∀ w' D' es' q,PutR D es ps i U.gen tag b D' es' q→St w' (TabS t k c U :: DeskS k g (cd + 40) D' :: X)→R q 0 w'):F.bucket_table_put (some (blk t)) old tag (tx b) w R:=by
 apply E.bucket_table_put
 unfold V.bucket_table_put
 try simp -zeta only [ldC,soC,brC,bkA,slC,cnd_all,blk_add2,Nat.reduceAdd]
 have hil:i < ps.length:=(List.getElem?_eq_some_iff.1 hi).1
 have hse:sEq (tx b) sNil=decide (b=[]):=by rw [tx_nil,tx_eq]
 -- what is left to do where nothing stands any more
 have key : ∀ (w1 : World) (D1 : DkV) (es1 : List Ent), Have D1 es1 → Sm D D1 → Cov es1 (ps.set i 0) → (∀ e ∈ es1, e ∈ es) → (∀ j p tag' d gen', j ≠ i → ps[j]? = some p → p ≠ 0 → Ch es gen' p tag' d → Ch es1 gen' p tag' d) → St w1 (TabS t k c U :: DeskS k g cd D1 :: X) →
     (b=[]→R 0 0 w1)∧(b≠[]→∀ w2,St w2 (TabS t k c U :: DeskS k g cd D1 :: X)→F.chain_Put (some (blk k)) U.gen tag (tx b) w2 R):=fun w1 D1 es1 hH1 hS1 hC1 hsub1 hold1 q=>by
   refine ⟨fun hb0=>hR w1 D1 es1 0 ⟨hH1,hS1,hC1,fun _=>rfl,fun hb=>absurd hb0 hb,fun e he=>.inl (hsub1 e he),hold1⟩ (DeskS.mono q.sw (by omega)).sw,fun hb w2 q=>?_⟩
   have hfree:=Have.room hH1 hC1 (M:=m) (fun e he=>hlen e (hsub1 e he)) hbm (by rw [List.length_set,hS1.2]; exact hroom)
   refine Put_E2 q.sw hH1 hg ht (by omega) hcd hfree fun w3 D2 e' g1 g2 g3 hS2 hH2 q=>?_
   have hat:e'.x.at_≠0:=by
     have:=hH2.at_ (e:=e') (by simp)
     omega
   have hC2:=hC1.put (e':=e') (i:=i) (by rw [List.getElem?_set_self hil]) hat
   rw [List.set_set] at hC2
   exact hR w3 D2 (es1 ++ [e']) e'.x.at_ ⟨hH2,hS1.trans hS2,hC2,fun h=>absurd h hb,fun _=>⟨hat,e',by simp,rfl,g1,g2,g3⟩,fun e he=>by
     rcases List.mem_append.1 he with h | h
     · exact .inl (hsub1 e h)
     · rw [List.mem_singleton] at h
       subst h
       exact .inr ⟨g1,g3⟩,fun j p tag' d gen' hj hp h0 hc=>(hold1 j p tag' d gen' hj hp h0 hc).put⟩ q.sw
 obtain ⟨a0,a1,a2,a3,a4,a5,a6⟩:=TabS.cell h
 simp only [hse,decide_eq_true_eq,decide_eq_false_iff_not]
 refine ⟨fun hne=>⟨_,a0,?_⟩,fun hz=>?_⟩
 · obtain ⟨a,e,b1,rfl,hat⟩:=hcov.get (List.mem_of_getElem? hi) hne
   rw [← hat]
   rw [← hat] at hi hne
   refine Drop_E h.sw hH fun w1 hH1 q=>⟨fun h=>absurd rfl h,fun _=>?_⟩
   have q:=q.sw
   have hc1:=hcov.drop hi hne
   obtain ⟨k1,k2⟩:=key w1 (dropD D e.ps) (a ++ b1) hH1 (Sm.drop D _) hc1 (fun f hf=>by
     rcases List.mem_append.1 hf with h | h
     · exact List.mem_append_left _ h
     · exact List.mem_append_right _ (List.mem_cons_of_mem _ h)) (fun j p tag' d gen' hj hp h0 hc=>hc.drop hH hc1 (List.mem_of_getElem? (i:=j) (by rw [List.getElem?_set_ne (Ne.symm hj)]; exact hp)) h0) q
   refine ⟨k1,fun hb=>?_⟩
   refine St.dr q fun wa1 q=>?_
   obtain ⟨a0,a1,a2,a3,a4,a5,a6⟩:=TabS.cell q
   exact ⟨_,a0,_,a1,k2 hb _ q⟩
 · have hz:old=0:=by first | exact hz | simpa using hz
   have e1:ps.set i 0=ps:=by
     rw [hz] at hi
     obtain ⟨h1,h2⟩:=List.getElem?_eq_some_iff.1 hi
     conv=>lhs; rw [← h2]
     exact List.set_getElem_self h1
   obtain ⟨k1,k2⟩:=key w D es hH (Sm.refl D) (by rw [e1]; exact hcov) (fun _ h=>h) (fun j p tag' d gen' hj hp h0 hc=>hc) h
   refine ⟨k1,fun hb=>?_⟩
   have q:=h
   refine St.dr q fun wa2 q=>?_
   obtain ⟨a0,a1,a2,a3,a4,a5,a6⟩:=TabS.cell q
   exact ⟨_,a0,_,a1,k2 hb _ q⟩
end
end Go.Proofs.YtgacpkgaogiocaaGreatDoor
