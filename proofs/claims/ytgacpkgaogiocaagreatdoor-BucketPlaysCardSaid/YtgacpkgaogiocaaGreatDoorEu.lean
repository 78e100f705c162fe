/- a table of buckets: Find, All. -/
import Derived.Test.YtgacpkgaogiocaaGreatDoorEs
set_option linter.unusedVariables false
namespace Go.Proofs.YtgacpkgaogiocaaGreatDoor
open Go Go.Vc Go.RowKit Go.Lib Go.Maps
section
variable {w:World} {X:List As} {k g cd:Nat} {D:DkV} {es:List Ent} {gen tg root:Int} {L:List Ey} {ps:List Int} {M:Nat}
theorem Sort_I {sl : Sl} {zs : List Int} (h : St w (Row EI T.y_int sl zs :: X)) (hb : zs.length ≤ 1000000) {R : World → Prop}
   (hR:∀ w',St w' (Row EI T.y_int sl (zs.mergeSort fun x y=>decide (x≤y)) :: X)→R w'):F.slices_Sort_sl_int_int sl w R:=by
 obtain ⟨S,⟨hO,e⟩,_,hX⟩:=h.out
 subst e
 rw [EI_all] at hO
 exact Sort_ints hO (by omega) fun w' ho hf=>hR w' (hX (A':=Row EI T.y_int sl _) ⟨by rw [EI_all]; exact ho,rfl⟩ hf fun j hj=>.inl hj)
theorem sort_up {l:List Int} (h:l.Pairwise (· < ·)):(l.mergeSort fun x y=>decide (x≤y))=l:=mergeSort_up l (up_pw.2 h)
abbrev rdU (gen root:Int) (n:Nat) (ps:List Int) (p:TbP) (kn:Kn) (rows:Rw):Tb:=⟨gen,root,n,ps,kn,fun _=>none,rows,p⟩
set_option maxHeartbeats 4000000 in
theorem Find_st (h : St w (DeskS k g cd D :: X)) (hH : Have D es) (hT : TabD es tg root L ps M) (hM : M ≤ 269) {pk : Int} {s : Bs} (hs : s.length ≤ 1000000000) {R : Sl → Int → World → Prop}
   (hR:∀ sl w',St w' (Row EI T.y_int sl (findE L pk s) :: DeskS k g cd D :: X)→R sl 0 w'):F.bucket_Find (some (blk k)) root pk (tx s) w R:=by
 apply E.bucket_Find
 unfold V.bucket_Find
 try simp -zeta only [ldC,soC,brC,bkA,slC,cnd_all,blk_add2,Nat.reduceAdd]
 have hle:=hT.many
 have hbl:=bktN_le L.length
 have hpn:=hT.plen
 have hok:∀ nb i,∀ x∈bk L nb i,okE x:=fun nb i x hx=>hT.ok x (bk_sub x hx)
 have hbl2:∀ nb i,(bk L nb i).length≤269:=fun nb i=>Nat.le_trans (bk_len L _ _) (by omega)
 have c4:=fun {w':World} {t c':Nat} {U':Tb} {Y:List As} (q:St w' (TabS t k c' U' :: Y))=>(TabS.cell q).2.2.2.2.1
 have q:=h
 refine St.al q fun wa1 q=>?_
 generalize w.heap.size=g0 at *
 refine load_st q.sw hH hT hM fun t p w1 q=>?_
 simp -zeta only [Option.some.injEq,exists_eq_left']
 obtain ⟨a0,a1,a2,a3,a4,a5,a6⟩:=TabS.cell q
 refine ⟨fun b w'=>b=decide (L.length=0)∧w1=w',⟨fun h=>absurd trivial h,fun _=>⟨_,a3,?_,rfl⟩⟩,?_⟩
 · show (((L.length:Nat):Int) == 0)=_
   rw [Bool.eq_iff_iff,beq_iff_eq,decide_eq_true_iff]; omega
 rintro b _ ⟨rfl,rfl⟩
 refine ⟨fun hz=>?_,fun hnz=>?_⟩
 · have hz:L=[]:=List.eq_nil_of_length_eq_zero (of_decide_eq_true hz)
   refine hR _ w1 ?_
   rw [hz]
   exact St.row0 q.drop.d2 EI T.y_int
 have hL0:¬ L.length=0:=of_decide_eq_false hnz
 have hnb:=bktN_pos hL0
 refine St.dr q fun wa2 q=>?_
 obtain ⟨a0,a1,a2,a3,a4,a5,a6⟩:=TabS.cell q
 have hpp:p.pl.len=ps.length:=a5
 have hsl:slotN (hashE ⟨pk,s,0⟩) ps.length < ps.length:=slotN_lt (by omega)
 refine ⟨_,q.up2.cell0,_,q.up2.cell 1,_,a4,Hash_any (x:=⟨pk,s,0⟩) q hs fun w4 q=>⟨c4 q,?_⟩⟩
 rw [a5]
 refine Slot_any (by show ps.length≤1000000; omega) ⟨?_,?_⟩
 · rw [← a5]; exact c4 q
 refine bucket_st q hH hT.none hsl (hok _ _) (hbl2 _ _) (by decide) fun w6 kn6 rows6 l1 M6 hin _ q=>⟨?_,fun h=>absurd rfl h,fun _=>?_⟩
 · rw [← a5]
   have:=c4 q
   exact this
 have hfb:findE (bk L ps.length (slotN (hashE ⟨pk,s,0⟩) ps.length)) pk s=findE L pk s:=findE_bk (fun _ _ _ _=>trivial) _ _ fun x h1 h2=>by
   have:hashE x=hashE ⟨pk,s,0⟩:=by unfold hashE; rw [h2]
   rw [this]
 have hlen:=hbl2 ps.length (slotN (hashE ⟨pk,s,0⟩) ps.length)
 show ∃ J m,_
 generalize bk L ps.length (slotN (hashE ⟨pk,s,0⟩) ps.length)=l at *
 have hin:InR (rdU 0 root L.length ps p kn6 rows6).rows l1 l:=hin
 have q:St w6 (TabS t k 1 (rdU 0 root L.length ps p kn6 rows6) :: DeskS k g cd D :: Cs g0 [.int .i64 pk,.string (tx s)] T.y_api_Print :: X):=q
 have hl1:=(TabS.has q hin).1.1
 refine ⟨fun out n w'=>∃ m:Nat,n=m∧m≤l.length∧St w' (Row EI T.y_int out (findE (l.take m) pk s) :: _),fun _ n _=>((l.length:Int) - n).toNat,⟨0,rfl,Nat.zero_le _,St.row0 q EI T.y_int⟩,?_⟩
 rintro out _ w7 ⟨m,rfl,hm,q⟩
 refine ⟨fun hlt=>?_,fun hge=>?_⟩
 · have hlt:m < l.length:=by omega
   have hms:((l.length:Int) - ((m + 1:Nat):Int)).toNat < ((l.length:Int) - (m:Int)).toNat:=by omega
   obtain ⟨ad,ha,hb,c0,c1,c2⟩:=Has.ey (TabS.has q.drop hin).1 hlt
   refine ⟨ad,ha,by omega,by omega,_,c0,_,c1,_,c2,?_⟩
   refine St.al q fun wa3 q=>?_
   refine St.fill3 q fun wa6 q=>?_
   have ft:=findE_take (k:=pk) (s:=s) hlt
   have hfl:(findE (l.take m) pk s).length≤m:=by
     unfold findE
     rw [List.length_map]
     have:=List.length_filter_le (fun x=>decide (x.k=pk∧x.s=s)) (l.take m)
     rw [List.length_take] at this; omega
   rw [w64_succ (by omega)]
   refine ⟨_,q.cell0,_,q.cell 1,_,q.up4.cell0,_,q.up4.cell 1,?_⟩
   rw [tx_eq]
   refine ⟨fun heq=>⟨_,q.cell 2,?_⟩,fun hne=>⟨⟨m + 1,rfl,hlt,?_⟩,hms⟩⟩
   · have heq:l[m].k=pk∧l[m].s=s:=by simpa using heq
     rw [if_pos heq] at ft
     refine St.al q fun wa7 q=>?_
     refine St.app elt_int q.up2 (sl:=⟨some (blk _),1,1⟩) (ys:=[l[m].a]) (q.lit (En:=EI) (xs:=[l[m].a]) rfl rfl 1) rfl (by simp; omega) (by simp; omega) fun l2 w13 q _=>⟨⟨m + 1,rfl,hlt,?_⟩,hms⟩
     rw [ft]
     exact q.d2.d2
   · have hne:¬ (l[m].k=pk∧l[m].s=s):=by simpa using hne
     rw [if_neg hne] at ft
     rw [ft]
     exact q.drop
 · have hmm:m=l.length:=by omega
   subst hmm
   rw [List.take_length,hfb] at q
   have hup:=findE_up hT.srt pk s
   have hfl:(findE L pk s).length≤L.length:=by
     unfold findE
     rw [List.length_map]
     exact List.length_filter_le _ _
   refine Sort_I q (by omega) fun w14 q=>?_
   rw [sort_up hup] at q
   exact hR out w14 q.d2.d3
set_option maxHeartbeats 4000000 in
theorem All_b (h : St w (DeskS k g cd D :: X)) (hH : Have D es) (hT : TabD es tg root L ps M) (hM : M ≤ 269) {R : Sl → Int → World → Prop}
   (hR:∀ sl w',St w' (Row EE T.y_api_Entry sl L :: DeskS k g cd D :: X)→R sl 0 w'):F.bucket_All (some (blk k)) root w R:=by
 apply E.bucket_All
 unfold V.bucket_All
 try simp -zeta only [ldC,soC,brC,bkA,slC,cnd_all,blk_add2,Nat.reduceAdd]
 have hle:=hT.many
 have hbl:=bktN_le L.length
 have hpn:=hT.plen
 have hok:∀ nb i,∀ x∈bk L nb i,okE x:=fun nb i x hx=>hT.ok x (bk_sub x hx)
 have hbl2:∀ nb i,(bk L nb i).length≤269:=fun nb i=>Nat.le_trans (bk_len L _ _) (by omega)
 refine load_st h hH hT hM fun t p w1 q=>⟨fun h=>absurd rfl h,fun _=>?_⟩
 simp -zeta only [Option.some.injEq,exists_eq_left']
 obtain ⟨a0,a1,a2,a3,a4,a5,a6⟩:=TabS.cell q
 refine ⟨_,a4,?_⟩
 rw [a5]
 show ∃ J m,_
 have hfm:∀ m,((List.range m).flatMap (bk L ps.length)).length≤m * 269:=fun m=>by
   induction m with
   | zero=>simp
   | succ m ih=>
     rw [List.range_succ,List.flatMap_append,List.length_append]
     have:=hbl2 ps.length m
     simp only [List.flatMap_cons,List.flatMap_nil,List.append_nil]
     omega
 refine ⟨fun out n w'=>∃ (m:Nat) (kn:Kn) (rows:Rw),n=m∧m≤ps.length∧MemB es tg ps (bk L ps.length) kn (fun _=>none)∧St w' (Row EE T.y_api_Entry out ((List.range m).flatMap (bk L ps.length)) :: TabS t k m (rdU 0 root L.length ps p kn rows) :: DeskS k g cd D :: X),fun _ n _=>((ps.length:Int) - n).toNat,⟨0,_,_,rfl,Nat.zero_le _,hT.none,St.row0 q EE T.y_api_Entry⟩,?_⟩
 rintro out _ w2 ⟨m,kn,rows,rfl,hm,M2,q⟩
 refine ⟨fun hlt=>?_,fun hge=>?_⟩
 · have hlt:m < ps.length:=by first | omega | (have hlt:(m:Int) < ((ps.length:Nat):Int):=hlt; omega)
   have hms:((ps.length:Int) - ((m + 1:Nat):Int)).toNat < ((ps.length:Int) - (m:Int)).toNat:=by omega
   refine bucket_st q.up2.up2 hH M2 hlt (hok _ _) (hbl2 _ _) (by omega) fun w3 kn3 rows3 l1 M3 hin _ q=>⟨fun h=>absurd rfl h,fun _=>?_⟩
   have hf:=hfm m
   have hb:=hbl2 ps.length m
   have q:=q.up2
   refine appN_ey q (TabS.has q.drop hin).1 (TabS.has q.drop hin).2 (by omega) fun l2 w4 q=>?_
   rw [w64_succ (by omega)]
   refine ⟨⟨m + 1,kn3,rows3,rfl,hlt,M3,?_⟩,hms⟩
   rw [List.range_succ,List.flatMap_append]
   simpa using q
 · have hmm:m=ps.length:=by first | omega | (have hge:¬ (m:Int) < ((ps.length:Nat):Int):=hge; omega)
   subst hmm
   have hf:=hfm ps.length
   refine Sort_ey q (by omega) fun w4 q=>?_
   have es:((List.range ps.length).flatMap (bk L ps.length)).mergeSort leB=L:=by
     by_cases h0:ps.length=0
     · have hL:L=[]:=List.eq_nil_of_length_eq_zero (Decidable.byContradiction fun hne=>bktN_pos hne (by omega))
       rw [h0,hL]; simp
     · exact msort_eq (bk_full hT.srt h0) hT.srt
   rw [es] at q
   exact hR out w4 q.d2
end
end Go.Proofs.YtgacpkgaogiocaaGreatDoor

/- a table of buckets: forms, Check, Sectors. -/
set_option linter.unusedVariables false
namespace Go.Proofs.YtgacpkgaogiocaaGreatDoor
open Go Go.Vc Go.RowKit Go.Lib Go.Maps
/-- the sectors of the chain at a place -/
def psOf (es:List Ent) (p:Int):List Int:=((es.find? fun e=>decide (e.x.at_=p)).map Ent.ps).getD []
theorem psOf_at {D:DkV} {es:List Ent} (hH:Have D es) {e:Ent} (he:e∈es):psOf es e.x.at_=e.ps:=by
 unfold psOf
 cases hf:es.find? (fun e'=>decide (e'.x.at_=e.x.at_)) with
 | none=>
   have:=List.find?_eq_none.1 hf e he
   simp at this
 | some e'=>
   have h1:=List.mem_of_find?_eq_some hf
   have h2:=List.find?_some hf
   have:=Have.inj hH.ok hH.nd h1 he (by simpa using h2)
   rw [this]; rfl
theorem psOf_all {D:DkV} {es:List Ent} (hH:Have D es):(es.map fun e=>e.x.at_).flatMap (psOf es)=allP es:=by
 unfold allP
 rw [List.flatMap_map]
 have:∀ (a b:List Ent),es=a ++ b→b.flatMap (fun e=>psOf es e.x.at_)=b.flatMap Ent.ps:=fun a b=>by
   induction b generalizing a with
   | nil=>intro _; rfl
   | cons e b ih=>
     intro h
     rw [List.flatMap_cons,List.flatMap_cons,psOf_at hH (by rw [h]; simp),ih (a ++ [e]) (by rw [h]; simp)]
 exact this [] es rfl
theorem Cov.all {D:DkV} {es:List Ent} {ps:List Int} (h:Cov es ps) (hH:Have D es):((nz ps).flatMap (psOf es)).Perm (allP es):=by
 rw [← psOf_all hH]
 exact List.Perm.flatMap_right _ h.symm
section
variable {w:World} {X:List As} {t k g c cd:Nat} {U:Tb} {D:DkV} {es:List Ent} {gen tg root:Int} {L:List Ey} {ps:List Int} {M:Nat}
theorem nz_take {l:List Int} {m:Nat} (h:m < l.length):nz (l.take (m + 1))=if l[m]=0 then nz (l.take m) else nz (l.take m) ++ [l[m]]:=by
 rw [List.take_succ_eq_append_getElem h,nz_app]
 by_cases c:l[m]=0
 · rw [if_pos c,c]; simp [nz]
 · rw [if_neg c,nz_cons c]; rfl
theorem flat_sub {f:Int→List Int}:∀ {a b:List Int},a.Sublist b→(a.flatMap f).length≤(b.flatMap f).length:=fun h=>by
 induction h with
 | slnil=>exact Nat.le_refl _
 | cons x _ ih=>rw [List.flatMap_cons,List.length_append]; omega
 | cons_cons x _ ih=>rw [List.flatMap_cons,List.flatMap_cons,List.length_append,List.length_append]; omega
theorem forms_st (h:St w (TabS t k c U :: DeskS k g cd D :: X)) (hH:Have D es) (hC:Cov es (U.root :: U.ps)) (hgn:∀ e∈es,e.x.gen=gen) {R:Int→World→Prop} (hR:∀ w',St w' (DeskS k g cd D :: X)→R 0 w'):F.bucket_table_forms (some (blk t)) gen w R:=by
 apply E.bucket_table_forms
 unfold V.bucket_table_forms
 try simp -zeta only [ldC,soC,brC,bkA,slC,cnd_all,blk_add2,Nat.reduceAdd]
 have q:=h
 refine St.dr q fun wa1 q=>?_
 obtain ⟨a0,a1,a2,a3,a4,a5,a6⟩:=TabS.cell q
 have hlim:=(TabS.parts q).1.2.2.1
 refine ⟨_,a2,_,a4,?_⟩
 refine St.al q fun wa2 q=>?_
 obtain ⟨a0,a1,a2,a3,a4,a5,a6⟩:=TabS.cell q.drop
 refine ⟨a4,?_⟩
 have hnil:NilOk U.p.pl:=Row.nilOk (TabS.parts q.drop).2.sw
 have q:=St.rowLit q (En:=EI) (xs:=[U.root]) (n:=1) rfl rfl (by decide)
 refine St.appN elt_int q a6 hnil (by simp only [List.length_singleton]; omega) (by simp only [List.length_singleton]; omega) fun l1 w2 q hl1=>?_
 have hl1:l1.len=U.ps.length + 1:=by rw [hl1,List.length_singleton]; omega
 have hall:[U.root] ++ U.ps=U.root :: U.ps:=rfl
 rw [hall] at q
 refine ⟨fun n w'=>∃ m:Nat,n=m∧m≤U.ps.length + 1∧St w' (Row EI T.y_int l1 (U.root :: U.ps) :: TabS t k c U :: DeskS k g cd D :: X),fun n _=>((U.ps.length + 1:Nat) - n:Int).toNat,⟨0,rfl,Nat.zero_le _,q⟩,?_⟩
 rintro _ w3 ⟨m,rfl,hm,q⟩
 refine ⟨fun hlt=>?_,fun hge=>hR w3 q.drop.drop⟩
 have hlt:m < (U.root :: U.ps).length:=by rw [List.length_cons]; omega
 have hms:((U.ps.length + 1:Nat) - ((m + 1:Nat):Int):Int).toNat < ((U.ps.length + 1:Nat) - (m:Int):Int).toNat:=by rw [List.length_cons] at hlt; omega
 obtain ⟨ad,ha,hb,c0⟩:=Has.int (St.has q (by decide)) (m:=m) hlt
 refine ⟨ad,ha,by omega,by omega,_,by simpa using c0,?_⟩
 rw [w64_succ (by rw [List.length_cons] at hlt; omega)]
 refine ⟨fun hz=>⟨⟨m + 1,rfl,hlt,q⟩,hms⟩,fun hnz=>⟨_,(TabS.cell q.drop).1,?_⟩⟩
 have hnz:¬ (U.root :: U.ps)[m]=0:=by first | exact hnz | simpa using hnz
 obtain ⟨a,e,b,he,hat⟩:=hC.get (List.getElem_mem hlt) hnz
 rw [← hat]
 have hmem:e∈es:=by rw [he]; simp
 refine Get_E q.up2 hH hmem fun w4 q=>?_
 refine St.al q fun wa3 q=>?_
 refine St.fill4 q fun wa7 q=>?_
 refine ⟨fun h=>absurd rfl h,fun _=>⟨_,q.cell0,fun hne=>absurd (hgn e hmem) hne,fun _=>⟨⟨m + 1,rfl,hlt,q.drop.up2.up2.sw.up2.sw.up2⟩,hms⟩⟩⟩
set_option maxHeartbeats 4000000 in
theorem Sectors_b (h : St w (DeskS k g cd D :: X)) (hH : Have D es) (hT : TabD es tg root L ps M) (hM : M ≤ 269) {R : Sl → Int → World → Prop}
   (hR:∀ sl w',St w' (Row EI T.y_int sl (nextT (allP es)) :: DeskS k g cd D :: X)→R sl 0 w'):F.bucket_Sectors (some (blk k)) root w R:=by
 apply E.bucket_Sectors
 unfold V.bucket_Sectors
 try simp -zeta only [ldC,soC,brC,bkA,slC,cnd_all,blk_add2,Nat.reduceAdd]
 have hle:=hT.many
 have hbl:=bktN_le L.length
 have hpn:=hT.plen
 refine load_st h hH hT hM fun t p w1 q=>⟨fun h=>absurd rfl h,fun _=>?_⟩
 simp -zeta only [Option.some.injEq,exists_eq_left']
 refine St.dr q fun wa1 q=>?_
 obtain ⟨a0,a1,a2,a3,a4,a5,a6⟩:=TabS.cell q
 have a5:p.pl.len=ps.length:=a5
 refine ⟨_,a2,_,a4,?_⟩
 refine St.al q fun wa2 q=>?_
 obtain ⟨_,_,_,_,a4,_,a6⟩:=TabS.cell q.drop
 refine ⟨a4,?_⟩
 have hnil:NilOk p.pl:=Row.nilOk (TabS.parts q.drop).2.sw
 have q:=St.rowLit q (En:=EI) (xs:=[root]) (n:=1) rfl rfl (by decide)
 have a6:Has EI _ p.pl ps:=a6
 refine St.appN elt_int q a6 hnil (by simp only [List.length_singleton]; omega) (by simp only [List.length_singleton]; omega) fun l1 w2 q hl1=>?_
 have hl1:l1.len=ps.length + 1:=by rw [hl1,List.length_singleton]; omega
 have hall:[root] ++ ps=root :: ps:=rfl
 rw [hall] at q
 have hnd:=hT.cov.all hH
 have hdl:=hH.free
 have hDl:=hH.len
 have htl:∀ m,((nz ((root :: ps).take m)).flatMap (psOf es)).length≤2000:=fun m=>by
   have h2:((nz ((root :: ps).take m)).flatMap (psOf es)).length≤((nz (root :: ps)).flatMap (psOf es)).length:=flat_sub (List.Sublist.filter _ (List.take_sublist _ _))
   rw [hnd.length_eq] at h2
   omega
 refine ⟨fun out n w'=>∃ m:Nat,n=m∧m≤ps.length + 1∧St w' (Row EI T.y_int out ((nz ((root :: ps).take m)).flatMap (psOf es)) :: Row EI T.y_int l1 (root :: ps) :: DeskS k g cd D :: X),fun _ n _=>((ps.length + 1:Nat) - n:Int).toNat,⟨0,rfl,Nat.zero_le _,St.row0 q.d2 EI T.y_int⟩,?_⟩
 rintro out _ w4 ⟨m,rfl,hm,q⟩
 refine ⟨fun hlt=>?_,fun hge=>?_⟩
 · have hlt:m < (root :: ps).length:=by rw [List.length_cons]; omega
   have hms:((ps.length + 1:Nat) - ((m + 1:Nat):Int):Int).toNat < ((ps.length + 1:Nat) - (m:Int):Int).toNat:=by rw [List.length_cons] at hlt; omega
   obtain ⟨ad,ha,hb,c0⟩:=Has.int (St.has q.sw (by decide)) (m:=m) hlt
   have hnt:=nz_take hlt
   have ht1:=htl m
   refine ⟨ad,ha,by omega,by omega,_,by simpa using c0,?_⟩
   rw [w64_succ (by rw [List.length_cons] at hlt; omega)]
   refine ⟨fun hz=>⟨⟨m + 1,rfl,hlt,?_⟩,hms⟩,fun hnz=>?_⟩
   · have hz:(root :: ps)[m]=0:=by first | exact hz | simpa using hz
     rw [hnt,if_pos hz]; exact q
   have hnz:¬ (root :: ps)[m]=0:=by first | exact hnz | simpa using hnz
   obtain ⟨a,e,b,he,hat⟩:=hT.cov.get (List.getElem_mem hlt) hnz
   have hmem:e∈es:=by rw [he]; simp
   have hpe:=psOf_at hH hmem
   have ht2:=htl (m + 1)
   rw [hnt,if_neg hnz,List.flatMap_append,List.length_append] at ht2
   simp only [List.flatMap_cons,List.flatMap_nil,List.append_nil] at ht2
   rw [← hat,hpe] at ht2
   rw [← hat]
   refine Sectors_E q.up2 hH hmem fun l2 w5 q=>⟨fun h=>absurd rfl h,fun _=>?_⟩
   refine St.appN elt_int q.up2 (St.has q (by decide)) (Row.nilOk q) (by omega) (by omega) fun l3 w6 q _=>⟨⟨m + 1,rfl,hlt,?_⟩,hms⟩
   rw [hnt,if_neg hnz,List.flatMap_append]
   simp only [List.flatMap_cons,List.flatMap_nil,List.append_nil]
   rw [← hat,hpe]
   -- out, row, desk, places
   exact q.d2.up2.sw
 · have hmm:m=ps.length + 1:=by omega
   subst hmm
   have htk:(root :: ps).take (ps.length + 1)=root :: ps:=List.take_of_length_le (by rw [List.length_cons]; exact Nat.le_refl _)
   have ht1:=htl (ps.length + 1)
   rw [htk] at q ht1
   refine Sort_I q (by omega) fun w7 q=>?_
   have es2:(((nz (root :: ps)).flatMap (psOf es)).mergeSort fun x y=>decide (x≤y))=nextT (allP es):=by
     have hp:((nz (root :: ps)).flatMap (psOf es)).Perm (nextT (allP es)):=hnd.trans ((List.perm_ext_iff_of_nodup hH.nd (nodup_nextT _)).2 fun a=>((nextT_up _).2 a).symm)
     have:=mergeSort_of_perm_i hp
     have e1:(fun x y:Int=>decide (x≤y))=leI:=rfl
     rw [e1,this,← e1]
     exact mergeSort_up _ (nextT_up _).1
   rw [es2] at q
   exact hR out w7 q.d2
end
end Go.Proofs.YtgacpkgaogiocaaGreatDoor
