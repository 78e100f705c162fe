/- a table of buckets: Check. -/
import Derived.Test.YtgacpkgaogiocaaGreatDoorEu
set_option linter.unusedVariables false
namespace Go.Proofs.YtgacpkgaogiocaaGreatDoor
open Go Go.Vc Go.RowKit Go.Lib Go.Maps
section
variable {w:World} {X:List As} {t k g c cd:Nat} {U:Tb} {D:DkV} {es:List Ent} {gen root:Int} {L:List Ey} {ps:List Int} {M:Nat}
theorem lens_sum (L:List Ey) (nb:Nat):∀ m,(((List.range m).map fun n=>(bk L nb n).length).sum)≤m * L.length
 | 0=>by simp
 | m + 1=>by
   rw [List.range_succ,List.map_append,List.sum_append]
   have h1:=lens_sum L nb m
   have h2:=bk_len L nb m
   have:(m + 1) * L.length=m * L.length + L.length:=Nat.succ_mul _ _
   simp only [List.map_cons,List.map_nil,List.sum_cons,List.sum_nil]
   omega
set_option maxHeartbeats 4000000 in
theorem Check_b (h : St w (DeskS k g cd D :: X)) (hH : Have D es) (hT : TabD es gen root L ps M) (hM : M ≤ 269) {R : Int → World → Prop}
   (hR:∀ w',St w' (DeskS k g cd D :: X)→R 0 w'):F.bucket_Check (some (blk k)) gen root w R:=by
 apply E.bucket_Check
 unfold V.bucket_Check
 try simp -zeta only [ldC,soC,brC,bkA,slC,cnd_all,blk_add2,Nat.reduceAdd]
 have hle:=hT.many
 have hbl:=bktN_le L.length
 have hpn:=hT.plen
 have hok:∀ nb i,∀ x∈bk L nb i,okE x:=fun nb i x hx=>hT.ok x (bk_sub x hx)
 have hbl2:∀ nb i,(bk L nb i).length≤269:=fun nb i=>Nat.le_trans (bk_len L _ _) (by omega)
 refine load_st h hH hT hM fun t p w1 q=>⟨fun h=>absurd rfl h,fun _=>?_⟩
 simp -zeta only [Option.some.injEq,exists_eq_left']
 obtain ⟨a0,a1,a2,a3,a4,a5,a6⟩:=TabS.cell q
 have a5:p.pl.len=ps.length:=a5
 have c4:=fun {w':World} {c':Nat} {kn:Kn} {rows:Rw} {Y:List As} (q:St w' (TabS t k c' (rdU gen root L.length ps p kn rows) :: Y))=>(TabS.cell q).2.2.2.2.1
 refine ⟨_,a4,?_⟩
 show ∃ J m,_
 have hls:=lens_sum L ps.length
 have hmm:∀ m,m≤ps.length→m * L.length≤100000:=fun m hm=>by
   have:m * L.length≤269 * 269:=Nat.mul_le_mul (by omega) (by omega)
   omega
 refine ⟨fun many n w'=>∃ (m:Nat) (kn:Kn) (rows:Rw),n=m∧many=((((List.range m).map fun n=>(bk L ps.length n).length).sum:Nat):Int)∧m≤ps.length∧MemB es gen ps (bk L ps.length) kn (fun _=>none)∧St w' (TabS t k m (rdU gen root L.length ps p kn rows) :: DeskS k g cd D :: X),fun _ n _=>((ps.length:Int) - n).toNat,⟨0,_,_,rfl,rfl,Nat.zero_le _,hT.none,q⟩,?_⟩
 rintro _ _ w2 ⟨m,kn,rows,rfl,rfl,hm,M2,q⟩
 refine ⟨fun hlt=>?_,fun hge=>?_⟩
 · have hlt:(m:Int) < ((p.pl.len:Nat):Int):=hlt
   have hlt:m < ps.length:=by omega
   have hms:((ps.length:Int) - ((m + 1:Nat):Int)).toNat < ((ps.length:Int) - (m:Int)).toNat:=by omega
   refine bucket_st q hH M2 hlt (hok _ _) (hbl2 _ _) (by omega) fun w3 kn3 rows3 l1 M3 hin _ q=>⟨fun h=>absurd rfl h,fun _=>?_⟩
   have hsr:=bk_srt hT.srt ps.length m
   have hlo:=hok ps.length m
   have hll:=hbl2 ps.length m
   have hmem:∀ x∈bk L ps.length m,slotN (hashE x) ps.length=m:=fun x hx=>(bk_mem.1 hx).2
   have hsum:(((List.range (m + 1)).map fun n=>(bk L ps.length n).length).sum)=((List.range m).map fun n=>(bk L ps.length n).length).sum + (bk L ps.length m).length:=by
     rw [List.range_succ,List.map_append,List.sum_append]; simp
   have hs1:=hls m
   have hs2:=hmm m hm
   generalize bk L ps.length m=l at *
   have q:St w3 (TabS t k (m + 1) (rdU gen root L.length ps p kn3 rows3) :: DeskS k g cd D :: X):=q
   have hin:InR (rdU gen root L.length ps p kn3 rows3).rows l1 l:=hin
   have hl1:=(TabS.has q hin).1.1
   refine ⟨fun n w'=>∃ j:Nat,n=j∧j≤l.length∧St w' (TabS t k (m + 1) (rdU gen root L.length ps p kn3 rows3) :: DeskS k g cd D :: X),fun n _=>((l.length:Int) - n).toNat,⟨0,rfl,Nat.zero_le _,q⟩,?_⟩
   rintro _ w4 ⟨j,rfl,hj,q⟩
   refine ⟨fun hjl=>?_,fun hjg=>?_⟩
   · have hjl:j < l.length:=by omega
     have hjs:((l.length:Int) - ((j + 1:Nat):Int)).toNat < ((l.length:Int) - (j:Int)).toNat:=by omega
     obtain ⟨ad,ha,hb,c0,c1,c2⟩:=Has.ey (TabS.has q hin).1 hjl
     refine ⟨ad,ha,by omega,by omega,_,c0,_,c1,_,c2,?_⟩
     refine St.al q fun wa1 q=>?_
     refine St.fill3 q fun wa4 q=>?_
     refine St.dr q fun wa5 q=>?_
     refine ⟨_,q.cell0,_,q.cell 1,_,c4 q.drop,Hash_any q (hlo l[j] (List.getElem_mem _)).hash fun w9 q=>⟨c4 q.drop,?_⟩⟩
     rw [w64_succ (by omega)]
     have hsl:=hmem l[j] (List.getElem_mem _)
     have hpl:(rdU gen root L.length ps p kn3 rows3).p.pl.len=ps.length:=a5
     rw [hpl]
     refine Slot_any (by omega) ⟨?_,?_⟩
     · rw [← hpl]; exact c4 q.drop
     rw [hsl]
     refine ⟨fun hne=>absurd rfl hne,fun _=>⟨fun hpos=>?_,fun hno=>⟨?_,⟨j + 1,rfl,hjl,q.drop⟩,hjs⟩⟩⟩
     · have hpos:0 < j:=by omega
       have e1:w64 ((j:Int) - 1)=((j - 1:Nat):Int):=by rw [w64_id (by omega) (by omega)]; omega
       rw [e1]
       obtain ⟨ad,ha,hb,c0,c1,c2⟩:=Has.ey (TabS.has q.drop hin).1 (m:=j - 1) (by omega)
       refine ⟨ad,ha,by omega,by omega,_,c0,_,c1,_,c2,_,q.cell0,_,q.cell 1,_,q.cell 2,compare_st q fun w11 _ q=>⟨?_,fun hge=>?_,fun _=>⟨⟨j + 1,rfl,hjl,q.drop⟩,hjs⟩⟩⟩
       · rw [← hpl]; exact c4 q.drop
       · have h2:=(cfE_lt _ _).2 (srt_lt hsr (i:=j - 1) (j:=j) (by omega) hjl (by omega))
         omega
     · rw [← hpl]; exact c4 q.drop
   · have hmn : w64 (((((List.range m).map fun n => (bk L ps.length n).length).sum : Nat) : Int) + ((l1.len : Nat) : Int)) = ((((List.range (m + 1)).map fun n => (bk L ps.length n).length).sum : Nat) : Int) := by
       rw [w64_id (by omega) (by omega),hsum]; omega
     rw [hmn,w64_succ (by omega)]
     exact ⟨⟨m + 1,kn3,rows3,rfl,rfl,hlt,M3,q⟩,hms⟩
 · have hge:¬ (m:Int) < ((p.pl.len:Nat):Int):=hge
   have hme:m=ps.length:=by omega
   subst hme
   obtain ⟨a0,a1,a2,a3,a4,a5,a6⟩:=TabS.cell q
   have hsum:((List.range ps.length).map fun n=>(bk L ps.length n).length).sum=L.length:=by
     by_cases h0:ps.length=0
     · have hL:L=[]:=List.eq_nil_of_length_eq_zero (Decidable.byContradiction fun hne=>bktN_pos hne (by omega))
       rw [h0,hL]; rfl
     · exact bk_lens hT.srt h0
   rw [hsum]
   exact ⟨_,a3,fun hne=>absurd rfl hne,fun _=>forms_st q hH hT.cov hT.gens hR⟩
end
end Go.Proofs.YtgacpkgaogiocaaGreatDoor

/- masonrylaw17.alive; masonryref17.Slot; BucketSlots. -/
set_option linter.unusedVariables false
namespace Go.Proofs.YtgacpkgaogiocaaGreatDoor
open Go Go.Vc Go.RowKit Go.Lib Go.Maps
def abcB:Bs:=[97,98,99]
section
variable {w:World} {X:List As}
theorem print_ok (s:Bs) {a:Int} (h:1≤a∧a < 2000):okE ⟨1,sumK 1 s,a⟩:=⟨.inl rfl,sumK_len (.inl rfl) s,h⟩
theorem add_two {p:Bs} (h7:okE ⟨1,p,7⟩) (h3:okE ⟨1,p,3⟩):allF addS [] [⟨1,p,7⟩,⟨1,p,3⟩]=([⟨1,p,3⟩,⟨1,p,7⟩],0):=by
 have e1:addS ([],0) ⟨1,p,7⟩=([⟨1,p,7⟩],0):=by
   unfold addS
   rw [if_neg (by simp),if_neg (fun h=>h h7),if_neg (by simp),if_neg (by simp)]
   rfl
 have e2:addS ([⟨1,p,7⟩],0) ⟨1,p,3⟩=([⟨1,p,3⟩,⟨1,p,7⟩],0):=by
   unfold addS
   rw [if_neg (by simp),if_neg (fun h=>h h3),if_neg (by simp),if_neg (by simp)]
   have hn:¬ ltE ⟨1,p,7⟩ ⟨1,p,3⟩:=by
     unfold ltE
     rintro (h | ⟨_,h | ⟨_,h⟩⟩)
     · have h:(1:Int) < 1:=h
       omega
     · exact bs_irrefl _ h
     · have h:(7:Int) < 3:=h
       omega
   have hc:cntE [(⟨1,p,7⟩:Ey)] ⟨1,p,3⟩=0:=by unfold cntE; simp [hn]
   unfold insE
   rw [hc]; rfl
 unfold allF
 rw [List.foldl_cons,e1,List.foldl_cons,e2]; rfl
set_option maxHeartbeats 2000000 in
theorem alive17_st (h:St w X) {R:Bool→World→Prop} (hR:∀ w',St w' X→R true w'):F.masonrylaw17_alive w R:=by
 apply E.masonrylaw17_alive
 unfold V.masonrylaw17_alive
 try simp -zeta only [ldC,soC,brC,bkA,slC,cnd_all,blk_add2,Nat.reduceAdd]
 refine Fresh_st h (n:=150) (by decide) (by decide) fun k g w1 q=>?_
 simp -zeta only [Option.isNone_some,Bool.false_eq_true,false_implies,true_and,forall_const,true_implies]
 refine RefPrint_st q (kind:=1) (.inl rfl) (s:=abcB) (by decide) fun w2 q=>?_
 generalize hp:sumK 1 abcB=p
 refine St.al q fun wa1 q=>?_
 refine St.fill2 q fun wa3 q=>?_
 refine ⟨_,q.cell0,_,q.cell 1,_,q.cell0,_,q.cell 1,?_⟩
 refine St.al q fun wa4 q=>?_
 have h7:okE ⟨1,p,7⟩:=by rw [← hp]; exact print_ok abcB (by decide)
 have h3:okE ⟨1,p,3⟩:=by rw [← hp]; exact print_ok abcB (by decide)
 have hadd:=add_two h7 h3
 have hl:(fmt0 150).bs.length=39:=by rw [fmt0_bs,bs0_len]
 have hps:p.length=20:=h7.2.1
 refine Add_st q.up2 (Have.fmt (by decide) (by decide)) (TabD.empty (M:=2) 1) (by decide) (by decide) (by rw [hl]; decide) (xs:=[⟨1,p,7⟩,⟨1,p,3⟩]) (fun w' hw=>hw.lit (En:=EE) (xs:=[⟨1,p,7⟩,⟨1,p,3⟩]) rfl rfl 2) (by simp) (fun x hx=>by
   simp only [List.mem_cons,List.not_mem_nil,or_false] at hx
   rcases hx with rfl | rfl <;> (show p.length≤_; omega)) (by decide) (fun w' e he hne _=>absurd (by rw [← he,hadd]) hne) fun w6 D' es' root' ps' _ hH hS hT q=>?_
 rw [hadd] at hT
 refine ⟨_,q.up2.cell0,_,q.up2.cell 1,Find_st q hH hT (by decide) (by omega) fun l w7 q=>?_⟩
 have hf:findE ([(⟨1,p,3⟩:Ey),⟨1,p,7⟩],(0:Int)).1 ((1:Nat):Int) p=[3,7]:=by simp [findE]
 rw [hf] at q
 have hh:=St.has q (by decide)
 obtain ⟨a0,ha0,hb0,c0⟩:=Has.int hh (m:=0) (by decide)
 obtain ⟨a1,ha1,hb1,c1⟩:=Has.int hh (m:=1) (by decide)
 have hl2:l.len=2:=hh.1
 refine ⟨fun _=>⟨fun _=>⟨fun _=>⟨a0,ha0,by decide,by omega,_,c0,fun _=>⟨a1,ha1,by decide,by omega,_,c1,fun _=>Check_b q.sw hH hT (by decide) fun w8 q=>?_,fun h=>absurd rfl h⟩,fun h=>absurd rfl h⟩,fun h=>absurd (by omega) h⟩,fun h=>absurd rfl h⟩,fun h=>absurd rfl h⟩
 exact hR _ q.drop.drop.drop.drop
end
end Go.Proofs.YtgacpkgaogiocaaGreatDoor

/- masonryref17: a list of entries, in order. -/
set_option linter.unusedVariables false
namespace Go.Proofs.YtgacpkgaogiocaaGreatDoor
open Go Go.Vc Go.RowKit Go.Lib Go.Maps
theorem elt_el:Elt Pg T.y_masonryref17_List T.y_api_Entry 3 32:=by
 obtain ⟨i,hi,hz,h1,h2⟩:=info_ey
 exact ⟨by kernel_rfl,⟨i,_,hi,hz,h1,h2,rfl⟩,by decide⟩
theorem Has.preE {w:World} {l:Sl} {xs:List Ey} (h:Has EE w l xs) {k:Nat} (hk:k≤xs.length):Has EE w ⟨l.a,k,l.cap⟩ (xs.take k):=by
 have h2:=h
 rw [← List.take_append_drop k xs] at h2
 exact Has.pre (sl:=⟨l.a,k,l.cap⟩) h2 rfl (by rw [List.length_take]; show k=_; omega)
theorem Has.dropE {w:World} {l:Sl} {xs:List Ey} (h:Has EE w l xs) (hc:l.len≤l.cap) {k:Nat} (hk:k≤xs.length):Has EE w ⟨slA l.a l.cap k 3,l.len - k,l.cap - k⟩ (xs.drop k):=by
 have hl:=h.1
 refine ⟨by rw [List.length_drop]; show l.len - k=_; omega,fun j x hj=>?_⟩
 rw [List.getElem?_drop] at hj
 obtain ⟨a,ha,hcell⟩:=h.2 _ _ hj
 have hlt:k + j < xs.length:=(List.getElem?_eq_some_iff.1 hj).1
 refine ⟨a.add (k * 3),?_,fun i u hu=>?_⟩
 · show slA l.a l.cap k 3=_
   unfold slA
   rw [if_neg (by omega),ha]; rfl
 · have:=hcell i u hu
   rw [add_add]
   have e:k * 3 + (j * EE.n + i)=(k + j) * EE.n + i:=by show k * 3 + (j * 3 + i)=(k + j) * 3 + i; omega
   rw [e]; exact this
theorem nil_pre {l:Sl} (hn:NilOk l) (hc:l.len≤l.cap) {k:Nat} (hk:k≤l.len):NilOk ⟨l.a,k,l.cap⟩:=fun ha=>by
 have hz:=hn ha
 have h0:l.len=0:=by rw [hz]
 have:k=0:=by omega
 rw [this,hz]
theorem nil_drop {l:Sl} (hn:NilOk l) {k:Nat}:NilOk ⟨slA l.a l.cap k 3,l.len - k,l.cap - k⟩:=fun ha=>by
 have h2:l.a=none:=by
   cases hl:l.a with
   | none=>rfl
   | some a=>
     have ha:slA l.a l.cap k 3=none:=ha
     rw [hl] at ha
     unfold slA at ha
     split at ha <;> cases ha
 have hz:=hn h2
 rw [hz]
 simp [slA]
section
variable {w:World} {X:List As}
theorem RefCmp_st (h:St w X) {a b:Int} {s u:Bs} {R:Int→World→Prop} (hR:∀ w',St w' X→R (if a < b∨(a=b∧s < u) then -1 else if a=b∧s=u then 0 else 1) w'):F.masonryref1_Compare a (tx s) b (tx u) w R:=by
 apply E.masonryref1_Compare
 unfold V.masonryref1_Compare
 try simp -zeta only [ldC,soC,brC,bkA,slC,cnd_all,blk_add2,Nat.reduceAdd]
 refine St.al h fun wa1 h=>?_
 refine St.al h fun wa2 h=>?_
 refine ⟨fun v w'=>v=decide (a < b∨(a=b∧s < u))∧St w' _,⟨_,h.sw.cell0,_,h.cell0,fun hlt=>⟨(decide_eq_true (.inl hlt)).symm,h⟩,fun hnlt=>⟨_,h.sw.cell0,_,h.cell0,fun heq=>⟨_,h.sw.cell 1,_,h.cell 1,?_,h⟩,fun hne=>⟨?_,h⟩⟩⟩,?_⟩
 · rw [tx_lt,bless,decide_eq_decide]
   exact ⟨fun k=>.inr ⟨heq,k⟩,fun k=>k.elim (fun k=>absurd k hnlt) fun k=>k.2⟩
 · symm
   exact decide_eq_false fun k=>k.elim hnlt fun k=>hne k.1
 rintro v w2 ⟨rfl,h⟩
 refine ⟨fun ht=>?_,fun hf=>⟨_,h.sw.cell0,_,h.sw.cell 1,_,h.cell0,_,h.cell 1,?_⟩⟩
 · have:=hR w2 h.drop.drop
   rw [if_pos (of_decide_eq_true ht)] at this; exact this
 · have hf:=of_decide_eq_false hf
   have:=hR w2 h.drop.drop
   rw [if_neg hf] at this
   rw [tx_eq]
   refine ⟨fun ht=>?_,fun hn=>?_⟩
   · have ht:a=b∧s=u:=by simpa using ht
     rw [if_pos ht] at this; exact this
   · have hn:¬ (a=b∧s=u):=by simpa using hn
     rw [if_neg hn] at this; exact this
theorem Ahead_st (h:St w X) {x y:Ey} {R:Bool→World→Prop} (hR:∀ w',St w' X→R (decide (ltE x y)) w'):F.masonryref17_Ahead x.k (tx x.s) x.a y.k (tx y.s) y.a w R:=by
 apply E.masonryref17_Ahead
 unfold V.masonryref17_Ahead
 try simp -zeta only [ldC,soC,brC,bkA,slC,cnd_all,blk_add2,Nat.reduceAdd]
 refine St.al h fun wa1 h=>?_
 refine St.al h fun wa2 h=>?_
 refine ⟨_,h.sw.cell0,_,h.sw.cell 1,_,h.cell0,_,h.cell 1,RefCmp_st h fun w2 h=>?_⟩
 have hr:=hR w2 h.drop.drop
 by_cases h1:x.k < y.k∨(x.k=y.k∧x.s < y.s)
 · rw [if_pos h1]
   refine ⟨fun _=>?_,fun hn=>absurd (by decide) hn⟩
   rw [decide_eq_true (show ltE x y from h1.imp id fun k=>⟨k.1,.inl k.2⟩)] at hr; exact hr
 · rw [if_neg h1]
   by_cases h2:x.k=y.k∧x.s=y.s
   · rw [if_pos h2]
     refine ⟨fun hn=>absurd hn (by decide),fun _=>⟨fun _=>⟨_,h.sw.cell 2,_,h.cell 2,?_⟩,fun hn=>absurd rfl hn⟩⟩
     have e:decide (x.a < y.a)=decide (ltE x y):=by
       rw [decide_eq_decide]
       unfold ltE
       exact ⟨fun k=>.inr ⟨h2.1,.inr ⟨h2.2,k⟩⟩,fun k=>k.elim (fun k=>absurd (.inl k) h1) fun k=>k.2.elim (fun k2=>absurd (.inr ⟨h2.1,k2⟩) h1) fun k=>k.2⟩
     rw [e]; exact hr
   · rw [if_neg h2]
     refine ⟨fun hn=>absurd hn (by decide),fun _=>⟨fun hn=>absurd hn (by decide),fun _=>?_⟩⟩
     rw [decide_eq_false (fun k=>by
       unfold ltE at k
       exact k.elim (fun k=>h1 (.inl k)) fun k=>k.2.elim (fun k2=>h1 (.inr ⟨k.1,k2⟩)) fun k2=>h2 ⟨k.1,k2.1⟩)] at hr
     exact hr
theorem RefSize_st {k:Int} {R:Int→World→Prop} (hR:R (szN k.toNat:Int) w):F.masonryref1_Size k w R:=by
 apply E.masonryref1_Size
 unfold V.masonryref1_Size
 try simp -zeta only [ldC,soC,brC,bkA,slC,cnd_all,blk_add2,Nat.reduceAdd]
 unfold szN at hR
 refine ⟨fun e=>?_,fun n1=>⟨fun e=>?_,fun n2=>?_⟩⟩
 · rw [if_pos (by omega)] at hR; exact hR
 · rw [if_neg (by omega),if_pos (by omega)] at hR; exact hR
 · rw [if_neg (by omega),if_neg (by omega)] at hR; exact hR
theorem RefValidP_st (h:St w X) {k:Int} {s:Bs} {R:Bool→World→Prop} (hR:∀ w',St w' X→R (decide (0 < szN k.toNat∧s.length=szN k.toNat)) w'):F.masonryref1_ValidPrint k (tx s) w R:=by
 apply E.masonryref1_ValidPrint
 unfold V.masonryref1_ValidPrint
 try simp -zeta only [ldC,soC,brC,bkA,slC,cnd_all,blk_add2,Nat.reduceAdd]
 refine St.al h fun wa1 h=>?_
 refine St.dr h fun wa2 h=>?_
 refine ⟨_,h.cell0,RefSize_st ⟨fun hp=>⟨_,h.cell 1,_,h.cell0,RefSize_st ⟨h.cell 1,?_⟩⟩,fun hn=>?_⟩⟩
 · have:=hR _ h.drop
   have e:(((tx s).size:Int) == (szN k.toNat:Int))=decide (0 < szN k.toNat∧s.length=szN k.toNat):=by
     rw [tx_size,Bool.eq_iff_iff,beq_iff_eq,decide_eq_true_eq]
     constructor
     · intro h; exact ⟨by omega,by omega⟩
     · intro h; omega
   rw [e]; exact this
 · have:=hR _ h.drop
   rw [decide_eq_false (by omega)] at this
   exact this
theorem RefValid_st (h:St w X) {x:Ey} {R:Bool→World→Prop} (hR:∀ w',St w' X→R (decide (okE x)) w'):F.masonryref17_Valid x.k (tx x.s) x.a w R:=by
 apply E.masonryref17_Valid
 unfold V.masonryref17_Valid
 try simp -zeta only [ldC,soC,brC,bkA,slC,cnd_all,blk_add2,Nat.reduceAdd]
 refine St.al h fun wa1 h=>?_
 refine ⟨_,h.cell0,_,h.cell 1,RefValidP_st h fun w1 h1=>?_⟩
 have hr:=hR w1 h1.drop
 refine ⟨fun ht=>⟨_,h1.cell 2,fun ha=>⟨_,h1.cell 2,?_⟩,fun ha=>?_⟩,fun hf=>?_⟩
 · have e:decide (x.a < 2000)=decide (okE x):=by rw [decide_eq_decide,okE_iff]; exact ⟨fun h=>⟨of_decide_eq_true ht,ha,h⟩,fun h=>h.2.2⟩
   rw [e]; exact hr
 · rw [decide_eq_false (fun h=>ha ((okE_iff x).1 h).2.1)] at hr; exact hr
 · rw [decide_eq_false (fun h=>(of_decide_eq_false hf) ((okE_iff x).1 h).1)] at hr; exact hr
/-- the place of an entry, and is it there -/
theorem place_st (h : St w X) {sl : Sl} {xs : List Ey} (hx : ∀ w', St w' X → Has EE w' sl xs) (hs : Srt xs) (hb : xs.length ≤ 1000000) {x : Ey} {R : Int → Bool → World → Prop}
   (hR:∀ w',St w' X→R (cntE xs x:Int) (decide (x∈xs)) w'):F.masonryref17_List_place sl x.k (tx x.s) x.a w R:=by
 apply E.masonryref17_List_place
 unfold V.masonryref17_List_place
 try simp -zeta only [ldC,soC,brC,bkA,slC,cnd_all,blk_add2,Nat.reduceAdd]
 have h1:=(hx w h).1
 refine St.al h fun wa1 h=>?_
 generalize w.heap.size=g at *
 refine ⟨fun k w'=>k=(cntE xs x:Int)∧St w' (Cs g [.int .i64 x.k,.string (tx x.s),.int .i64 x.a] T.y_api_Entry :: X),⟨Cnt xs.length fun m w'=>(∀ k (hk:k < xs.length),k < m→ltE xs[k] x)∧St w' (Cs g [.int .i64 x.k,.string (tx x.s),.int .i64 x.a] T.y_api_Entry :: X),cntM xs.length,Cnt.zero ⟨fun k _ hk=>absurd hk (Nat.not_lt_zero k),h⟩,?_⟩,?_⟩
 · rintro _ w1 ⟨m,rfl,hm,hlo,h2⟩
   refine St.dr h2 fun wa2 h2=>?_
   refine ⟨fun hlt=>?_,fun hge=>?_⟩
   · have hlt:m < xs.length:=by omega
     obtain ⟨ad,ha,hb2,c0,c1,c2⟩:=Has.ey (hx _ h2.drop) hlt
     refine ⟨ad,ha,by omega,by omega,_,c0,_,c1,_,c2,_,h2.cell0,_,h2.cell 1,_,h2.cell 2,Ahead_st h2 fun w3 h3=>⟨fun ht=>Cnt.next hlt (by omega) ⟨fun k hk hk2=>?_,h3⟩,fun hf=>⟨?_,h3⟩⟩⟩
     · have ht:=of_decide_eq_true ht
       rcases Nat.lt_or_ge k m with c | c
       · exact hlo k hk c
       · have:k=m:=by omega
         subst this; exact ht
     · have hf:=of_decide_eq_false hf
       have:=cnt_uniq (l:=xs) (x:=x) hm hlo fun k hk hk2=>by
         rcases Nat.lt_or_ge m k with c | c
         · exact fun k2=>hf (ltE_trans (srt_lt hs hlt hk c) k2)
         · have:k=m:=by omega
           subst this; exact hf
       rw [this]
   · have hmm:m=xs.length:=by omega
     subst hmm
     have:=cnt_uniq (l:=xs) (x:=x) (Nat.le_refl _) hlo fun k hk hk2=>absurd hk (by omega)
     exact ⟨by rw [this],h2⟩
 rintro _ w4 ⟨rfl,h2⟩
 have hcl:=cntE_le xs x
 have hat:=srt_at hs x
 refine St.dr h2 fun wa3 h2=>?_
 refine ⟨fun hlt=>?_,fun hge=>?_⟩
 · have hlt:cntE xs x < xs.length:=by omega
   obtain ⟨ad,ha,hb2,c0,c1,c2⟩:=Has.ey (hx _ h2.drop) hlt
   refine ⟨ad,ha,by omega,by omega,_,c0,_,c1,_,c2,_,h2.cell0,_,h2.cell 1,_,h2.cell 2,?_⟩
   rw [ey_eq]
   have e:decide (xs[cntE xs x]=x)=decide (x∈xs):=by
     rw [decide_eq_decide,hat,List.getElem?_eq_getElem hlt]
     exact ⟨fun h=>by rw [h],fun h=>Option.some.inj h⟩
   rw [e]
   exact hR _ h2.drop
 · have hno : x ∉ xs := fun hm => by
     rw [hat,List.getElem?_eq_none (by omega)] at hm
     cases hm
   have:=hR _ h2.drop
   rw [decide_eq_false hno] at this; exact this
/-- a list that is a given one, or has a row of its own -/
def Nw (X:List As) (l:Sl) (L:List Ey) (now:Sl) (acc:List Ey) (w:World):Prop:=(now=l∧acc=L∧St w X)∨St w (Row EE T.y_api_Entry now acc :: X)
theorem Nw.open {l now : Sl} {L acc : List Ey} (h : Nw X l L now acc w) (hl : ∀ w', St w' X → Has EE w' l L) (hn : NilOk l) (hc : l.len ≤ l.cap) :
   ∃ Z,St w Z∧(∀ w',St w' Z→Has EE w' now acc)∧NilOk now∧now.len≤now.cap∧(∀ w',St w' Z→St w' X)∧(∀ w' A,St w' (A :: Z)→St w' (A :: X))∧∀ w',St w' Z→Nw X l L now acc w':=by
 rcases h with ⟨rfl,rfl,h⟩ | h
 · exact ⟨X,h,hl,hn,hc,fun _ h=>h,fun _ _ h=>h,fun _ h=>.inl ⟨rfl,rfl,h⟩⟩
 · exact ⟨_,h,fun _ h=>St.has h (by decide),Row.nilOk h,Row.cap h,fun _ h=>h.drop,fun _ _ h=>h.d2,fun _ h=>.inr h⟩
end
end Go.Proofs.YtgacpkgaogiocaaGreatDoor
