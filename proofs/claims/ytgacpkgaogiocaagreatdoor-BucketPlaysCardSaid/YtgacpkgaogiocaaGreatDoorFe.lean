/- masonrybook.Book: lists of Ints that are kept: one more; still as they were; marked; grown. -/
import Derived.Test.YtgacpkgaogiocaaGreatDoorFd
set_option linter.unusedVariables false
namespace Go.Proofs.YtgacpkgaogiocaaGreatDoor
open Go Go.Vc Go.RowKit Go.Lib
def mkI (i k:Nat):Int:=-1000000 * (i:Int) - k - 7
abbrev RowI (l:Sl) (xs:List Int):As:=Row EI T.y_int l xs
abbrev RsI (ks:List (Kq Int)):As:=Rows' EI T.y_int ks
abbrev RowLI (l:Sl) (ks:List (Kq Int)):As:=Row ESl T.y_sl_int l (fstQ ks)
theorem eltslI:Elt Pg T.y_sl_sl_int T.y_sl_int 1 24:=by
 refine ⟨by kernel_rfl,?_,by decide⟩
 have h:(Pg.info? T.y_sl_int).map (fun i=>(i.zero,i.size,i.bytes))=some (some (.slice none 0 0),1,24):=by kernel_rfl
 obtain ⟨i,hi,h2⟩:=Option.map_eq_some_iff.1 h
 simp only [Prod.mk.injEq] at h2
 exact ⟨i,_,hi,h2.1,h2.2.1,h2.2.2,rfl⟩
section
variable {w:World} {X:List As}
theorem markI_st (h:St w X) {i a n:Nat} (hi:i≤1000) (hn:a + n≤100000000) {R:Sl→World→Prop} (hR:∀ o w',St w' (RowI o (mkN mkI i a n) :: X)→R o w'):F.masonrybook_markInts (i:Int) (a:Int) (n:Int) w R:=by
 apply E.masonrybook_markInts
 unfold V.masonrybook_markInts
 try simp -zeta only [ldC,soC,brC,bkA,slC,cnd_all,blk_add2,Nat.reduceAdd]
 have e0:w64 ((a:Int) + n)=((a + n:Nat):Int):=by rw [w64_id (by omega) (by omega)]; omega
 rw [e0]
 refine ⟨fun o k w'=>∃ m:Nat,k=((a + m:Nat):Int)∧m≤n∧St w' (RowI o (mkN mkI i a m) :: X),fun _ k _=>(((a + n:Nat):Int) - k).toNat,⟨0,rfl,Nat.zero_le _,h.row0 EI T.y_int⟩,?_⟩
 rintro o k w1 ⟨m,rfl,hm,h1⟩
 refine ⟨fun hlt=>?_,fun hge=>?_⟩
 · have hlt:m < n:=by omega
   have e1:w64 (w64 (w64 (-1000000 * (i:Int)) - ((a + m:Nat):Int)) - 7) = -1000000 * (i:Int) - ((a + m:Nat):Int) - 7:=by
     rw [w64_id (x:=-1000000 * (i:Int)) (by omega) (by omega),w64_id (x:=-1000000 * (i:Int) - ((a + m:Nat):Int)) (by omega) (by omega),w64_id (by omega) (by omega)]
   rw [e1]
   refine St.al h1 fun wa1 h1=>?_
   refine St.app elt_int h1.sw (sl:=⟨some (blk w1.heap.size),1,1⟩) (ys:=[mkI i (a + m)]) (h1.lit (En:=EI) (xs:=[mkI i (a + m)]) rfl rfl 1) rfl (by simp only [mkN_len,List.length_singleton]; omega) (by simp only [mkN_len,List.length_singleton]; omega) fun o2 w2 h2 hl2=>?_
   rw [← mkN_succ] at h2
   have e2:w64 (((a + m:Nat):Int) + 1)=((a + (m + 1):Nat):Int):=by rw [w64_id (by omega) (by omega)]; omega
   rw [e2]
   exact ⟨⟨m + 1,rfl,hlt,h2.d2⟩,by show (((a + n:Nat):Int) - ((a + (m + 1):Nat):Int)).toNat < (((a + n:Nat):Int) - ((a + m:Nat):Int)).toNat; omega⟩
 · have hmm:m=n:=by omega
   subst hmm
   exact hR o w1 h1
theorem copyI_st (h:St w X) {sl:Sl} {xs:List Int} (hs:Has EI w sl xs) (hn:NilOk sl) (hb:xs.length≤1000000) {R:Sl→World→Prop} (hR:∀ l' w',St w' (RowI l' xs :: X)→R l' w'):F.masonrybook_copyInts sl w R:=by
 apply E.masonrybook_copyInts
 unfold V.masonrybook_copyInts
 refine St.copy (t:=T.y_int) (bytes:=8) elt_int h hs hn (by omega) (by omega) fun l' w' h'=>hR l' w' h'
end
section
variable {w:World} {X:List As} {g:Nat} {L W OL OW:Sl} {ks kw:List (Kq Int)}
/-- the book, what it keeps, the copies -/
abbrev bk5I (OL OW:Sl) (g:Nat) (L W:Sl) (ks kw:List (Kq Int)):List As:=[Cs g (bookC L W OL OW) T.y_masonrybook_Book,RowLI L ks,RowLI W kw,RsI ks,RsI kw]
set_option maxHeartbeats 1000000 in
theorem KeepI_st {l : Sl} {zs : List Int} (h : St w (RowI l zs :: (bk5I OL OW g L W ks kw ++ X))) (hn : ks.length < 250) (hn2 : kw.length < 250) (hz : zs.length ≤ 1000000) {R : World → Prop}
   (hR:∀ L' W' c w',St w' (bk5I OL OW g L' W' (ks ++ [(l,zs)]) (kw ++ [(c,zs)]) ++ X)→R w'):F.masonrybook_Book_Ints (some (blk g)) l w R:=by
 apply E.masonrybook_Book_Ints
 unfold V.masonrybook_Book_Ints
 try simp -zeta only [ldC,soC,brC,bkA,slC,cnd_all,blk_add2,Nat.reduceAdd]
 have h:St w (RowI l zs :: Cs g (bookC L W OL OW) T.y_masonrybook_Book :: RowLI L ks :: RowLI W kw :: RsI ks :: RsI kw :: X):=h
 have hl:=(h.up2.has (by decide)).1
 rw [fstQ_len] at hl
 refine ⟨L,h.sw.cell 2,fun _=>⟨L,h.sw.cell 2,?_⟩,fun hge=>by omega⟩
 refine St.al h fun wa1 h=>?_
 refine St.app eltslI h.up3 (sl:=⟨some (blk w.heap.size),1,1⟩) (ys:=[l]) (h.lit (En:=ESl) (xs:=[l]) rfl rfl 1) rfl (by simp [fstQ_len]; omega) (by simp [fstQ_len]; omega) fun L' w1 h1 hL1=>?_
 have h1:=h1.d2.up2
 have e1:fstQ ks ++ [l]=fstQ (ks ++ [(l,zs)]):=by simp [fstQ]
 rw [e1] at h1
 refine St.st h1 (by simp) fun wa2 h1=>?_
 simp only [List.set_cons_zero,List.set_cons_succ] at h1
 refine St.dr h1 fun wa3 h1=>?_
 refine ⟨W,h1.cell 3,?_⟩
 have hr:=h1.up2
 refine copyI_st h1 (xs:=zs) (hr.has (by decide)) (Row.nilOk hr) hz fun c w2 h2=>?_
 refine ⟨h2.sw.cell 3,?_⟩
 refine St.al h2 fun wa4 h2=>?_
 refine ⟨h2.up2.cell 3,?_⟩
 refine St.app eltslI h2.up5 (sl:=⟨some (blk w2.heap.size),1,1⟩) (ys:=[c]) (h2.lit (En:=ESl) (xs:=[c]) rfl rfl 1) rfl (by simp [fstQ_len]; omega) (by simp [fstQ_len]; omega) fun W' w3 h3 hW3=>?_
 have h3:=h3.d2.up2
 have e2:fstQ kw ++ [c]=fstQ (kw ++ [(c,zs)]):=by simp [fstQ]
 rw [e2] at h3
 refine St.st h3 (by simp) fun wa5 h3=>?_
 simp only [List.set_cons_zero,List.set_cons_succ] at h3
 -- Cs g, W', c, L', l, ks, kw
 have q1:St wa5 (RowI c zs :: RsI kw :: Cs g (bookC L' W' OL OW) T.y_masonrybook_Book :: RowLI W' (kw ++ [(c,zs)]) :: RowLI L' (ks ++ [(l,zs)]) :: RowI l zs :: RsI ks :: X):=h3.up6.up3
 have q2:=Rows'.snoc (p:=(c,zs)) q1
 have q3:St wa5 (RowI l zs :: RsI ks :: RsI (kw ++ [(c,zs)]) :: Cs g (bookC L' W' OL OW) T.y_masonrybook_Book :: RowLI W' (kw ++ [(c,zs)]) :: RowLI L' (ks ++ [(l,zs)]) :: X):=(q2.up5).up5
 have q4:=Rows'.snoc (p:=(l,zs)) q3
 have q5:St wa5 (Cs g (bookC L' W' OL OW) T.y_masonrybook_Book :: RowLI L' (ks ++ [(l,zs)]) :: RowLI W' (kw ++ [(c,zs)]) :: RsI (ks ++ [(l,zs)]) :: RsI (kw ++ [(c,zs)]) :: X):=(q4.up3.up4).up4
 exact hR L' W' c _ q5
theorem stillI_st (h : St w (bk5I OL OW g L W ks kw ++ X)) (hn : ks.length ≤ 250) (he : kw.map (·.2) = ks.map (·.2)) (hz : ∀ p ∈ ks, p.2.length ≤ 1000000) {R : Bool → World → Prop}
   (hR:∀ w',St w' (bk5I OL OW g L W ks kw ++ X)→R true w'):F.masonrybook_Book_stillInts (some (blk g)) w R:=by
 apply E.masonrybook_Book_stillInts
 unfold V.masonrybook_Book_stillInts
 try simp -zeta only [ldC,soC,brC,bkA,slC,cnd_all,blk_add2,Nat.reduceAdd]
 have hlen:kw.length=ks.length:=by have:=congrArg List.length he; simpa using this
 refine ⟨Cnt ks.length fun m w'=>St w' (bk5I OL OW g L W ks kw ++ X),cntM ks.length,Cnt.zero h,?_⟩
 rintro _ w1 ⟨m,rfl,hm,h1⟩
 have h1:St w1 (Cs g (bookC L W OL OW) T.y_masonrybook_Book :: RowLI L ks :: RowLI W kw :: RsI ks :: RsI kw :: X):=h1
 have hl:=(h1.sw.has (by decide)).1
 rw [fstQ_len] at hl
 refine ⟨L,h1.cell 2,fun hlt=>?_,fun _=>hR _ h1⟩
 have hlt:m < ks.length:=by omega
 refine St.dr h1 fun wa1 h1=>?_
 have g1:ks[m]? = some ks[m]:=by simp [hlt]
 have g2:kw[m]? = some (kw[m]'(by omega)):=by simp [hlen,hlt]
 obtain ⟨a1,ha1,hb1,c1⟩:=Has.sl (h1.sw.has (by decide)) (m:=m) (by rw [fstQ_len]; exact hlt)
 obtain ⟨a2,ha2,hb2,c2⟩:=Has.sl (h1.up2.has (by decide)) (m:=m) (by rw [fstQ_len]; omega)
 rw [fstQ_get (by omega)] at c1 c2
 have e2:(kw[m]'(by omega)).2=ks[m].2:=by
   have h3:(kw.map (·.2))[m]? = (ks.map (·.2))[m]?:=by rw [he]
   rw [List.getElem?_map,List.getElem?_map,g1,g2] at h3
   simpa using h3
 refine ⟨L,h1.cell 2,a1,ha1,by omega,by omega,ks[m].1,c1,W,h1.cell 3,a2,ha2,by omega,by omega,(kw[m]'(by omega)).1,c2,?_⟩
 have s1:∀ w',St w' (Cs g (bookC L W OL OW) T.y_masonrybook_Book :: RowLI L ks :: RowLI W kw :: RsI ks :: RsI kw :: X)→Has EI w' ks[m].1 ks[m].2:=fun w' hw=>Rows'.has hw.up3 (by decide) g1
 have s2:∀ w',St w' (Cs g (bookC L W OL OW) T.y_masonrybook_Book :: RowLI L ks :: RowLI W kw :: RsI ks :: RsI kw :: X)→Has EI w' (kw[m]'(by omega)).1 ks[m].2:=fun w' hw=>by
   have:=Rows'.has hw.up4 (by decide) g2
   rw [e2] at this; exact this
 refine SameI_st h1 s1 s2 (by have:=hz _ (List.getElem_mem hlt); omega) fun w2 h2=>?_
 rw [decide_eq_true rfl]
 exact ⟨h2.cell 3,h2.cell 2,fun h=>(by cases h),fun _=>Cnt.next hlt (by omega) h2⟩
set_option maxHeartbeats 2000000 in
theorem putI_st (h : St w (bk5I OL OW g L W ks kw ++ X)) (hn : ks.length ≤ 250) (hz : ∀ p ∈ ks, p.2.length ≤ 1000000) {R : World → Prop}
   (hR:∀ w',St w' (bk5I OL OW g L W (mkd mkI ks ks.length) kw ++ X)→R w'):F.masonrybook_Book_putInts (some (blk g)) w R:=by
 apply E.masonrybook_Book_putInts
 unfold V.masonrybook_Book_putInts
 try simp -zeta only [ldC,soC,brC,bkA,slC,cnd_all,blk_add2,Nat.reduceAdd]
 have h0:St w (bk5I OL OW g L W (mkd mkI ks 0) kw ++ X):=by
   have e:mkd mkI ks 0=ks:=by simp [mkd]
   rw [e]; exact h
 refine ⟨Cnt ks.length fun m w'=>St w' (bk5I OL OW g L W (mkd mkI ks m) kw ++ X),cntM ks.length,Cnt.zero h0,?_⟩
 rintro _ w1 ⟨m,rfl,hm,h1⟩
 have h1:St w1 (Cs g (bookC L W OL OW) T.y_masonrybook_Book :: RowLI L (mkd mkI ks m) :: RowLI W kw :: RsI (mkd mkI ks m) :: RsI kw :: X):=h1
 have h1:St w1 (Cs g (bookC L W OL OW) T.y_masonrybook_Book :: RowLI L ks :: RowLI W kw :: RsI (mkd mkI ks m) :: RsI kw :: X):=by
   have e:RowLI L (mkd mkI ks m)=RowLI L ks:=by unfold RowLI; rw [fstQ_mkd]
   rw [e] at h1; exact h1
 have hl:=(h1.sw.has (by decide)).1
 rw [fstQ_len] at hl
 refine ⟨L,h1.cell 2,fun hlt=>?_,fun hge=>?_⟩
 · have hlt:m < ks.length:=by omega
   obtain ⟨e1,e2⟩:=mkd_at mkI hlt
   have hzm:=hz _ (List.getElem_mem hlt)
   rw [e1] at h1
   obtain ⟨a1,ha1,hb1,c1⟩:=Has.sl (h1.sw.has (by decide)) (m:=m) (by rw [fstQ_len]; exact hlt)
   rw [fstQ_get hlt] at c1
   refine ⟨L,h1.cell 2,a1,ha1,by omega,by omega,ks[m].1,c1,?_⟩
   have h2:=Rows'.split h1.up3
   have hpl:=(h2.has (by decide)).1
   rw [hpl]
   refine markI_st (a:=0) h2 (by omega) (by omega) fun o w2 h3=>?_
   have hol:=(h3.has (by decide)).1
   rw [mkN_len] at hol
   generalize hN:ks[m].2.length=N at *
   refine ⟨Cnt N fun k w'=>St w' (RowI o (mkN mkI m 0 N) :: RowI ks[m].1 (mkN mkI m 0 k ++ ks[m].2.drop k) :: RsI ((ks.take m).mapIdx (mk1 mkI )) :: RsI (ks.drop (m + 1)) :: Cs g (bookC L W OL OW) T.y_masonrybook_Book :: RowLI L ks :: RowLI W kw :: RsI kw :: X),cntM N,Cnt.zero (by simpa [mkN] using h3),?_⟩
   rintro _ w3 ⟨k,rfl,hk,h4⟩
   refine ⟨fun hkl=>?_,fun hkg=>?_⟩
   · have hkl:k < N:=by omega
     refine St.dr h4 fun wa1 h4=>?_
     have q4:=h4.up4
     obtain ⟨a2,ha2,hb2,c2⟩:=Has.sl (h4.up5.has (by decide)) (m:=m) (by rw [fstQ_len]; exact hlt)
     rw [fstQ_get hlt] at c2
     have hlen:(mkN mkI m 0 k ++ ks[m].2.drop k).length=N:=by rw [List.length_append,mkN_len,List.length_drop,hN]; omega
     have es0:(mkN mkI m 0 k ++ ks[m].2.drop k).set k (mkI m k)=mkN mkI m 0 (k + 1) ++ ks[m].2.drop (k + 1):=by
       rw [List.set_append_right _ _ (by rw [mkN_len]; exact Nat.le_refl _),mkN_len,Nat.sub_self,List.drop_eq_getElem_cons (by omega:k < ks[m].2.length),List.set_cons_zero,mkN_succ,List.append_assoc,Nat.zero_add]
       rfl
     obtain ⟨a4,ha4,hb4,_⟩:=Has.int (h4.sw.has (by decide)) (m:=k) (by rw [hlen]; exact hkl)
     obtain ⟨a3,ha3,hb3,d0⟩:=Has.int (h4.has (by decide)) (m:=k) (by rw [mkN_len]; exact hkl)
     rw [mkN_get _ _ _ _ hkl] at d0
     refine ⟨L,q4.cell 2,a2,ha2,by omega,by omega,ks[m].1,c2,a3,ha3,by omega,by omega,_,d0,a4,ha4,by omega,by omega,?_⟩
     refine Row.stJ0 h4.sw (k:=k) (by rw [hlen]; exact hkl) ha4 (mkI m k) (by decide) rfl fun wb p4=>?_
     rw [es0] at p4
     exact Cnt.next hkl (by omega) p4.sw
   · have hkk:k=N:=by omega
     subst hkk
     have h5:=h4.drop
     rw [List.drop_of_length_le (by rw [hN]; exact Nat.le_refl _),List.append_nil] at h5
     have e3:mk1 mkI m ks[m]=(ks[m].1,mkN mkI m 0 k):=by unfold mk1; rw [hN]
     have h6:=Rows'.join (p:=(ks[m].1,mkN mkI m 0 k)) h5
     rw [← e3,← e2] at h6
     refine Cnt.next hlt (by omega) ?_
     show St w3 (Cs g (bookC L W OL OW) T.y_masonrybook_Book :: RowLI L (mkd mkI ks (m + 1)) :: RowLI W kw :: RsI (mkd mkI ks (m + 1)) :: RsI kw :: X)
     have e:RowLI L (mkd mkI ks (m + 1))=RowLI L ks:=by unfold RowLI; rw [fstQ_mkd]
     rw [e]
     exact (h6.up3).up3.up3
 · have hmm:m=ks.length:=by omega
   subst hmm
   refine hR _ ?_
   show St w1 (Cs g (bookC L W OL OW) T.y_masonrybook_Book :: RowLI L (mkd mkI ks ks.length) :: RowLI W kw :: RsI (mkd mkI ks ks.length) :: RsI kw :: X)
   have e:RowLI L (mkd mkI ks ks.length)=RowLI L ks:=by unfold RowLI; rw [fstQ_mkd]
   rw [e]; exact h1
/-- behind the growth -/
abbrev grSI (OL OW:Sl) (g:Nat) (L W:Sl) (ks kw:List (Kq Int)) (out:Sl) (gs:List Sl):List As:=[Cs g (bookC L W OL OW) T.y_masonrybook_Book,RowLI L ks,RowLI W kw,Row ESl T.y_sl_int out gs,As.all (grL EI T.y_int mkI ks gs)]
set_option maxHeartbeats 2000000 in
theorem growI_st (h : St w (bk5I OL OW g L W ks kw ++ X)) (hn : ks.length ≤ 250) (hz : ∀ (i : Nat) (p : Kq Int), ks[i]? = some p → p.2.length ≤ 100000 ∧ p.2 = mkN mkI i 0 p.2.length) {R : Sl → World → Prop}
   (hR:∀ out gs w',gs.length=ks.length→St w' (grSI OL OW g L W ks kw out gs ++ X)→R out w'):F.masonrybook_Book_growInts (some (blk g)) w R:=by
 apply E.masonrybook_Book_growInts
 unfold V.masonrybook_Book_growInts
 try simp -zeta only [ldC,soC,brC,bkA,slC,cnd_all,blk_add2,Nat.reduceAdd]
 refine ⟨fun out i w'=>∃ (m:Nat) (gs:List Sl),i=m∧m≤ks.length∧gs.length=m∧St w' (grSI OL OW g L W ks kw out gs ++ (RsI (ks.drop m) :: X)),fun _ i _=>((ks.length:Int) - i).toNat,⟨0,[],rfl,Nat.zero_le _,rfl,?_⟩,?_⟩
 · have h:St w (Cs g (bookC L W OL OW) T.y_masonrybook_Book :: RowLI L ks :: RowLI W kw :: RsI ks :: RsI kw :: X):=h
   have h1:=h.up4.drop
   have h2:St w (As.all [] :: Row ESl T.y_sl_int ⟨none,0,0⟩ [] :: Cs g (bookC L W OL OW) T.y_masonrybook_Book :: RowLI L ks :: RowLI W kw :: RsI ks :: X):=St.fold [] (h1.row0 ESl T.y_sl_int)
   have h3:St w (Cs g (bookC L W OL OW) T.y_masonrybook_Book :: RowLI L ks :: RowLI W kw :: Row ESl T.y_sl_int ⟨none,0,0⟩ [] :: As.all [] :: RsI ks :: X):=((h2.sw).up4.up4).up4
   exact h3
 rintro out i w1 ⟨m,gs,rfl,hm,hgl,h1⟩
 have h1:St w1 (Cs g (bookC L W OL OW) T.y_masonrybook_Book :: RowLI L ks :: RowLI W kw :: Row ESl T.y_sl_int out gs :: As.all (grL EI T.y_int mkI ks gs) :: RsI (ks.drop m) :: X):=h1
 have hl:=(h1.sw.has (by decide)).1
 rw [fstQ_len] at hl
 refine ⟨L,h1.cell 2,fun hlt=>?_,fun hge=>?_⟩
 · have hlt:m < ks.length:=by omega
   obtain ⟨hz1,hz2⟩:=hz m ks[m] (by simp [hlt])
   rw [List.drop_eq_getElem_cons hlt] at h1
   obtain ⟨a1,ha1,hb1,c1⟩:=Has.sl (h1.sw.has (by decide)) (m:=m) (by rw [fstQ_len]; exact hlt)
   rw [fstQ_get hlt] at c1
   refine ⟨L,h1.cell 2,a1,ha1,by omega,by omega,ks[m].1,c1,?_⟩
   have h2:=Rows'.split (a:=[]) h1.up5
   have h2:=h2.d2
   rw [hz2] at h2
   have h3:=GrA.start (by decide) h2
   have hpe:ks[gs.length]? = some ks[m]:=by rw [hgl]; simp [hlt]
   generalize hN:ks[m].2.length=N at *
   refine ⟨fun q n w'=>∃ k:Nat,n=k∧k≤12∧St w' (GrA EI T.y_int mkI m ks[m].1 N q (N + k) :: RsI (ks.drop (m + 1)) :: Cs g (bookC L W OL OW) T.y_masonrybook_Book :: RowLI L ks :: RowLI W kw :: Row ESl T.y_sl_int out gs :: As.all (grL EI T.y_int mkI ks gs) :: X),fun _ n _=>(12 - n).toNat,⟨0,rfl,Nat.zero_le _,h3⟩,?_⟩
   rintro q n w2 ⟨k,rfl,hk,h4⟩
   have hql:=(GrA.has (by decide) h4).1.1
   rw [mkN_len] at hql
   refine ⟨fun hk12=>?_,fun hk12=>?_⟩
   · refine markI_st (a:=q.len) (n:=1) h4 (by omega) (by omega) fun o w3 h5=>?_
     rw [hql] at h5
     refine GrA.app elt_int (by decide) h5 (by decide) (by omega) fun q' w4 h6=>?_
     rw [w64_succ (by omega)]
     exact ⟨⟨k + 1,rfl,by omega,h6⟩,by show (12 - ((k + 1:Nat):Int)).toNat < (12 - (k:Int)).toNat; omega⟩
   · have hk:k=12:=by omega
     subst hk
     refine markI_st (a:=q.len) (n:=60) h4 (by omega) (by omega) fun o w3 h5=>?_
     rw [hql] at h5
     refine GrA.app elt_int (by decide) h5 (by decide) (by omega) fun q' w4 h6=>?_
     refine St.al h6 fun wa1 h6=>?_
     refine St.app eltslI h6.up6 (sl:=⟨some (blk w4.heap.size),1,1⟩) (ys:=[q']) (h6.lit (En:=ESl) (xs:=[q']) rfl rfl 1) rfl (by simp only [List.length_singleton]; omega) (by simp only [List.length_singleton]; omega) fun out' w5 h7 _=>?_
     rw [w64_succ (by omega)]
     refine ⟨⟨m + 1,gs ++ [q'],rfl,hlt,by simp [hgl],?_⟩,by show ((ks.length:Int) - ((m + 1:Nat):Int)).toNat < ((ks.length:Int) - (m:Int)).toNat; omega⟩
     have h8:=h7.d2
     -- out', GrA, Rows', Cs, L, W, all
     have h9:St w5 (GrA EI T.y_int mkI m ks[m].1 N q' (N + 12 + 60) :: As.all (grL EI T.y_int mkI ks gs) :: Row ESl T.y_sl_int out' (gs ++ [q']) :: RsI (ks.drop (m + 1)) :: Cs g (bookC L W OL OW) T.y_masonrybook_Book :: RowLI L ks :: RowLI W kw :: X):=(h8.up6).up2
     have h10:=St.snocs h9
     have e:grL EI T.y_int mkI ks (gs ++ [q'])=grL EI T.y_int mkI ks gs ++ [GrA EI T.y_int mkI m ks[m].1 N q' (N + 12 + 60)]:=by rw [grL_snoc hpe,hgl,hN]
     rw [← e] at h10
     have h11:St w5 (Cs g (bookC L W OL OW) T.y_masonrybook_Book :: RowLI L ks :: RowLI W kw :: Row ESl T.y_sl_int out' (gs ++ [q']) :: As.all (grL EI T.y_int mkI ks (gs ++ [q'])) :: RsI (ks.drop (m + 1)) :: X):=((h10.sw).up5.up5).up5
     exact h11
 · have hmm:m=ks.length:=by omega
   subst hmm
   exact hR out gs w1 hgl (h1.up5.drop)
theorem markedI_st (h : St w X) {l : Sl} {ss : List Sl} (hx : ∀ w', St w' X → Has ESl w' l ss) (hn : ss.length ≤ 250) (hm : ∀ w', St w' X → ∀ (i : Nat) (s : Sl), ss[i]? = some s → ∃ n, n ≤ 200000 ∧ Has EI w' s (mkN mkI i 0 n)) {R : Bool → World → Prop}
   (hR:∀ w',St w' X→R true w'):F.masonrybook_markedInts l w R:=by
 apply E.masonrybook_markedInts
 unfold V.masonrybook_markedInts
 try simp -zeta only [ldC,soC,brC,bkA,slC,cnd_all,blk_add2,Nat.reduceAdd]
 have hs:=(hx w h).1
 refine ⟨Cnt ss.length fun m w'=>St w' X,cntM ss.length,Cnt.zero h,?_⟩
 rintro _ w1 ⟨m,rfl,hm',h1⟩
 refine ⟨fun hlt=>?_,fun _=>hR _ h1⟩
 have hlt:m < ss.length:=by omega
 refine St.dr h1 fun wa1 h1=>?_
 obtain ⟨a1,ha1,hb1,c1⟩:=Has.sl (hx _ h1) hlt
 obtain ⟨n,hn',hh⟩:=hm _ h1 m ss[m] (by simp [hlt])
 have hl:=hh.1
 rw [mkN_len] at hl
 subst hl
 refine ⟨a1,ha1,by omega,by omega,ss[m],c1,a1,ha1,by omega,by omega,ss[m],c1,?_⟩
 refine markI_st (a:=0) h1 (by omega) (by omega) fun o w2 h2=>?_
 have c2:∀ w',St w' X→w'.cell? (a1.add (m * 1))=some (.slice ss[m].a ss[m].len ss[m].cap):=fun w' hw=>by
   obtain ⟨a2,ha2,_,c2⟩:=Has.sl (hx _ hw) hlt
   rw [ha1] at ha2
   injection ha2 with ha2
   subst ha2; exact c2
 have s1:∀ w',St w' (RowI o (mkN mkI m 0 ss[m].len) :: X)→Has EI w' ss[m] (mkN mkI m 0 ss[m].len):=fun w' hw=>by
   obtain ⟨n',_,hh'⟩:=hm _ hw.drop m ss[m] (by simp [hlt])
   have hl':=hh'.1
   rw [mkN_len] at hl'
   subst hl'; exact hh'
 refine ⟨c2 _ h2.drop,c2 _ h2.drop,SameI_st h2 s1 (fun w' hw=>hw.has (by decide)) (by rw [mkN_len]; omega) fun w3 h3=>?_⟩
 rw [decide_eq_true rfl]
 exact ⟨c2 _ h3.drop,fun h=>(by cases h),fun _=>Cnt.next hlt (by omega) h3.drop⟩
end
end Go.Proofs.YtgacpkgaogiocaaGreatDoor
