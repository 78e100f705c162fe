/- masonryref17: Add, Drop, Find; masonrybook.SameEntries. -/
import Derived.Test.YtgacpkgaogiocaaGreatDoorEx
set_option linter.unusedVariables false
namespace Go.Proofs.YtgacpkgaogiocaaGreatDoor
open Go Go.Vc Go.RowKit Go.Lib Go.Maps
theorem addS_ok {l:List Ey} {x:Ey} (h1:okE x) (h2:x∉l) (h3:l.length < 1500):addS (l,0) x=(insE l x,0):=by
 unfold addS
 rw [if_neg (by simp),if_neg (fun h=>h h1),if_neg h2,if_neg (by show ¬ 1500≤l.length; omega)]
theorem addS_bad {l:List Ey} {x:Ey} (h1:¬ okE x):addS (l,0) x=(l,1):=by
 unfold addS
 rw [if_neg (by simp),if_pos h1]
theorem addS_dup {l:List Ey} {x:Ey} (h1:okE x) (h2:x∈l):addS (l,0) x=(l,9):=by
 unfold addS
 rw [if_neg (by simp),if_neg (fun h=>h h1),if_pos h2]
theorem dropS_ok {l:List Ey} {x:Ey} (h2:x∈l):dropS (l,0) x=(l.filter fun y=>decide (y≠x),0):=by
 unfold dropS
 rw [if_neg (by simp),if_pos h2]
theorem dropS_no {l:List Ey} {x:Ey} (h2:x∉l):dropS (l,0) x=(l,8):=by
 unfold dropS
 rw [if_neg (by simp),if_neg h2]
section
variable {w:World} {X:List As} {l:Sl} {L:List Ey}
set_option maxHeartbeats 4000000 in
theorem RefAdd_st (h : St w X) (hl : ∀ w', St w' X → Has EE w' l L) (hn : NilOk l) (hc : l.len ≤ l.cap) (hG : GoodE L) {ml : Sl} {xs : List Ey} (hx : ∀ w', St w' X → Has EE w' ml xs) (hb : L.length + xs.length ≤ 1400) {R : Sl → Int → World → Prop}
   (hE:∀ w' e,(allF addS L xs).2=e→e≠0→St w' X→R l e w')
   (hR:∀ w' now,(allF addS L xs).2=0→Nw X l L now (allF addS L xs).1 w'→R now 0 w'):F.masonryref17_List_Add l ml w R:=by
 apply E.masonryref17_List_Add
 unfold V.masonryref17_List_Add
 try simp -zeta only [ldC,soC,brC,bkA,slC,cnd_all,blk_add2,Nat.reduceAdd]
 have hlx:=(hx w h).1
 refine ⟨fun now i w'=>∃ m:Nat,i=m∧m≤xs.length∧(allF addS L (xs.take m)).2=0∧Nw X l L now (allF addS L (xs.take m)).1 w',fun _ i _=>((xs.length:Int) - i).toNat,⟨0,rfl,Nat.zero_le _,rfl,.inl ⟨rfl,rfl,h⟩⟩,?_⟩
 rintro now _ w1 ⟨m,rfl,hm,hz,hN⟩
 refine ⟨fun hlt=>?_,fun hge=>?_⟩
 · have hlt:m < xs.length:=by omega
   have hms:((xs.length:Int) - ((m + 1:Nat):Int)).toNat < ((xs.length:Int) - (m:Int)).toNat:=by omega
   obtain ⟨Z,q,hnow,hnn,hnc,hZ1,hZ2,hZ3⟩:=hN.open hl hn hc
   have hst:(allF addS L (xs.take m))=((allF addS L (xs.take m)).1,0):=by rw [← hz]
   have hnx:=allF_take (f:=addS) (L:=L) hlt
   rw [hst] at hnx
   have hgd:=allF_good (f:=addS) (fun {st x} h=>addS_good h) hG (xs.take m)
   have hln:=allF_len addS_len L (xs.take m)
   rw [List.length_take] at hln
   obtain ⟨ad,ha,hb2,c0,c1,c2⟩:=Has.ey (hx _ (hZ1 _ q)) hlt
   have herr:∀ e w',addS ((allF addS L (xs.take m)).1,0) xs[m]=((allF addS L (xs.take m)).1,e)→e≠0→St w' Z→R l e w':=fun e w' he hne hq=>by
     rw [he] at hnx
     refine hE w' e ?_ hne (hZ1 _ hq)
     rw [allF_err addS_err (m:=m + 1) (by rw [hnx]; exact hne),hnx]
   generalize hacc:(allF addS L (xs.take m)).1=acc at *
   have hal:=(hnow _ q).1
   refine ⟨ad,ha,by omega,by omega,_,c0,_,c1,_,c2,?_⟩
   refine St.al q fun wa1 q=>?_
   refine St.fill3 q fun wa4 q=>?_
   refine ⟨_,q.cell0,_,q.cell 1,_,q.cell 2,place_st q (fun w' hw=>hnow _ hw.drop) hgd.1 (by omega) fun w5 q=>⟨_,q.cell0,_,q.cell 1,_,q.cell 2,RefValid_st q fun w6 q=>⟨fun hbad=>?_,fun hok=>⟨fun hdup=>?_,fun hnd=>⟨fun hbig=>?_,fun _=>?_⟩⟩⟩⟩⟩
   · have hbad:¬ okE xs[m]:=by simpa using hbad
     exact herr 1 w6 (addS_bad hbad) (by decide) q.drop
   · have hok:okE xs[m]:=by simpa using hok
     have hdup:xs[m]∈acc:=by simpa using hdup
     exact herr 9 w6 (addS_dup hok hdup) (by decide) q.drop
   · omega
   have hok:okE xs[m]:=by simpa using hok
   have hnd:xs[m]∉acc:=by simpa using hnd
   have hkl:=cntE_le acc xs[m]
   have hins:=addS_ok hok hnd (by omega)
   rw [hins] at hnx
   refine St.dr q fun wa5 q=>?_
   refine ⟨by omega,by omega,_,q.cell0,_,q.cell 1,_,q.cell 2,by omega,by omega,fun w8 hB8=>?_⟩
   have q:=q.fz.iv0 hB8
   rw [slA0,Int.toNat_natCast]
   have hh:=Has.preE (hnow _ q.drop.drop) hkl
   refine St.appN elt_el (St.row0 q EE T.y_api_Entry) hh (nil_pre hnn hnc (by omega)) (by rw [List.length_take]; simp; omega) (by rw [List.length_take]; simp; omega) fun l1 w9 q _=>?_
   rw [List.nil_append] at q
   obtain ⟨k9,q⟩:=q.sw.kp
   refine ⟨k9,q.up2.cell0,q.up2.cell 1,q.up2.cell 2,fun w10 g hB10 hg10 hn10 ho10 w11 hB11=>?_⟩
   have q:=(q.iv hB10 hg10 hn10 ho10).iv0 hB11
   refine St.app elt_el q.up2 (sl:=⟨some (blk g),1,1⟩) (ys:=[xs[m]]) (q.sw.lit (En:=EE) (xs:=[xs[m]]) rfl rfl 1) rfl (by rw [List.length_take]; simp; omega) (by rw [List.length_take]; simp; omega) fun l2 w12 q _=>?_
   obtain ⟨k12,q⟩:=q.sw.kp
   refine ⟨k12,q.up3.cell0,q.up3.cell 1,q.up3.cell 2,fun w13 hB13=>?_⟩
   have q:=(q.iv0 hB13).sw
   have hh:=Has.dropE (hnow _ q.drop.drop.drop.drop) hnc hkl
   refine St.appN elt_el q hh (nil_drop hnn) (by rw [List.length_append,List.length_take,List.length_drop]; simp; omega) (by rw [List.length_append,List.length_take,List.length_drop]; simp; omega) fun l3 w14 q _=>?_
   obtain ⟨k14,q⟩:=q.sw.kp
   refine ⟨k14,q.up3.cell0,q.up3.cell 1,q.up3.cell 2,fun w15 hB15=>?_⟩
   have q:=hZ2 _ _ (q.iv0 hB15).drop.d2.d2
   rw [w64_succ (by omega)]
   refine ⟨⟨m + 1,rfl,hlt,by rw [hnx],.inr ?_⟩,hms⟩
   rw [hnx]
   have e:insE acc xs[m]=acc.take (cntE acc xs[m]) ++ [xs[m]] ++ acc.drop (cntE acc xs[m]):=by unfold insE; simp
   rw [e]; exact q
 · have hmm:m=xs.length:=by omega
   subst hmm
   rw [List.take_length] at hz hN
   exact hR w1 now hz hN
set_option maxHeartbeats 4000000 in
theorem RefDrop_st (h : St w X) (hl : ∀ w', St w' X → Has EE w' l L) (hn : NilOk l) (hc : l.len ≤ l.cap) (hG : GoodE L) {ml : Sl} {xs : List Ey} (hx : ∀ w', St w' X → Has EE w' ml xs) (hb : L.length + xs.length ≤ 1400) {R : Sl → Int → World → Prop}
   (hE:∀ w' e,(allF dropS L xs).2=e→e≠0→St w' X→R l e w')
   (hR:∀ w' now,(allF dropS L xs).2=0→Nw X l L now (allF dropS L xs).1 w'→R now 0 w'):F.masonryref17_List_Drop l ml w R:=by
 apply E.masonryref17_List_Drop
 unfold V.masonryref17_List_Drop
 try simp -zeta only [ldC,soC,brC,bkA,slC,cnd_all,blk_add2,Nat.reduceAdd]
 have hlx:=(hx w h).1
 refine ⟨fun now i w'=>∃ m:Nat,i=m∧m≤xs.length∧(allF dropS L (xs.take m)).2=0∧Nw X l L now (allF dropS L (xs.take m)).1 w',fun _ i _=>((xs.length:Int) - i).toNat,⟨0,rfl,Nat.zero_le _,rfl,.inl ⟨rfl,rfl,h⟩⟩,?_⟩
 rintro now _ w1 ⟨m,rfl,hm,hz,hN⟩
 refine ⟨fun hlt=>?_,fun hge=>?_⟩
 · have hlt:m < xs.length:=by omega
   have hms:((xs.length:Int) - ((m + 1:Nat):Int)).toNat < ((xs.length:Int) - (m:Int)).toNat:=by omega
   obtain ⟨Z,q,hnow,hnn,hnc,hZ1,hZ2,hZ3⟩:=hN.open hl hn hc
   have hst:(allF dropS L (xs.take m))=((allF dropS L (xs.take m)).1,0):=by rw [← hz]
   have hnx:=allF_take (f:=dropS) (L:=L) hlt
   rw [hst] at hnx
   have hgd:=allF_good (f:=dropS) (fun {st x} h=>dropS_good h) hG (xs.take m)
   have hln:=allF_len dropS_len L (xs.take m)
   rw [List.length_take] at hln
   obtain ⟨ad,ha,hb2,c0,c1,c2⟩:=Has.ey (hx _ (hZ1 _ q)) hlt
   have herr:∀ e w',dropS ((allF dropS L (xs.take m)).1,0) xs[m]=((allF dropS L (xs.take m)).1,e)→e≠0→St w' Z→R l e w':=fun e w' he hne hq=>by
     rw [he] at hnx
     refine hE w' e ?_ hne (hZ1 _ hq)
     rw [allF_err dropS_err (m:=m + 1) (by rw [hnx]; exact hne),hnx]
   generalize hacc:(allF dropS L (xs.take m)).1=acc at *
   have hal:=(hnow _ q).1
   refine ⟨ad,ha,by omega,by omega,_,c0,_,c1,_,c2,place_st q hnow hgd.1 (by omega) fun w5 q=>⟨fun hno=>?_,fun hyes=>?_⟩⟩
   · have hno:xs[m]∉acc:=by simpa using hno
     exact herr 8 w5 (dropS_no hno) (by decide) q
   have hyes:xs[m]∈acc:=by simpa using hyes
   have hat:=(srt_at hgd.1 xs[m]).1 hyes
   have hkl:cntE acc xs[m] < acc.length:=(List.getElem?_eq_some_iff.1 hat).1
   have hdr:=dropS_ok hyes
   rw [hdr] at hnx
   refine St.dr q fun wa1 q=>?_
   rw [w64_succ (by omega)]
   refine ⟨by omega,by omega,by omega,by omega,?_⟩
   rw [slA0,Int.toNat_natCast,Int.toNat_natCast]
   have hh:=Has.preE (hnow _ q) (k:=cntE acc xs[m]) (by omega)
   refine St.appN elt_el (St.row0 q EE T.y_api_Entry) hh (nil_pre hnn hnc (by omega)) (by rw [List.length_take]; simp; omega) (by rw [List.length_take]; simp; omega) fun l1 w9 q _=>?_
   rw [List.nil_append] at q
   have hh:=Has.dropE (hnow _ q.drop) hnc (k:=cntE acc xs[m] + 1) (by omega)
   refine St.appN elt_el q hh (nil_drop hnn) (by rw [List.length_take,List.length_drop]; omega) (by rw [List.length_take,List.length_drop]; omega) fun l3 w14 q _=>?_
   rw [w64_succ (by omega)]
   refine ⟨⟨m + 1,rfl,hlt,by rw [hnx],.inr ?_⟩,hms⟩
   rw [hnx,← erase_at hgd.1 hat]
   exact hZ2 _ _ q
 · have hmm:m=xs.length:=by omega
   subst hmm
   rw [List.take_length] at hz hN
   exact hR w1 now hz hN
theorem SameE_st (h:St w X) {al bl:Sl} {xs ys:List Ey} (ha:∀ w',St w' X→Has EE w' al xs) (hb:∀ w',St w' X→Has EE w' bl ys) (hl:xs.length≤1000000) {R:Bool→World→Prop} (hR:∀ w',St w' X→R (decide (xs=ys)) w'):F.masonrybook_SameEntries al bl w R:=by
 apply E.masonrybook_SameEntries
 unfold V.masonrybook_SameEntries
 try simp -zeta only [ldC,soC,brC,bkA,slC,cnd_all,blk_add2,Nat.reduceAdd]
 have h1:=(ha w h).1
 have h2:=(hb w h).1
 refine ⟨fun hne=>?_,fun heq=>?_⟩
 · have:=hR w h
   rw [decide_eq_false (fun e=>hne (by rw [h1,h2,e]))] at this
   exact this
 have hlen:xs.length=ys.length:=by omega
 refine ⟨Cnt xs.length fun m w'=>xs.take m=ys.take m∧St w' X,cntM xs.length,Cnt.zero ⟨rfl,h⟩,?_⟩
 rintro _ w1 ⟨m,rfl,hm,htk,h3⟩
 refine ⟨fun hlt=>?_,fun hge=>?_⟩
 · have hlt:m < xs.length:=by omega
   refine St.dr h3 fun wa1 h3=>?_
   obtain ⟨a,ha1,hal,c0,c1,c2⟩:=Has.ey (ha _ h3) hlt
   obtain ⟨b,hb1,hbl,e0,e1,e2⟩:=Has.ey (hb _ h3) (m:=m) (by omega)
   refine ⟨a,ha1,by omega,by omega,_,c0,_,c1,_,c2,b,hb1,by omega,by omega,_,e0,_,e1,_,e2,?_⟩
   rw [ey_eq]
   refine ⟨fun hf=>?_,fun ht=>Cnt.next hlt (by omega) ⟨?_,h3⟩⟩
   · have hf:¬ xs[m]=ys[m]:=by simpa using hf
     have:=hR _ h3
     rw [decide_eq_false (fun e=>by subst e; exact hf rfl)] at this
     exact this
   · have ht:xs[m]=ys[m]:=by simpa using ht
     rw [List.take_succ_eq_append_getElem hlt,List.take_succ_eq_append_getElem (by omega),htk,ht]
 · have hmm:m=xs.length:=by omega
   subst hmm
   have e:xs=ys:=by rw [List.take_length,hlen,List.take_length] at htk; exact htk
   have:=hR _ h3
   rw [decide_eq_true e] at this; exact this
theorem RefFind_st (h : St w X) (hx : ∀ w', St w' X → Has EE w' l L) (hl : L.length ≤ 100000) {pk : Int} {s : Bs} {R : Sl → World → Prop}
   (hR:∀ sl w',St w' (Row EI T.y_int sl (findE L pk s) :: X)→R sl w'):F.masonryref17_List_Find l pk (tx s) w R:=by
 apply E.masonryref17_List_Find
 unfold V.masonryref17_List_Find
 try simp -zeta only [ldC,soC,brC,bkA,slC,cnd_all,blk_add2,Nat.reduceAdd]
 have h1:=(hx w h).1
 refine St.al h fun wa1 h=>?_
 generalize w.heap.size=g at *
 refine ⟨fun out n w'=>∃ m:Nat,n=m∧m≤L.length∧St w' (Row EI T.y_int out (findE (L.take m) pk s) :: Cs g [.int .i64 pk,.string (tx s)] T.y_api_Print :: X),fun _ n _=>((L.length:Int) - n).toNat,⟨0,rfl,Nat.zero_le _,St.row0 h EI T.y_int⟩,?_⟩
 rintro out _ w7 ⟨m,rfl,hm,q⟩
 refine ⟨fun hlt=>?_,fun hge=>?_⟩
 · have hlt:m < L.length:=by omega
   have hms:((L.length:Int) - ((m + 1:Nat):Int)).toNat < ((L.length:Int) - (m:Int)).toNat:=by omega
   refine St.dr q fun wa2 q=>?_
   obtain ⟨ad,ha,hb,c0,c1,c2⟩:=Has.ey (hx _ q.drop.drop) hlt
   have ft:=findE_take (k:=pk) (s:=s) hlt
   have hfl:(findE (L.take m) pk s).length≤m:=by
     unfold findE
     rw [List.length_map]
     have:=List.length_filter_le (fun x=>decide (x.k=pk∧x.s=s)) (L.take m)
     rw [List.length_take] at this; omega
   rw [w64_succ (by omega)]
   refine ⟨ad,ha,by omega,by omega,_,c0,_,c1,_,q.sw.cell0,_,q.sw.cell 1,?_⟩
   rw [tx_eq]
   refine ⟨fun heq=>⟨ad,ha,by omega,by omega,_,c2,?_⟩,fun hne=>⟨⟨m + 1,rfl,hlt,?_⟩,hms⟩⟩
   · have heq:L[m].k=pk∧L[m].s=s:=by simpa using heq
     rw [if_pos heq] at ft
     refine St.al q fun wa3 q=>?_
     refine St.app elt_int q.sw (sl:=⟨some (blk _),1,1⟩) (ys:=[L[m].a]) (q.lit (En:=EI) (xs:=[L[m].a]) rfl rfl 1) rfl (by simp; omega) (by simp; omega) fun l2 w13 q _=>⟨⟨m + 1,rfl,hlt,?_⟩,hms⟩
     rw [ft]
     exact q.d2
   · have hne:¬ (L[m].k=pk∧L[m].s=s):=by simpa using hne
     rw [if_neg hne] at ft
     rw [ft]
     exact q
 · have hmm:m=L.length:=by omega
   subst hmm
   rw [List.take_length] at q
   exact hR out w7 q.d2
end
end Go.Proofs.YtgacpkgaogiocaaGreatDoor

/- masonrybook.Book: what is alike for lists of every kind: marks, growth. -/
set_option linter.unusedVariables false
namespace Go.Proofs.YtgacpkgaogiocaaGreatDoor
open Go Go.Vc Go.RowKit Go.Lib
section
variable {α:Type} {En:Enc α} {t:TypeId} {w:World} {X:List As}
theorem Enc.cons (En:Enc α) (x:α) (r:List α):En.all (x :: r)=En.cells x ++ En.all r:=by simp [Enc.all]
theorem Enc.all_set (En:Enc α):∀ (xs:List α) (k:Nat) (hk:k < xs.length) (y:α) (j:Nat) (v:Value),j < En.n→En.cells y=(En.cells xs[k]).set j v→(En.all xs).set (k * En.n + j) v=En.all (xs.set k y)
 | [],k,hk,y,j,v,_,_=>by simp at hk
 | x :: r,0,hk,y,j,v,hj,hc=>by
   rw [List.set_cons_zero,Enc.cons En,Enc.cons En,hc]
   simp only [Nat.zero_mul,Nat.zero_add,List.getElem_cons_zero]
   exact List.set_append_left _ _ (by rw [En.len]; exact hj)
 | x :: r,k + 1,hk,y,j,v,hj,hc=>by
   have ih:=Enc.all_set En r k (by simpa using hk) y j v hj (by simpa using hc)
   rw [List.set_cons_succ,Enc.cons En,Enc.cons En,← ih,show (k + 1) * En.n + j=(En.cells x).length + (k * En.n + j) by rw [En.len,Nat.add_mul]; omega]
   rw [List.set_append_right _ _ (by omega),Nat.add_sub_cancel_left]
theorem Row.setJ {l : Sl} {xs : List α} (h : St w (Row En t l xs :: X)) {k : Nat} (hk : k < xs.length) {a : Addr} (ha : l.a = some a) (y : α) (j : Nat) (v : Value) (hj : j < En.n) (hc : En.cells y = (En.cells xs[k]).set j v) :
   Wr w ((a.add (k * En.n)).add j)∧St (w.setCell ((a.add (k * En.n)).add j) v) (Row En t l (xs.set k y) :: X):=by
 obtain ⟨S,⟨hO,e⟩,hlt,hX⟩:=h.out
 subst e
 have hl:=En.all_len xs
 have e1:(a.add (k * En.n)).add j=a.add (k * En.n + j):=Vc.addr_add _ _ _
 rw [e1]
 have hlt2:k * En.n + j < (En.all xs).length:=by
   rw [hl]
   have:(k + 1) * En.n≤xs.length * En.n:=Nat.mul_le_mul_right _ hk
   rw [Nat.add_mul] at this; omega
 obtain ⟨q1,q2,q3⟩:=Own.setN (by omega:0 < En.n) hO (k:=k * En.n + j) hlt2 v ha
 refine ⟨q1,hX ⟨?_,rfl⟩ q3 (fun j hj=>.inl hj)⟩
 rw [Enc.all_set En xs k hk y j v hj hc] at q2; exact q2
theorem Row.stJ {l : Sl} {xs : List α} (h : St w (Row En t l xs :: X)) {k : Nat} (hk : k < xs.length) {a : Addr} (ha : l.a = some a) (y : α) (j : Nat) {v : Value} (hj : j < En.n) (hc : En.cells y = (En.cells xs[k]).set j v) {P : World → Prop}
   (hP:∀ w',St w' (Row En t l (xs.set k y) :: X)→P w'):stC w ((a.add (k * En.n)).add j) v P:=⟨(Row.setJ h hk ha y j v hj hc).1,hP _ (Row.setJ h hk ha y j v hj hc).2⟩
theorem Row.stJ0 {l : Sl} {xs : List α} (h : St w (Row En t l xs :: X)) {k : Nat} (hk : k < xs.length) {a : Addr} (ha : l.a = some a) (y : α) {v : Value} (hj : 0 < En.n) (hc : En.cells y = (En.cells xs[k]).set 0 v) {P : World → Prop}
   (hP:∀ w',St w' (Row En t l (xs.set k y) :: X)→P w'):stC w (a.add (k * En.n)) v P:=by
 have:=Row.stJ h hk ha y 0 hj hc hP
 rwa [Vc.addr_add0] at this
theorem Row.stE3 {l : Sl} {xs : List Ey} (h : St w (Row EE t l xs :: X)) {k : Nat} (hk : k < xs.length) {a : Addr} (ha : l.a = some a) (x : Ey) {P : World → Prop}
   (hP:∀ w',St w' (Row EE t l (xs.set k x) :: X)→P w'):stC w (a.add (k * 3)) (.int .i64 x.k) fun w1=>stC w1 ((a.add (k * 3)).add 1) (.string (tx x.s)) fun w2=>stC w2 ((a.add (k * 3)).add 2) (.int .i64 x.a) P:=by
 refine Row.stJ0 h hk ha ⟨x.k,xs[k].s,xs[k].a⟩ (by decide) rfl fun w1 h1=>?_
 refine Row.stJ h1 (by rw [List.length_set]; exact hk) ha ⟨x.k,x.s,xs[k].a⟩ 1 (by decide) (by rw [List.getElem_set_self]; rfl) fun w2 h2=>?_
 refine Row.stJ h2 (by rw [List.length_set,List.length_set]; exact hk) ha x 2 (by decide) (by rw [List.getElem_set_self]; rfl) fun w3 h3=>?_
 rw [List.set_set,List.set_set] at h3
 exact hP _ h3
end
section
variable {α:Type}
def mkN (f:Nat→Nat→α) (i a n:Nat):List α:=(List.range n).map fun j=>f i (a + j)
variable (f:Nat→Nat→α)
theorem mkN_len (i a n:Nat):(mkN f i a n).length=n:=by simp [mkN]
theorem mkN_succ (i a n:Nat):mkN f i a (n + 1)=mkN f i a n ++ [f i (a + n)]:=by simp [mkN,List.range_succ]
theorem mkN_app (i a b:Nat):mkN f i 0 a ++ mkN f i a b=mkN f i 0 (a + b):=by
 induction b with
 | zero=>simp [mkN]
 | succ b ih=>rw [mkN_succ,← List.append_assoc,ih,← Nat.add_assoc,mkN_succ,Nat.zero_add]
theorem mkN_get (i n k:Nat) (hk:k < n):(mkN f i 0 n)[k]'(by rw [mkN_len]; exact hk)=f i k:=by simp [mkN]
theorem mkN_cut {i n m:Nat} (h:n≤m):mkN f i 0 m=mkN f i 0 n ++ mkN f i n (m - n):=by rw [mkN_app]; congr 1; omega
abbrev Kq (α:Type):=Sl × List α
def fstQ (ks:List (Kq α)):List Sl:=ks.map (·.1)
theorem fstQ_get {ks:List (Kq α)} {m:Nat} (hm:m < ks.length):(fstQ ks)[m]'(by simp [fstQ]; exact hm)=ks[m].1:=by simp [fstQ]
theorem fstQ_len (ks:List (Kq α)):(fstQ ks).length=ks.length:=by simp [fstQ]
def mk1 (i:Nat) (p:Kq α):Kq α:=(p.1,mkN f i 0 p.2.length)
def mkd (ks:List (Kq α)) (m:Nat):List (Kq α):=(ks.take m).mapIdx (mk1 f) ++ ks.drop m
theorem mkd_at {ks:List (Kq α)} {m:Nat} (hm:m < ks.length):mkd f ks m=(ks.take m).mapIdx (mk1 f) ++ ks[m] :: ks.drop (m + 1)∧mkd f ks (m + 1)=(ks.take m).mapIdx (mk1 f) ++ mk1 f m ks[m] :: ks.drop (m + 1):=by
 unfold mkd
 refine ⟨by rw [List.drop_eq_getElem_cons hm],?_⟩
 rw [List.take_succ_eq_append_getElem hm,List.mapIdx_append,List.append_assoc]
 congr 1
 simp [List.length_take,Nat.min_eq_left (Nat.le_of_lt hm)]
theorem fstQ_mkd (ks:List (Kq α)):∀ m,fstQ (mkd f ks m)=fstQ ks
 | 0=>by simp [mkd]
 | m + 1=>by
   rcases Nat.lt_or_ge m ks.length with h | h
   · have ih:=fstQ_mkd ks m
     obtain ⟨e1,e2⟩:=mkd_at f h
     rw [← ih,e1,e2]
     unfold fstQ
     rw [List.map_append,List.map_append,List.map_cons,List.map_cons]
     rfl
   · have e:mkd f ks (m + 1)=mkd f ks m:=by unfold mkd; rw [List.take_of_length_le (by omega),List.take_of_length_le (by omega),List.drop_of_length_le (by omega),List.drop_of_length_le (by omega)]
     rw [e]; exact fstQ_mkd ks m
theorem mkd_get {ks:List (Kq α)} {i:Nat} {p:Kq α} (hp:(mkd f ks ks.length)[i]? = some p):∃ q,ks[i]? = some q∧p=mk1 f i q:=by
 unfold mkd at hp
 rw [List.take_length,List.drop_length,List.append_nil,List.getElem?_mapIdx] at hp
 obtain ⟨q,h1,h2⟩:=Option.map_eq_some_iff.1 hp
 exact ⟨q,h1,h2.symm⟩
theorem mkd_len (ks:List (Kq α)) (m:Nat):(mkd f ks m).length=ks.length:=by unfold mkd; simp; omega
end
theorem Has.sl {w:World} {l:Sl} {xs:List Sl} (h:Has ESl w l xs) {m:Nat} (hm:m < xs.length):∃ ad,l.a=some ad∧m < l.len∧w.cell? (ad.add (m * 1))=some (.slice xs[m].a xs[m].len xs[m].cap):=by
 obtain ⟨ad,ha,hl,hc⟩:=h.at hm
 have h0:=hc 0 _ rfl
 rw [Vc.addr_add0] at h0
 exact ⟨ad,ha,hl,h0⟩
/-! ### Growth -/
section
variable {α:Type} (En:Enc α) (t:TypeId) (f:Nat→Nat→α)
/-- a list p of n marks, and q that grew of it to m: in place, or elsewhere -/
def GrA (i:Nat) (p:Sl) (n:Nat) (q:Sl) (m:Nat):As:=As.ex fun b:Bool=>
 bif b then As.wh (p.a=q.a∧p.len=n∧n≤m) (Row En t q (mkN f i 0 m))
 else As.ex fun r:Sl × Nat=>As.wh (p.a=r.1.a∧p.len=n∧n≤r.2) (As.all [Row En t q (mkN f i 0 m),Row En t r.1 (mkN f i 0 r.2)])
variable {En t f} {w:World} {X:List As} {i n m:Nat} {p q:Sl}
theorem GrA.has (hp:0 < En.n) (h:St w (GrA En t f i p n q m :: X)):Has En w q (mkN f i 0 m)∧Has En w p (mkN f i 0 n):=by
 have cut:∀ {r:Sl} {m:Nat},p.a=r.a→p.len=n→n≤m→Has En w r (mkN f i 0 m)→Has En w p (mkN f i 0 n):=fun {r m} h1 h2 h3 hr=>by
   rw [mkN_cut f h3] at hr
   exact Has.pre hr h1.symm (by rw [h2,mkN_len])
 obtain ⟨b,h⟩:=h.ex
 cases b
 · have h:St w ((As.ex fun r:Sl × Nat=>As.wh (p.a=r.1.a∧p.len=n∧n≤r.2) (As.all [Row En t q (mkN f i 0 m),Row En t r.1 (mkN f i 0 r.2)])) :: X):=h
   obtain ⟨r,h⟩:=h.ex
   obtain ⟨⟨h1,h2,h3⟩,h⟩:=h.wh
   have h:St w (Row En t q (mkN f i 0 m) :: Row En t r.1 (mkN f i 0 r.2) :: X):=h.unfold
   exact ⟨h.has hp,cut h1 h2 h3 (h.sw.has hp)⟩
 · have h:St w (As.wh (p.a=q.a∧p.len=n∧n≤m) (Row En t q (mkN f i 0 m)) :: X):=h
   obtain ⟨⟨h1,h2,h3⟩,h⟩:=h.wh
   exact ⟨h.has hp,cut h1 h2 h3 (h.has hp)⟩
theorem GrA.start (hp:0 < En.n) (h:St w (Row En t p (mkN f i 0 n) :: X)):St w (GrA En t f i p n p n :: X):=by
 have hl:=(h.has hp).1
 rw [mkN_len] at hl
 exact St.mk (f:=fun b:Bool=>bif b then As.wh (p.a=p.a∧p.len=n∧n≤n) (Row En t p (mkN f i 0 n)) else _) true (St.whmk ⟨rfl,hl,Nat.le_refl _⟩ h)
theorem GrA.app {ts : TypeId} {bytes : Nat} (hE : Elt Pg ts t En.n bytes) (hby : bytes ≤ 1000) {o : Sl} {k : Nat} (h : St w (Row En t o (mkN f i m k) :: GrA En t f i p n q m :: X)) (hk : 0 < k) (hm : m + k ≤ 10000000) {R : Sl → World → Prop}
   (hR:∀ q' w',St w' (GrA En t f i p n q' (m + k) :: X)→R q' w'):RunT Pg (Builtin.append_ #[ts,ts] ts #[.slice q.a q.len q.cap,.slice o.a o.len o.cap]) [.one .slice] w R:=by
 have hb:((mkN f i 0 m).length + (mkN f i m k).length) * bytes≤140737488355328:=by
   rw [mkN_len,mkN_len]
   exact Nat.le_trans (Nat.mul_le_mul hm hby) (by decide)
 obtain ⟨a,ha,_⟩:=Has.at (j:=0) (h.has hE.pos) (by rw [mkN_len]; exact hk)
 obtain ⟨oa,ol,oc⟩:=o
 simp only at ha
 subst ha
 have mkT:∀ {q':Sl} {w':World},p.a=q'.a→p.len=n→n≤m + k→St w' (Row En t q' (mkN f i 0 m ++ mkN f i m k) :: X)→R q' w':=fun {q' w'} h1 h2 h3 h4=>by
   rw [mkN_app] at h4
   exact hR q' w' (St.mk (f:=fun b:Bool=>bif b then As.wh (p.a=q'.a∧p.len=n∧n≤m + k) (Row En t q' (mkN f i 0 (m + k))) else _) true (St.whmk ⟨h1,h2,h3⟩ h4))
 have mkF:∀ {q' r:Sl} {rm:Nat} {w':World},p.a=r.a→p.len=n→n≤rm→St w' (Row En t q' (mkN f i 0 m ++ mkN f i m k) :: Row En t r (mkN f i 0 rm) :: X)→R q' w':=fun {q' r rm w'} h1 h2 h3 h4=>by
   rw [mkN_app] at h4
   have h5:St w' (As.all [Row En t q' (mkN f i 0 (m + k)),Row En t r (mkN f i 0 rm)] :: X):=St.fold [Row En t q' (mkN f i 0 (m + k)),Row En t r (mkN f i 0 rm)] h4
   have h6:=St.mk (f:=fun r:Sl × Nat=>As.wh (p.a=r.1.a∧p.len=n∧n≤r.2) (As.all [Row En t q' (mkN f i 0 (m + k)),Row En t r.1 (mkN f i 0 r.2)])) (r,rm) (St.whmk ⟨h1,h2,h3⟩ h5)
   exact hR q' w' (St.mk (f:=fun b:Bool=>bif b then _ else As.ex fun r:Sl × Nat=>As.wh (p.a=r.1.a∧p.len=n∧n≤r.2) (As.all [Row En t q' (mkN f i 0 (m + k)),Row En t r.1 (mkN f i 0 r.2)])) false h6)
 obtain ⟨b,h⟩:=h.sw.ex
 cases b
 · have h:St w ((As.ex fun r:Sl × Nat=>As.wh (p.a=r.1.a∧p.len=n∧n≤r.2) (As.all [Row En t q (mkN f i 0 m),Row En t r.1 (mkN f i 0 r.2)])) :: Row En t ⟨some a,ol,oc⟩ (mkN f i m k) :: X):=h
   obtain ⟨r,h⟩:=h.ex
   obtain ⟨⟨h1,h2,h3⟩,h⟩:=h.wh
   have h:St w (Row En t q (mkN f i 0 m) :: Row En t r.1 (mkN f i 0 r.2) :: Row En t ⟨some a,ol,oc⟩ (mkN f i m k) :: X):=h.unfold
   refine St.app2 hE h (sl:=⟨some a,ol,oc⟩) (ys:=mkN f i m k) (h.up2.has hE.pos) rfl hb (by simp only [mkN_len]; omega) (fun q' w' h' _ _=>mkF h1 h2 h3 h'.d3) fun q' w' h' _=>mkF h1 h2 h3 h'.d2.d3
 · have h:St w (As.wh (p.a=q.a∧p.len=n∧n≤m) (Row En t q (mkN f i 0 m)) :: Row En t ⟨some a,ol,oc⟩ (mkN f i m k) :: X):=h
   obtain ⟨⟨h1,h2,h3⟩,h⟩:=h.wh
   refine St.app2 hE h (sl:=⟨some a,ol,oc⟩) (ys:=mkN f i m k) (h.sw.has hE.pos) rfl hb (by simp only [mkN_len]; omega) (fun q' w' h' _ hq=>mkT (h1.trans hq.symm) h2 (by omega) h'.d2) fun q' w' h' _=>mkF h1 h2 h3 h'.d3
variable (En t f)
/-- what grew, of the first lists -/
def grL (ks:List (Kq α)) (gs:List Sl):List As:=(List.range gs.length).map fun i=>GrA En t f i (ks.getD i (⟨none,0,0⟩,[])).1 (ks.getD i (⟨none,0,0⟩,[])).2.length (gs.getD i ⟨none,0,0⟩) ((ks.getD i (⟨none,0,0⟩,[])).2.length + 72)
variable {En t f}
theorem grL_snoc {ks:List (Kq α)} {gs:List Sl} {q:Sl} {p:Kq α} (hp:ks[gs.length]? = some p):grL En t f ks (gs ++ [q])=grL En t f ks gs ++ [GrA En t f gs.length p.1 p.2.length q (p.2.length + 72)]:=by
 have e1:ks.getD gs.length (⟨none,0,0⟩,[])=p:=by rw [List.getD_eq_getElem?_getD,hp]; rfl
 unfold grL
 rw [List.length_append,List.length_singleton,List.range_succ,List.map_append]
 congr 1
 · refine List.map_congr_left fun i hi=>?_
   have hi:=List.mem_range.1 hi
   have:(gs ++ [q]).getD i ⟨none,0,0⟩=gs.getD i ⟨none,0,0⟩:=by rw [List.getD_eq_getElem?_getD,List.getD_eq_getElem?_getD,List.getElem?_append_left hi]
   rw [this]
 · simp only [List.map_cons,List.map_nil,e1]
   have:(gs ++ [q]).getD gs.length ⟨none,0,0⟩=q:=by rw [List.getD_eq_getElem?_getD,List.getElem?_concat_length]; rfl
   rw [this]
theorem grL_get {ks:List (Kq α)} {gs:List Sl} {i:Nat} {p:Kq α} {q:Sl} (hp:ks[i]? = some p) (hq:gs[i]? = some q):(grL En t f ks gs)[i]? = some (GrA En t f i p.1 p.2.length q (p.2.length + 72)):=by
 have hi:=(List.getElem?_eq_some_iff.1 hq).1
 unfold grL
 rw [List.getElem?_map,List.getElem?_range hi]
 have e1:ks.getD i (⟨none,0,0⟩,[])=p:=by rw [List.getD_eq_getElem?_getD,hp]; rfl
 have e2:gs.getD i ⟨none,0,0⟩=q:=by rw [List.getD_eq_getElem?_getD,hq]; rfl
 simp only [Option.map_some,e1,e2]
end
theorem St.one {w:World} {A:As} {S:Nat→Prop} (h:A.p w S):St w [A]:=⟨S,S,no,h,fun _ h=>h,fun _ _ h=>h,fun k=>by simp⟩
/-- the book's cells: lists of ints and of entries alone -/
abbrev bookC (IL IW EL EW:Sl):List Value:=[.slice none 0 0,.slice none 0 0,.slice IL.a IL.len IL.cap,.slice IW.a IW.len IW.cap,.slice none 0 0,.slice none 0 0,.slice none 0 0,.slice none 0 0,.slice EL.a EL.len EL.cap,.slice EW.a EW.len EW.cap,.slice none 0 0,.slice none 0 0,.slice none 0 0,.slice none 0 0,.slice none 0 0,.slice none 0 0]
end Go.Proofs.YtgacpkgaogiocaaGreatDoor
