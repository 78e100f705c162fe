/- BucketPlays. -/
import Derived.Test.YtgacpkgaogiocaaGreatDoorFh
import Derived.Test.YtgacpkgaogiocaaGreatDoorSq
import Derived.OpenShut
import Derived.Test.YtgacpkgaogiocaaGreatDoorRows
set_option linter.unusedVariables false
namespace Go.Proofs.YtgacpkgaogiocaaGreatDoor
open Go Go.Vc Go.RowKit Go.Lib Go.Maps
theorem findE_len (L:List Ey) (k:Int) (s:Bs):(findE L k s).length≤L.length:=by
 unfold findE
 rw [List.length_map]
 exact List.length_filter_le _ _
theorem idx_ok {a:Int} {n:Nat} (hn:0 < n) (hb:n≤1000000):∃ i:Nat,i < n∧(w64 (a.tmod (n:Int) + (n:Int))).tmod (n:Int)=i:=by
 have hn0:(n:Int)≠0:=by omega
 have h1:a.tmod (n:Int) < n:=Int.tmod_lt_of_pos a (by omega)
 have h2 : -(n:Int) < a.tmod (n:Int):=by
   have:=Int.lt_tmod_of_pos a (b:=(n:Int)) (by omega)
   omega
 rw [w64_id (by omega) (by omega)]
 refine ⟨((a.tmod n + n).tmod n).toNat,?_,?_⟩
 · have h3:=Int.tmod_lt_of_pos (a.tmod (n:Int) + n) (b:=(n:Int)) (by omega)
   have h4:=Int.tmod_nonneg (a:=a.tmod (n:Int) + n) (n:Int) (by omega)
   omega
 · have h4:=Int.tmod_nonneg (a:=a.tmod (n:Int) + n) (n:Int) (by omega)
   omega
section
variable {w:World} {X:List As}
/-- behind an act: what there is, and the lent list -/
abbrev Pl17 (X:List As) (k g cd gb z:Nat) (pk:Int) (ps:Bs) (a:Option Addr) (c:Nat) (l2:Sl) (ys:List Ey) (ki:List (Kq Int)) (ke:List (Kq Ey)) (hv:Sl) (L:List Ey) (D:DkV):List As:=
 Row EE T.y_api_Entry hv L :: DeskS k g cd D :: Row EE T.y_api_Entry ⟨a,ys.length + 1,c⟩ (ys ++ [mk77]) :: Row EE T.y_api_Entry l2 ys :: BkS gb ki ke :: Cs z [.int .i64 pk,.string (tx ps)] T.y_api_Print :: X
/-- what an act did -/
def Did17 (X:List As) (k g cd gb z:Nat) (pk:Int) (ps:Bs) (a:Option Addr) (c:Nat) (l2:Sl) (ys:List Ey) (ki:List (Kq Int)) (ke:List (Kq Ey)) (gen:Int) (hv:Sl) (L:List Ey) (D:DkV) (next:Sl) (want r e:Int) (w:World):Prop:=
 (want=e∧e≠0∧r=0∧St w (Pl17 X k g cd gb z pk ps a c l2 ys ki ke hv L D))∨
 (want=0∧e=0∧∃ D' es' L' qs',L'.length≤L.length + ys.length∧D'.bs.length=1889∧Have D' es'∧TabD es' gen r L' qs' 150∧St w (Pl17 X k g cd gb z pk ps a c l2 ys ki ke next L' D'))
set_option maxHeartbeats 8000000 in
theorem BucketPlays_st (h:St w X) {gen:Int} {ops:Sl} {os:List Op17} (hx:∀ w',St w' X→Ops17 w' ops os) {pk:Int} {ps:Bs} {R:Bool→World→Prop} (hR:∀ w',St w' X→R true w'):F.masonrylaw17_BucketPlays gen ops pk (tx ps) w R:=by
 have hol:=(hx _ h).1.1
 apply E.masonrylaw17_BucketPlays
 unfold V.masonrylaw17_BucketPlays
 try simp -zeta only [ldC,soC,brC,bkA,slC,cnd_all,blk_add2,Nat.reduceAdd]
 refine St.al h fun wa1 h=>?_
 generalize w.heap.size=z at *
 refine ⟨fun b w'=>St w' (Cs z [.int .i64 pk,.string (tx ps)] T.y_api_Print :: X)∧(b=false→Lt17 os∧1≤gen∧gen≤3∧ps.length≤100),?_,?_⟩
 · refine Light17_st h (fun w' hw=>hx w' hw.drop) fun b w1 q hb=>?_
   have kt:St w1 (Cs z [.int .i64 pk,.string (tx ps)] T.y_api_Print :: X)∧(true=false→Lt17 os∧1≤gen∧gen≤3∧ps.length≤100):=⟨q,fun h=>(by cases h)⟩
   refine ⟨fun _=>kt,fun hb1=>⟨fun _=>kt,fun h2=>⟨fun _=>kt,fun h3=>⟨_,q.cell 1,fun _=>kt,fun h4=>alive17_st q fun w2 q=>⟨q,fun _=>⟨hb (by cases b <;> simp_all),by omega,by omega,?_⟩⟩⟩⟩⟩⟩
   rw [tx_size] at h4
   omega
 rintro b w1 ⟨q,hb⟩
 refine ⟨fun _=>alive17_st q fun w' q=>hR w' q.drop,fun hbf=>?_⟩
 obtain ⟨hLt,hg1,hg2,hps⟩:=hb hbf
 refine Fresh_st q (n:=2000) (by decide) (by decide) fun k g w3 q=>?_
 simp -zeta only [Option.isNone_some,Bool.false_eq_true,false_implies,true_and,forall_const,true_implies]
 have hl0:(fmt0 2000).bs.length=1889:=by rw [fmt0_bs,bs0_len]
 have hroom:∀ D:DkV,D.bs.length=1889→(bktN 150 + 2) * needN (35 * 150) + 2≤D.bs.length:=fun D h=>by rw [h]; decide
 refine St.al q fun wa2 q=>?_
 have q:=BkS.new q
 generalize w3.heap.size=gb at *
 refine ⟨fun root hv i w'=>∃ (m:Nat) (D:DkV) (es:List Ent) (L:List Ey) (qs:List Int) (ki:List (Kq Int)) (ke:List (Kq Ey)),i=m∧m≤os.length∧L.length≤sumO (os.take m)∧D.bs.length=1889∧Have D es∧TabD es gen root L qs 150∧ki.length=2 * m∧ke.length=m∧(∀ p∈ki,p.2.length≤100000)∧(∀ p∈ke,p.2.length≤100000)∧
   St w' (Row EE T.y_api_Entry hv L :: DeskS k g (1001 + 2800 * m) D :: BkS gb ki ke :: Cs z [.int .i64 pk,.string (tx ps)] T.y_api_Print :: X),fun _ _ i _=>((os.length:Int) - i).toNat,
   ⟨0,_,[],[],[],[],[],rfl,Nat.zero_le _,Nat.zero_le _,hl0,Have.fmt (by decide) (by decide),TabD.empty gen,rfl,rfl,fun p h=>(by cases h),fun p h=>(by cases h),St.row0 q.sw EE T.y_api_Entry⟩,?_⟩
 rintro root hv _ w4 ⟨m,D,es,L,qs,ki,ke,rfl,hm,hLs,hD,hH,hT,hki,hke,hzi,hze,q⟩
 have hfew:=hLt.few
 refine ⟨fun hlt=>?_,fun _=>BookApart_st q.up2 (by omega) (by omega) hzi hze fun w' q=>hR w' q.drop.drop.drop⟩
 have hlt:m < os.length:=by omega
 have hms:((os.length:Int) - ((m + 1:Nat):Int)).toNat < ((os.length:Int) - (m:Int)).toNat:=by omega
 have hsum:sumO (os.take m) + os[m].xs.length≤150:=by
   rw [← sumO_take hlt]
   refine Nat.le_trans ?_ hLt.room
   have e:sumO os=sumO (os.take (m + 1)) + sumO (os.drop (m + 1)):=by
     unfold sumO
     rw [← List.sum_append,← List.map_append,List.take_append_drop]
   omega
 have hsh:=hLt.short _ (List.getElem_mem hlt)
 have hstk:=sumO_take hlt
 obtain ⟨ad,ha,hal,c0,c1,c2⟩:=(hx _ q.drop.drop.drop.drop).at_ hlt
 obtain ⟨hox,hon⟩:=(hx _ q.drop.drop.drop.drop).2 _ (List.getElem_mem hlt)
 refine ⟨ad,ha,by omega,by omega,_,c0,_,c1,_,c2,?_⟩
 generalize hoe:os[m]=o at *
 refine St.al q fun wa3 q=>?_
 refine St.fill3 q fun wa6 q=>?_
 generalize w4.heap.size=zo at *
 refine ⟨_,q.cell 1,?_⟩
 have hox:=((hx _ q.drop.drop.drop.drop.drop).2 _ (List.getElem_mem hlt)).1
 rw [hoe] at hox
 refine St.copy (t:=T.y_api_Entry) (bytes:=32) elt_ey q hox hon (by omega) (by omega) fun l2 w12 q=>?_
 have hlL:L.length≤150:=by omega
 refine ⟨fun w'=>∃ ys:List Ey,ys.length=o.xs.length∧(∀ y∈ys,y∈o.xs∨y∈L)∧St w' (Row EE T.y_api_Entry l2 ys :: Cs zo [.int .i64 o.kind,.slice o.l.a o.l.len o.l.cap,.bool o.own] T.y_masonrylaw17_Op :: Row EE T.y_api_Entry hv L :: DeskS k g (1001 + 2800 * m) D :: BkS gb ki ke :: Cs z [.int .i64 pk,.string (tx ps)] T.y_api_Print :: X),?_,?_⟩
 · refine ⟨fun j w'=>∃ (n:Nat) (ys:List Ey),j=n∧n≤o.xs.length∧ys.length=o.xs.length∧(∀ y∈ys,y∈o.xs∨y∈L)∧St w' (Row EE T.y_api_Entry l2 ys :: Cs zo [.int .i64 o.kind,.slice o.l.a o.l.len o.l.cap,.bool o.own] T.y_masonrylaw17_Op :: Row EE T.y_api_Entry hv L :: DeskS k g (1001 + 2800 * m) D :: BkS gb ki ke :: Cs z [.int .i64 pk,.string (tx ps)] T.y_api_Print :: X),fun j _=>((o.xs.length:Int) - j).toNat,⟨0,o.xs,rfl,Nat.zero_le _,rfl,fun y h=>.inl h,q⟩,?_⟩
   clear q
   rintro _ w13 ⟨n,ys,rfl,hn,hyl,hys,q⟩
   have h2l:=(St.has q (by decide)).1
   have hvl:=(St.has q.up2 (by decide)).1
   refine ⟨fun hj=>⟨_,q.sw.cell 2,fun hown=>⟨fun hpos=>?_,fun _=>⟨ys,hyl,hys,q⟩⟩,fun _=>⟨ys,hyl,hys,q⟩⟩,fun _=>⟨ys,hyl,hys,q⟩⟩
   have hj:n < ys.length:=by omega
   obtain ⟨a1,ha1,hb1,_,_,d2⟩:=Has.ey (St.has q (by decide)) hj
   obtain ⟨i,hi,ei⟩:=idx_ok (a:=ys[n].a) (n:=L.length) (by omega) (by omega)
   obtain ⟨a2,ha2,hb2,e0,e1,e2⟩:=Has.ey (St.has q.up2 (by decide)) hi
   rw [hvl]
   refine ⟨a1,ha1,by omega,by omega,_,d2,by omega,by omega,a2,ha2,?_⟩
   rw [ei]
   refine ⟨by omega,by omega,_,e0,_,e1,_,e2,a1,ha1,by omega,by omega,?_⟩
   refine Row.stE3 q hj ha1 L[i] fun w14 q=>?_
   rw [w64_succ (by omega)]
   refine ⟨⟨n + 1,ys.set n L[i],rfl,by omega,by rw [List.length_set]; exact hyl,fun y hy=>?_,q⟩,by show ((o.xs.length:Int) - ((n + 1:Nat):Int)).toNat < ((o.xs.length:Int) - (n:Int)).toNat; omega⟩
   rcases List.mem_or_eq_of_mem_set hy with h | h
   · exact hys y h
   · exact .inr (h ▸ List.getElem_mem hi)
 clear q
 rintro w17 ⟨ys,hyl,hys,q⟩
 have hyh:∀ y∈ys,y.s.length≤1000000000:=fun y hy=>by
   rcases hys y hy with h | h
   · have:=hsh y h; omega
   · exact (hT.ok y h).hash
 refine LentEntries_st q (St.has q (by decide)) (Row.nilOk q) (by omega) fun a c w18 q=>?_
 have ecd:1001 + 2800 * m + 2800=1001 + 2800 * (m + 1):=by omega
 refine ⟨Did17 X k g (1001 + 2800 * (m + 1)) gb z pk ps a c l2 ys ki ke gen hv L D,?_,?_⟩
 · refine ⟨_,q.up2.cell0,fun _=>?_,fun _=>?_⟩
   · have hfl:=allF_len addS_len L ys
     refine RefAdd_st q (fun w' hw=>St.has hw.up3 (by decide)) (Row.nilOk q.up3) (Row.cap q.up3) ⟨hT.srt,hT.ok⟩ (fun w' hw=>St.has hw.sw (by decide)) (by omega) (fun w19 e he hne q=>?_) fun w19 now he hN=>?_
     · refine Add_st q.up4 hH hT ⟨hg1,hg2⟩ (by decide) (hroom D hD) (xs:=ys) (fun w' hw=>Lent.has hw) (by omega) hyh (by omega) (fun w20 e' he' hne' q=>?_) fun w20 D' es' root' ps' h0=>absurd (he ▸ h0) hne
       rw [ecd] at q
       exact .inl ⟨he.symm.trans he',hne',rfl,q.d4.up3⟩
     · rcases hN with ⟨rfl,hacc,q⟩ | q
       · refine Add_st q.up4 hH hT ⟨hg1,hg2⟩ (by decide) (hroom D hD) (xs:=ys) (fun w' hw=>Lent.has hw) (by omega) hyh (by omega) (fun w20 e' he' hne' q=>absurd (he'.symm.trans he) hne') fun w20 D' es' root' ps' h0 hH' hS' hT' q=>?_
         rw [ecd] at q
         rw [hacc] at hT'
         exact .inr ⟨rfl,rfl,D',es',L,ps',by omega,hS'.2.trans hD,hH',hT',q.d4.up3⟩
       · have q:=q.up4.drop.d4.up3
         refine Add_st q hH hT ⟨hg1,hg2⟩ (by decide) (hroom D hD) (xs:=ys) (fun w' hw=>Lent.has hw.drop) (by omega) hyh (by omega) (fun w20 e' he' hne' q=>absurd (he'.symm.trans he) hne') fun w20 D' es' root' ps' h0 hH' hS' hT' q=>?_
         rw [ecd] at q
         exact .inr ⟨rfl,rfl,D',es',_,ps',hfl,hS'.2.trans hD,hH',hT',q.sw⟩
   · have hfl:=allF_len dropS_len L ys
     refine RefDrop_st q (fun w' hw=>St.has hw.up3 (by decide)) (Row.nilOk q.up3) (Row.cap q.up3) ⟨hT.srt,hT.ok⟩ (fun w' hw=>St.has hw.sw (by decide)) (by omega) (fun w19 e he hne q=>?_) fun w19 now he hN=>?_
     · refine Drop_st17 q.up4 hH hT ⟨hg1,hg2⟩ (by decide) (hroom D hD) (xs:=ys) (fun w' hw=>Lent.has hw) (by omega) hyh (by omega) (fun w20 e' he' hne' q=>?_) fun w20 D' es' root' ps' h0=>absurd (he ▸ h0) hne
       rw [ecd] at q
       exact .inl ⟨he.symm.trans he',hne',rfl,q.d4.up3⟩
     · rcases hN with ⟨rfl,hacc,q⟩ | q
       · refine Drop_st17 q.up4 hH hT ⟨hg1,hg2⟩ (by decide) (hroom D hD) (xs:=ys) (fun w' hw=>Lent.has hw) (by omega) hyh (by omega) (fun w20 e' he' hne' q=>absurd (he'.symm.trans he) hne') fun w20 D' es' root' ps' h0 hH' hS' hT' q=>?_
         rw [ecd] at q
         rw [hacc] at hT'
         exact .inr ⟨rfl,rfl,D',es',L,ps',by omega,hS'.2.trans hD,hH',hT',q.d4.up3⟩
       · have q:=q.up4.drop.d4.up3
         refine Drop_st17 q hH hT ⟨hg1,hg2⟩ (by decide) (hroom D hD) (xs:=ys) (fun w' hw=>Lent.has hw.drop) (by omega) hyh (by omega) (fun w20 e' he' hne' q=>absurd (he'.symm.trans he) hne') fun w20 D' es' root' ps' h0 hH' hS' hT' q=>?_
         rw [ecd] at q
         exact .inr ⟨rfl,rfl,D',es',_,ps',hfl,hS'.2.trans hD,hH',hT',q.sw⟩
 clear q
 rintro next want r e w23 hK
 refine ⟨fun b w'=>b=false∧Did17 X k g (1001 + 2800 * (m + 1)) gb z pk ps a c l2 ys ki ke gen hv L D next want r e w',?_,?_⟩
 · rcases hK with ⟨rfl,he,hr,q⟩ | ⟨rfl,rfl,D',es',L',qs',h1,h2,h3,h4,q⟩
   · refine ⟨fun h=>absurd rfl h,fun _=>StaysEntries_st q.up2 (fun w' hw=>St.has hw.up2 (by decide)) (by omega) fun w24 q=>⟨fun h=>(by cases h),fun _=>⟨fun _=>⟨?_,.inl ⟨rfl,he,hr,q.dn2⟩⟩,fun h=>absurd h he⟩⟩⟩
     rw [hr]; rfl
   · refine ⟨fun h=>absurd rfl h,fun _=>StaysEntries_st q.up2 (fun w' hw=>St.has hw.up2 (by decide)) (by omega) fun w24 q=>⟨fun h=>(by cases h),fun _=>⟨fun h=>absurd rfl h,fun _=>⟨rfl,.inr ⟨rfl,rfl,D',es',L',qs',h1,h2,h3,h4,q.dn2⟩⟩⟩⟩⟩
 clear hK
 rintro b w25 ⟨rfl,hK⟩
 refine ⟨fun h=>(by cases h),fun _=>?_⟩
 refine ⟨fun root1 hv1 w'=>∃ D' es' L' qs',L'.length≤L.length + ys.length∧D'.bs.length=1889∧Have D' es'∧TabD es' gen root1 L' qs' 150∧St w' (Row EE T.y_api_Entry hv1 L' :: DeskS k g (1001 + 2800 * (m + 1)) D' :: BkS gb ki ke :: Cs z [.int .i64 pk,.string (tx ps)] T.y_api_Print :: X),?_,?_⟩
 · rcases hK with ⟨rfl,he,hr,q⟩ | ⟨rfl,rfl,D',es',L',qs',h1,h2,h3,h4,q⟩
   · exact ⟨fun h=>absurd h he,fun _=>⟨D,es,L,qs,by omega,hD,hH,hT,q.d3.d3⟩⟩
   · exact ⟨fun _=>⟨D',es',L',qs',h1,h2,h3,h4,q.d3.d3⟩,fun h=>absurd rfl h⟩
 clear hK hT hH hD
 rintro root1 hv1 w26 ⟨D',es',L',qs',hL',hD',hH',hT',q⟩
 have hM:(150:Nat)≤269:=by decide
 have hal':=hH'.all
 have hnl:(nextT (allP es')).length≤1889:=by
   have h1:=allL_len D'.bs D'.bs.length
   rw [hal',hD'] at h1
   simp only [List.length_cons] at h1
   omega
 have hfl:=findE_len L' pk ps
 refine All_b q.sw hH' hT' hM fun l6 w27 q=>?_
 refine ⟨_,q.up4.cell0,_,q.up4.cell 1,?_⟩
 refine Find_st q.sw hH' hT' hM (by omega) fun l7 w28 q=>?_
 refine Sectors_b q.sw hH' hT' hM fun l8 w29 q=>?_
 have hn8:=Row.nilOk q
 -- l8, desk, l7, l6, hv1, book, z
 refine KeepEntries_st (q.up3.up5).sw (by omega) (by omega) fun w30 q=>?_
 -- book, l8, desk, l7, hv1, z
 refine KeepInts_st q.up3 (by omega) (by omega) fun w31 q=>?_
 -- book, l8, desk, hv1, z
 refine KeepInts_st q.sw (by rw [List.length_append,List.length_singleton]; omega) (by omega) fun w32 q=>?_
 generalize hki':ki ++ [(l7,findE L' pk ps)] ++ [(l8,nextT (allP es'))]=ki' at *
 have g7:ki'[ki.length]? = some (l7,findE L' pk ps):=by rw [← hki']; simp
 have g8:ki'[ki.length + 1]? = some (l8,nextT (allP es')):=by
   rw [← hki',List.getElem?_append_right (by simp)]
   simp
 generalize hke':ke ++ [(l6,L')]=ke' at *
 have g6:ke'[ke.length]? = some (l6,L'):=by rw [← hke']; simp
 refine Room_st q.sw fun r w33 q=>?_
 -- room, desk, book, hv1, z
 refine ⟨fun h=>absurd rfl h,fun _=>⟨fun h=>absurd rfl h,fun _=>⟨fun h=>absurd rfl h,fun _=>⟨fun h=>(by cases h),fun _=>?_⟩⟩⟩⟩
 refine SameE_st q (fun w' hw=>BkS.hasE hw.up2 g6) (fun w' hw=>St.has hw.up3 (by decide)) (by show L'.length≤_; omega) fun w34 q=>?_
 rw [decide_eq_true rfl]
 refine ⟨fun h=>(by cases h),fun _=>⟨_,q.up4.cell0,_,q.up4.cell 1,?_⟩⟩
 refine RefFind_st q (fun w' hw=>St.has hw.up3 (by decide)) (by omega) fun l9 w35 q=>?_
 refine SameI_st q (fun w' hw=>BkS.hasI hw.up3 g7) (fun w' hw=>St.has hw (by decide)) (by show (findE L' pk ps).length≤_; omega) fun w36 q=>?_
 rw [decide_eq_true rfl]
 refine ⟨fun h=>(by cases h),fun _=>?_⟩
 refine All_st q.sw (by omega) fun l10 w37 q=>?_
 refine St.al q fun wa7 q=>?_
 have q:=St.rowLit q (En:=EI) (xs:=[0,1]) (n:=2) rfl rfl (by decide)
 refine St.appN elt_int q (BkS.hasI q.up5 g8) hn8 (by simp only [List.length_cons,List.length_nil]; omega) (by simp only [List.length_cons,List.length_nil]; omega) fun l11 w39 q _=>?_
 refine SameI_st q (fun w' hw=>St.has hw.sw (by decide)) (fun w' hw=>St.has hw (by decide)) (by rw [hal']; simp only [List.length_cons]; omega) fun w40 q=>?_
 rw [decide_eq_true (by rw [hal']; rfl)]
 refine ⟨fun h=>(by cases h),fun _=>?_⟩
 have q:=q.drop.drop.drop.drop
 -- desk, book, hv1, z
 have hvl:=(St.has q.up2 (by decide)).1
 have hrt:((root1 == 0) == (((hv1.len:Nat):Int) == 0))=true:=by
   rcases hT'.rt with ⟨h1,h2⟩ | ⟨h1,h2,_⟩
   · rw [hvl,h1,h2]; rfl
   · have e1:(root1 == 0)=false:=by simpa using h1
     have e2:(((hv1.len:Nat):Int) == 0)=false:=by
       have:L'.length≠0:=fun h=>h2 (List.eq_nil_of_length_eq_zero h)
       rw [hvl]
       simpa using h2
     rw [e1,e2]; rfl
 rw [hrt]
 refine ⟨fun h=>(by cases h),fun _=>?_⟩
 refine Check_b q hH' hT' hM fun w41 q=>⟨fun h=>absurd rfl h,fun _=>?_⟩
 rw [w64_succ (by omega)]
 refine ⟨⟨m + 1,D',es',L',qs',ki',ke',rfl,hlt,by omega,hD',hH',hT',?_,?_,?_,?_,q.up2⟩,hms⟩
 · rw [← hki']; simp; omega
 · rw [← hke']; simp; omega
 · rw [← hki']
   intro p hp
   simp only [List.mem_append,List.mem_singleton] at hp
   rcases hp with (hp | rfl) | rfl
   · exact hzi p hp
   · show (findE L' pk ps).length≤_
     omega
   · show (nextT (allP es')).length≤_
     omega
 · rw [← hke']
   intro p hp
   simp only [List.mem_append,List.mem_singleton] at hp
   rcases hp with hp | rfl
   · exact hze p hp
   · show L'.length≤_
     omega
theorem Ops17.fr {w w':World} {l:Sl} {os:List Op17} (h:Ops17 w l os) (hB:Below w.heap.size w w'):Ops17 w' l os:=⟨h.1.fr (fr_below hB),fun o ho=>⟨(h.2 o ho).1.fr (fr_below hB),(h.2 o ho).2⟩⟩
theorem BucketPlays_spec {gen:Int} {ops:Sl} {os:List Op17} (hops:Ops17 w ops os) {pr0:Int} {pr1:Bs} {R:Bool→World→Prop} (hR:∀ w',Below w.heap.size w w'→R true w'):F.masonrylaw17_BucketPlays gen ops pr0 (tx pr1) w R:=
 BucketPlays_st (St.start w) (fun w' hw=>hops.fr (St.old hw)) fun w' h=>hR w' (St.old h)
end
end Go.Proofs.YtgacpkgaogiocaaGreatDoor

/- What a typed reading of the handed values meets, told by the words of what lies where. -/
set_option linter.unusedVariables false
namespace Go.Proofs.YtgacpkgaogiocaaGreatDoor
open Go Go.Vc Go.RowKit Go.Lib
/-- whatever is read as of this type is laid as that -/
def Reads (P:Program) (t:TypeId) {α:Type} (En:Enc α) (Q:World→α→Prop):Prop:=
 ∀ (H:Type) (enc:TypeId × Value→H) (W:World) (fuel:Nat) (cs:List Value) (x:DataW H × List MemPlace),DataW.trod enc P W 0 (fun _=>true) true fuel t cs=some x→∃ v,cs=En.cells v∧Q W v
def EBool:Enc Bool:=⟨fun x=>[.bool x],1,fun _=>rfl,fun _ u hu=>by simp at hu; subst hu; rfl⟩
def ES (α:Type):Enc (Sl × List α):=⟨fun v=>[slV v.1],1,fun _=>rfl,fun _ u hu=>by simp at hu; subst hu; rfl⟩
def EU:Enc Unit:=⟨fun _=>[],0,fun _=>rfl,fun _ u hu=>by cases hu⟩
def EP {α β:Type} (A:Enc α) (B:Enc β):Enc (α × β):=⟨fun v=>A.cells v.1 ++ B.cells v.2,A.n + B.n,fun v=>by rw [List.length_append,A.len,B.len],fun v u hu=>by
 rcases List.mem_append.1 hu with h | h
 · exact A.one _ u h
 · exact B.one _ u h⟩
abbrev QI:World→Int→Prop:=fun _ v=>-9223372036854775808≤v∧v < 9223372036854775808
abbrev QS {α:Type} (En:Enc α) (Q:World→α→Prop):World→Sl × List α→Prop:=fun W v=>Has En W v.1 v.2∧NilOk v.1∧v.1.len≤v.1.cap∧v.1.cap≤maxLen∧∀ x∈v.2,Q W x
section
variable {P:Program}
theorem reads_int {t:TypeId} (hu:P.underlying t=some (.int .i64)):Reads P t EI QI:=fun H enc W fuel cs x h=>by
 obtain ⟨n,rfl,_,hw⟩:=DataW.trod_int hu h
 refine ⟨n,rfl,?_⟩
 have h1:IntKind.i64.min≤n∧n≤9223372036854775807:=by simpa [Lit.wf] using hw
 have h2:IntKind.i64.min = -9223372036854775808:=by decide
 omega
theorem reads_str {t:TypeId} (hu:P.underlying t=some .string):Reads P t ET fun _ _=>True:=fun H enc W fuel cs x h=>by
 obtain ⟨s,rfl,_⟩:=DataW.trod_string hu h
 exact ⟨s.data.toList,by show _=[Value.string (tx _)]; rw [tx_self],trivial⟩
theorem reads_bool {t:TypeId} (hu:P.underlying t=some .bool):Reads P t EBool fun _ _=>True:=fun H enc W fuel cs x h=>by
 obtain ⟨b,rfl,_⟩:=DataW.trod_bool hu h
 exact ⟨b,rfl,trivial⟩
theorem reads_slice {t e : TypeId} {α : Type} [Nonempty α] {En : Enc α} {Q : World → α → Prop} (hu : P.underlying t = some (.slice e)) (hc : P.cellsOf e = En.n) (he : Reads P e En Q) :
   Reads P t (ES α) (QS En Q):=fun H enc W fuel cs x h=>by
 rcases DataW.trod_slice hu h with ⟨hcs,_⟩ | ⟨ad,len,c,elems,rest,n,_,hcs,_,_,hlc,hcm,hel,hi,_⟩
 · subst hcs
   exact ⟨(⟨none,0,0⟩,[]),rfl,Has.nil,fun _=>rfl,Nat.le_refl _,Nat.zero_le _,fun x hx=>by cases hx⟩
 · have hx : ∀ i, ∃ x : α, i < len → (∀ k u, (En.cells x)[k]? = some u → W.cell? (ad.add (i * En.n + k)) = some u) ∧ Q W x := by
     intro i
     by_cases hil:i < len
     · have h1:=hi i hil
       rw [hc,List.getElem?_eq_getElem (by omega)] at h1
       obtain ⟨cs',hcc,ht⟩:=Option.bind_eq_some_iff.1 h1
       obtain ⟨v,rfl,hq⟩:=he _ _ _ _ _ _ ht
       obtain ⟨_,hcl,hat⟩:=World.cells?_some hcc
       refine ⟨v,fun _=>⟨fun k u hk=>?_,hq⟩⟩
       have hk2:=(List.getElem?_eq_some_iff.1 hk).1
       rw [En.len] at hk2
       have:=hat k hk2
       rw [Vc.addr_add] at this
       rw [this]; exact hk
     · obtain ⟨y⟩:=‹Nonempty α›
       exact ⟨y,fun h=>absurd h hil⟩
   obtain ⟨f,hf⟩:=Classical.axiomOfChoice hx
   refine ⟨(⟨some ad,len,c⟩,(List.range len).map f),hcs,⟨by simp,fun j x hj=>?_⟩,fun h=>(by cases h),hlc,hcm,fun x hx=>?_⟩
   · have hlt:j < len:=by have:=(List.getElem?_eq_some_iff.1 hj).1; simpa using this
     simp [hlt] at hj
     subst hj
     exact ⟨ad,rfl,(hf j hlt).1⟩
   · simp only [List.mem_map,List.mem_range] at hx
     obtain ⟨j,hj,rfl⟩:=hx
     exact (hf j hj).2
/-- fields, from an offset on -/
inductive RdF (P:Program):Nat→List Field→{α:Type}→Enc α→(World→α→Prop)→Prop where
 | nil {off}:RdF P off [] EU fun _ _=>True
 | cons {off : Nat} {f : Field} {fs : List Field} {α β : Type} {A : Enc α} {B : Enc β} {Q : World → α → Prop} {Q' : World → β → Prop} (ho : f.offset = off) (hc : P.cellsOf f.type = A.n) (h : Reads P f.type A Q) (r : RdF P (off + A.n) fs B Q') :
     RdF P off (f :: fs) (EP A B) fun W v=>Q W v.1∧Q' W v.2
theorem RdF.get {off : Nat} {fs : List Field} {α : Type} {En : Enc α} {Q : World → α → Prop} (h : RdF P off fs En Q) : ∀ {H : Type} {enc : TypeId × Value → H} {W : World} {n : Nat} {cs : List Value}, cs.length = off + En.n →
   (∀ (i:Nat) (f:Field),fs[i]? = some f→∃ y,DataW.trod enc P W 0 (fun _=>true) true n f.type ((cs.drop f.offset).take (P.cellsOf f.type))=some y)→∃ v,cs.drop off=En.cells v∧Q W v:=by
 induction h with
 | nil=>intro H enc W n cs hl _; exact ⟨(),List.drop_eq_nil_of_le (by rw [hl]; exact Nat.le_refl _),trivial⟩
 | @cons off f fs α β A B Q Q' ho hc h r ih=>
   intro H enc W n cs hl hy
   obtain ⟨y,h0⟩:=hy 0 f rfl
   rw [ho,hc] at h0
   obtain ⟨v,hv,hq⟩:=h _ _ _ _ _ _ h0
   have hl':cs.length=off + A.n + B.n:=by rw [hl]; show off + (A.n + B.n)=_; omega
   obtain ⟨v',hv',hq'⟩:=ih (H:=H) (enc:=enc) (W:=W) (n:=n) (cs:=cs) hl' fun i g hg=>hy (i + 1) g (by simpa using hg)
   refine ⟨(v,v'),?_,hq,hq'⟩
   show cs.drop off=A.cells v ++ B.cells v'
   rw [← hv,← hv']
   have:cs.drop (off + A.n)=(cs.drop off).drop A.n:=by rw [List.drop_drop]
   rw [this,List.take_append_drop]
theorem reads_struct {t:TypeId} {fs:Array Field} {α:Type} {En:Enc α} {Q:World→α→Prop} (hu:P.underlying t=some (.struct fs)) (hc:P.cellsOf t=En.n) (h:RdF P 0 fs.toList En Q):Reads P t En Q:=fun H enc W fuel cs x hx=>by
 obtain ⟨ys,n,_,_,hlen,hyl,hfld⟩:=DataW.trod_struct hu hx
 have hl:cs.length=0 + En.n:=by rw [hlen,hc]; omega
 obtain ⟨v,hv,hq⟩:=h.get (H:=H) (enc:=enc) (W:=W) (n:=n) hl fun i f hf=>by
   have hf:fs[i]? = some f:=by simpa using hf
   have h1:=hfld i f hf
   have hi:i < fs.size:=(Array.getElem?_eq_some_iff.1 hf).1
   rw [List.getElem?_eq_getElem (by omega)] at h1
   exact ⟨_,h1⟩
 exact ⟨v,by simpa using hv,hq⟩
theorem Reads.to {t:TypeId} {α β:Type} {A:Enc α} {B:Enc β} {Q:World→α→Prop} {Q':World→β→Prop} (h:Reads P t A Q) (f:α→β) (hf:∀ x,A.cells x=B.cells (f x)) (hq:∀ W x,Q W x→Q' W (f x)):Reads P t B Q':=fun H enc W fuel cs x hx=>by
 obtain ⟨v,hv,q⟩:=h _ _ _ _ _ _ hx
 exact ⟨f v,by rw [hv,hf],hq _ _ q⟩
/-- a slice that came in -/
theorem Reads.slice {t:TypeId} {α:Type} {Q:World→Sl × List α→Prop} (hr:Reads P t (ES α) Q) {H:Type} {enc:TypeId × Value→H} {W:World} {a:Option Addr} {len cap:Nat} {d:DataW H} {p:List MemPlace} (h:DataW.Trod enc P W 0 (fun _=>true) true t (.slice a len cap) d p):∃ xs,Q W (⟨a,len,cap⟩,xs):=by
 obtain ⟨fuel,hf⟩:=h
 obtain ⟨⟨s,xs⟩,hcs,hq⟩:=hr _ _ _ _ _ _ hf
 have e:(⟨a,len,cap⟩:Sl)=s:=by
   have h3:[Value.slice a len cap]=[.slice s.a s.len s.cap]:=hcs
   simp only [List.cons.injEq,Value.slice.injEq,and_true] at h3
   obtain ⟨rfl,rfl,rfl⟩:=h3
   rfl
 exact ⟨xs,by rw [e]; exact hq⟩
end
end Go.Proofs.YtgacpkgaogiocaaGreatDoor

/- BucketPlays: the readings. -/
set_option linter.unusedVariables false
namespace Go.Proofs.YtgacpkgaogiocaaGreatDoor
open Go Go.Vc Go.RowKit Go.Lib
instance:Nonempty Ey:=⟨⟨0,[],0⟩⟩
instance:Nonempty Op17:=⟨⟨0,⟨none,0,0⟩,false,[]⟩⟩
theorem rd_int17:Reads Tryz.prog 3 EI QI:=reads_int Tryz.underlying3
theorem rd_pr17:Reads Tryz.prog 30 (EP EI (EP ET EU)) fun _ _=>True:=
 (reads_struct (En:=EP EI (EP ET EU)) Tryz.underlying30 (by kernel_rfl) (.cons rfl (by kernel_rfl) rd_int17 (.cons rfl (by kernel_rfl) (reads_str Tryz.underlying9) .nil))).to id (fun _=>rfl) fun _ _ _=>trivial
theorem rd_ey17:Reads Tryz.prog 34 EE fun _ _=>True:=
 (reads_struct (En:=EP (EP EI (EP ET EU)) (EP EI EU)) Tryz.underlying34 (by kernel_rfl) (.cons rfl (by kernel_rfl) rd_pr17 (.cons rfl (by kernel_rfl) rd_int17 .nil))).to (fun v=>⟨v.1.1,v.1.2.1,v.2.1⟩) (fun _=>rfl) fun _ _ _=>trivial
theorem rd_eys17:Reads Tryz.prog 27 (ES Ey) (QS EE fun _ _=>True):=reads_slice Tryz.underlying27 (by kernel_rfl) rd_ey17
theorem rd_op17:Reads Tryz.prog 61 EO17 fun W o=>Has EE W o.l o.xs∧NilOk o.l:=
 (reads_struct (En:=EP EI (EP (ES Ey) (EP EBool EU))) Tryz.underlying61 (by kernel_rfl) (.cons rfl (by kernel_rfl) rd_int17 (.cons rfl (by kernel_rfl) rd_eys17 (.cons rfl (by kernel_rfl) (reads_bool Tryz.underlying4) .nil)))).to
   (fun v=>⟨v.1,v.2.1.1,v.2.2.1,v.2.1.2⟩) (fun _=>rfl) fun W v h=>⟨h.2.1.1,h.2.1.2.1⟩
theorem rd_ops17:Reads Tryz.prog 47 (ES Op17) fun W v=>Ops17 W v.1 v.2:=(reads_slice Tryz.underlying47 (by kernel_rfl) rd_op17).to id (fun _=>rfl) fun W v h=>⟨h.1,h.2.2.2.2⟩
end Go.Proofs.YtgacpkgaogiocaaGreatDoor
