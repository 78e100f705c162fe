/- a table of buckets: load. -/
import Derived.Test.YtgacpkgaogiocaaGreatDoorEi
set_option linter.unusedVariables false
namespace Go.Proofs.YtgacpkgaogiocaaGreatDoor
open Go Go.Vc Go.RowKit Go.Lib Go.Maps
theorem MpS.al {w:World} {X:List As} (h:St w X) (z:Value) {P:World→Prop} (hP:∀ w',St w' (MpS z w.heap.size 0 (fun _=>none) :: X)→P w'):alC w (.map #[] 0) P:=hP _ (MpS.new h z)
/-- how long a slice is that lies in a cell -/
def slLen (w:World) (a:Addr):Nat:=match w.cell? a with | some (.slice _ n _)=>n | _=>0
theorem slLen_of {w:World} {a:Addr} {l:Sl} (h:w.cell? a=some (.slice l.a l.len l.cap)):slLen w a=l.len:=by unfold slLen; rw [h]
theorem TabD.rng {D:DkV} {es:List Ent} {gen root:Int} {L:List Ey} {ps:List Int} {M:Nat} (h:TabD es gen root L ps M) (hH:Have D es):∀ p∈root :: ps,p=0∨(2≤p∧p < 2000):=fun p hp=>by
 by_cases h0:p=0
 · exact .inl h0
 · obtain ⟨a,e,b,he,hat⟩:=h.cov.get hp h0
   have hm:e∈es:=by rw [he]; simp
   have:=hH.at_ hm
   rw [hat] at this
   exact .inr ⟨this.1,this.2.2⟩
def tb0 (gen root:Int) (n:Nat) (ps:List Int) (p:TbP):Tb:=⟨gen,root,n,ps,fun _=>none,fun _=>none,[],p⟩
section
variable {w:World} {X:List As} {t k g c cd:Nat} {D:DkV} {es:List Ent} {gen tg root:Int} {L:List Ey} {ps:List Int} {M:Nat}
set_option maxHeartbeats 4000000 in
theorem load_st (h : St w (DeskS k g cd D :: X)) (hH : Have D es) (hT : TabD es tg root L ps M) (hM : M ≤ 269) {R : Option Addr → Int → World → Prop}
   (hR:∀ t p w',St w' (TabS t k 0 (tb0 gen root L.length ps p) :: DeskS k g cd D :: X)→R (some (blk t)) 0 w'):F.bucket_load (some (blk k)) gen root w R:=by
 apply E.bucket_load
 unfold V.bucket_load
 try simp -zeta only [ldC,soC,brC,bkA,slC,cnd_all,blk_add2,Nat.reduceAdd]
 have hLm:=hT.many
 have hbl:=bktN_le L.length
 have hpl:=hT.plen
 refine MpS.al h zSl fun w1 q=>MpS.al q zB fun w2 q=>?_
 generalize w.heap.size=kb at *
 generalize w1.heap.size=wb at *
 refine St.al q fun wa1 q=>?_
 generalize w2.heap.size=t at *
 refine ⟨fun hz=>?_,fun hz=>?_⟩
 · have hz:root=0:=by first | exact hz | simpa using hz
   have hL:L=[]:=by
     rcases hT.rt with ⟨_,h2⟩ | ⟨h1,_⟩
     · exact h2
     · exact absurd hz h1
   have hps:ps=[]:=List.eq_nil_of_length_eq_zero (by rw [hpl,hL]; rfl)
   subst hL; subst hps
   have q1:St _ (As.all (([]:Rw).map rowA) :: _):=St.fold [] q
   have q2:=St.row0 q1.up2.up3 EI T.y_int
   exact hR t ⟨⟨none,0,0⟩,kb,wb⟩ _ (TabS.join ⟨fun x q hx=>(by cases hx),by show (0:Nat)≤1000; omega,by show (0:Nat)≤1000; omega,fun x hx=>(by cases hx)⟩ q2.up4)
 · have hz:¬ root=0:=by first | exact hz | simpa using hz
   have hrng:=hT.rng hH
   obtain ⟨hLne,en,hen,h1,h2,h3,h4⟩:L≠[]∧Ch es tg root 3 (rootB L.length ps):=by
     rcases hT.rt with ⟨h1,_⟩ | ⟨_,h2,h3⟩
     · exact absurd h1 hz
     · exact ⟨h2,h3⟩
   have hL1:1≤L.length:=by
     cases hc:L with
     | nil=>exact absurd hc hLne
     | cons a b=>simp
   subst h1
   refine Get_E q.up3 hH hen fun w3 q=>?_
   refine St.al q fun wa2 q=>?_
   generalize w3.heap.size=ch at *
   refine St.fill4 q fun wa6 q=>?_
   refine ⟨fun h=>absurd rfl h,fun _=>⟨_,q.cell 3,?_⟩⟩
   rw [h4]
   have hrl:=rootB_len L.length ps
   refine InS.on q fun gi w9 q=>InS.half q (by omega) fun w10 q=>?_
   have e2:(256:Int) ^ 2=65536:=by decide
   have er:lowIn 2 (rootB L.length ps) 0=((L.length:Int),ps.flatMap (leBytes 2),0):=lowIn_layI (by omega) (by omega) (by decide) _
   rw [er] at q ⊢
   have q:=q.up3
   refine St.st q (by simp) fun wa7 q=>?_
   refine ⟨fun w'=>∃ (m:Nat) (pl:Sl),m≤ps.length∧St w' (InS gi ((ps.drop m).flatMap (leBytes 2)) 0 :: Cs t (tbC k (tb0 gen en.x.at_ L.length [] ⟨pl,kb,wb⟩)) T.y_bucket_table :: Row EI T.y_int pl (ps.take m) :: Cs ch [.int .i64 en.x.gen,.int .i64 en.x.tag,.int .i64 en.x.refs,.string (tx en.x.data)] T.y_chain_Chain :: DeskS k g cd D :: MpS zB wb 0 (fun _=>none) :: MpS zSl kb 0 (fun _=>none) :: X),fun w'=>ps.length - slLen w' ((blk t).add 4),⟨0,⟨none,0,0⟩,Nat.zero_le _,(St.row0 q EI T.y_int).sw.up2⟩,?_⟩
   rintro w12 ⟨m,pl,hm,q⟩
   have hlen:((ps.drop m).flatMap (leBytes 2)).length=2 * (ps.length - m):=by rw [halves_len,List.length_drop]
   have hpm:pl.len=m:=by
     have:=(St.has q.up2 (by decide)).1
     rw [List.length_take] at this; omega
   have hsl:slLen w12 ((blk t).add 4)=m:=(slLen_of (q.sw.cell 4)).trans hpm
   refine InS.left q ?_
   rw [hlen]
   refine ⟨fun hpos=>?_,fun hend=>?_⟩
   · have hlt:m < ps.length:=by omega
     have hp:=hrng ps[m] (List.mem_cons_of_mem _ (List.getElem_mem _))
     have ed:(ps.drop m).flatMap (leBytes 2)=leBytes 2 ps[m] ++ (ps.drop (m + 1)).flatMap (leBytes 2):=by rw [List.drop_eq_getElem_cons hlt,List.flatMap_cons]
     refine St.dr q fun wa8 q=>?_
     refine ⟨_,q.sw.cell 4,?_⟩
     rw [ed] at q
     refine InS.half q (by rw [← ed,hlen]; omega) fun w15 q=>?_
     rw [lowIn_layI (by omega) (by omega) (by decide)] at q ⊢
     refine ⟨q.sw.cell 4,?_⟩
     refine St.al q fun wa9 q=>?_
     refine ⟨q.up2.cell 4,?_⟩
     refine St.app elt_int q.up3 (sl:=⟨some (blk _),1,1⟩) (ys:=[ps[m]]) (q.lit (En:=EI) (xs:=[ps[m]]) rfl rfl 1) rfl (by rw [List.length_take]; simp; omega) (by rw [List.length_take]; simp; omega) fun l1 w17 q hl1=>?_
     rw [← List.take_succ_eq_append_getElem hlt] at q
     have hl4:l1.len=m + 1:=by
       have:=(St.has q (by decide)).1
       rw [List.length_take] at this; omega
     have q:=q.d2.up2
     refine St.st q (by simp) fun wa10 q=>?_
     refine ⟨⟨m + 1,l1,hlt,q.up2⟩,?_⟩
     have:=slLen_of (q.cell 4)
     show ps.length - slLen _ _ < ps.length - slLen _ _
     rw [this,hsl,hl4]; omega
   · have hmm:m=ps.length:=by omega
     subst hmm
     rw [List.take_length,List.drop_length] at q
     refine St.dr q fun wa11 q=>?_
     refine ⟨_,q.up3.cell 1,fun e=>absurd h3 e,fun _=>InS.fin q fun w20 q=>⟨q.up3.cell 1,fun e=>absurd rfl e,fun _=>⟨_,q.sw.cell 3,fun hlt=>?_,fun _=>⟨_,q.sw.cell 4,_,q.sw.cell 3,buckets_any (n:=L.length) (by omega) ⟨q.sw.cell 4,q.sw.cell 3,q.up3.cell 1,fun hne=>?_,fun _=>?_⟩⟩⟩⟩⟩
     · have hlt:((L.length:Nat):Int) < 1:=hlt
       omega
     · have hne:¬ ((pl.len:Nat):Int)=(bktN L.length:Nat):=hne
       omega
     · have q:=(St.fold [] q.drop.d3:St _ (As.all (([]:Rw).map rowA) :: _))
       -- rows, t, pl, desk, wr, kn
       refine hR t ⟨pl,kb,wb⟩ _ (TabS.join ⟨fun x q hx=>(by cases hx),by show L.length≤1000; omega,by show ps.length≤1000; omega,fun x hx=>(by cases hx)⟩ ?_)
       exact q.up4.up5.up4.up4
end
end Go.Proofs.YtgacpkgaogiocaaGreatDoor

/- a table of buckets: one bucket more. -/
set_option linter.unusedVariables false
namespace Go.Proofs.YtgacpkgaogiocaaGreatDoor
open Go Go.Vc Go.RowKit Go.Lib Go.Maps
theorem okE.hash {x:Ey} (h:okE x):x.s.length≤1000000000:=by
 have:=szN_le x.k.toNat
 have:=h.2.1
 omega
theorem filter_take {l:List Ey} {p:Ey→Bool} {m:Nat} (h:m < l.length):(l.take (m + 1)).filter p=if p l[m] then (l.take m).filter p ++ [l[m]] else (l.take m).filter p:=by
 rw [List.take_succ_eq_append_getElem h,List.filter_append]
 cases hp:p l[m] <;> simp [hp]
theorem bk_sub {L:List Ey} {nb n:Nat}:∀ x∈bk L nb n,x∈L:=fun x hx=>(bk_mem.1 hx).1
theorem bk_len (L:List Ey) (nb n:Nat):(bk L nb n).length≤L.length:=List.length_filter_le ..
section
variable {w:World} {X:List As} {t k g c cd:Nat} {U:Tb} {D:DkV} {es:List Ent} {gen:Int} {L:List Ey}
theorem places_put {l2 : Sl} {ps' : List Int} (hr : (∀ x q, U.kn x = some q → q ∈ U.rows) ∧ U.many ≤ 1000 ∧ U.ps.length ≤ 1000 ∧ ∀ x, U.wr x = some true → ∃ q, U.kn x = some q) (hl : ps'.length ≤ 1000)
   (h:St w (Cs t (tbC k { U with p:={ U.p with pl:=l2 } }) T.y_bucket_table :: Row EI T.y_int l2 ps' :: MpS zSl U.p.kb c (knM U.kn) :: MpS zB U.p.wb c (wrM U.wr) :: As.all (U.rows.map rowA) :: X)):St w (TabS t k c { U with ps:=ps',p:={ U.p with pl:=l2 } } :: X):=
 TabS.join (U:={ U with ps:=ps',p:={ U.p with pl:=l2 } }) ⟨hr.1,hr.2.1,hl,hr.2.2.2⟩ h
set_option maxHeartbeats 4000000 in
theorem grow_st (h : St w (TabS t k c U :: DeskS k g cd D :: X)) (hH : Have D es) (hG : GoodE L) (hL : L.length ≤ 269) (hM : MemB es gen U.ps (bk L U.ps.length) U.kn U.wr) (h0 : U.ps.length = 0 → L = []) (hps : U.ps.length ≤ 900) (hc : c ≤ 800000) {R : Int → World → Prop}
   (hR:∀ w' kn' wr' rows' p',MemB es gen (U.ps ++ [0]) (bk L (U.ps.length + 1)) kn' wr'→St w' (TabS t k (c + 4) { U with ps:=U.ps ++ [0],kn:=kn',wr:=wr',rows:=rows',p:=p' } :: DeskS k g cd D :: X)→R 0 w'):F.bucket_table_grow (some (blk t)) w R:=by
 apply E.bucket_table_grow
 unfold V.bucket_table_grow
 try simp -zeta only [ldC,soC,brC,bkA,slC,cnd_all,blk_add2,Nat.reduceAdd]
 obtain ⟨hr,q⟩:=TabS.parts h
 have hpl:=(St.has q.sw (by decide)).1
 refine ⟨U.p.pl,q.cell 4,U.p.pl,q.cell 4,?_⟩
 refine St.al q fun wa1 q=>?_
 refine St.app (l:=U.p.pl) (xs:=U.ps) (t:=T.y_int) (bytes:=8) elt_int q.up2 (sl:=⟨some (blk w.heap.size),1,1⟩) (ys:=[(0:Int)]) (q.lit (En:=EI) (xs:=[(0:Int)]) rfl rfl 1) rfl (by simp; omega) (by simp; omega) fun l2 w2 q hl2=>?_
 rw [hpl]
 have q:=q.d2.sw
 refine St.st q (by simp) fun wa2 q=>?_
 have q:=St.row0 (places_put (l2:=l2) hr (by rw [List.length_append,List.length_singleton]; omega) q) EE T.y_api_Entry
 refine set_st q.sw (n:=(U.ps.length:Int)) (by omega) (by omega) fun w3 q=>?_
 have M1:=MemB.more hM (sl:=⟨none,0,0⟩)
 have hps0:∀ i,i < U.ps.length + 1→i < (U.ps ++ [0]).length:=fun i hi=>by rw [List.length_append,List.length_singleton]; exact hi
 refine ⟨fun hz=>?_,fun hnz=>?_⟩
 · have hz:U.ps.length=0:=by omega
   have hL0:=h0 hz
   refine hR w3 _ _ _ _ (M1.to fun i hi=>?_) (TabS.mono q (by omega))
   rw [hL0]
   rw [List.length_append,List.length_singleton] at hi
   rw [if_pos (by omega)]; rfl
 have hnz:U.ps.length≠0:=by omega
 have hp1:=(powN_le hnz).1
 have hp0:0 < powN U.ps.length:=Nat.two_pow_pos _
 refine parent_any (by omega) (by omega) ?_
 have hBp:(if U.ps.length - powN U.ps.length=U.ps.length then [] else bk L U.ps.length (U.ps.length - powN U.ps.length))=bk L U.ps.length (U.ps.length - powN U.ps.length):=if_neg (by omega)
 refine bucket_st q hH M1 (n:=U.ps.length - powN U.ps.length) (hps0 _ (by omega)) (by rw [hBp]; exact fun x hx=>hG.2 x (bk_sub x hx)) (by rw [hBp]; have:=bk_len L U.ps.length (U.ps.length - powN U.ps.length); omega) (by omega) fun w5 kn5 rows5 l3 M5 hin _ q=>?_
 rw [hBp] at hin
 have hll:=bk_len L U.ps.length (U.ps.length - powN U.ps.length)
 have hgr:=fun n hn=>bk_grow (L:=L) (nb:=U.ps.length) (n:=n) hnz hn
 have hok:∀ x∈bk L U.ps.length (U.ps.length - powN U.ps.length),okE x:=fun x hx=>hG.2 x (bk_sub x hx)
 have hgn:=hgr U.ps.length (Nat.le_refl _)
 rw [if_pos rfl] at hgn
 have hgp:=hgr (U.ps.length - powN U.ps.length) (by omega)
 rw [if_neg (by omega),if_pos rfl] at hgp
 generalize hB0:bk L U.ps.length (U.ps.length - powN U.ps.length)=l at *
 refine ⟨fun h=>absurd rfl h,fun _=>?_⟩
 have e1:w64 ((U.ps.length:Int) + 1)=((U.ps.length + 1:Nat):Int):=w64_succ (by omega)
 rw [e1]
 have hl3:=(TabS.has q hin).1.1
 refine ⟨fun stay move i w'=>∃ m:Nat,i=m∧m≤l.length∧St w' (Row EE T.y_api_Entry stay ((l.take m).filter fun x=>decide (slotN (hashE x) (U.ps.length + 1)≠U.ps.length)) :: Row EE T.y_api_Entry move ((l.take m).filter fun x=>decide (slotN (hashE x) (U.ps.length + 1)=U.ps.length)) :: _),fun _ _ i _=>((l.length:Int) - i).toNat,⟨0,rfl,Nat.zero_le _,St.row0 (St.row0 q EE T.y_api_Entry) EE T.y_api_Entry⟩,?_⟩
 rintro stay move _ w6 ⟨m,rfl,hm,q⟩
 refine ⟨fun hlt=>?_,fun hge=>?_⟩
 · have hlt:m < l.length:=by omega
   obtain ⟨ad,ha,hb,c0,c1,c2⟩:=Has.ey (TabS.has q.drop.drop hin).1 hlt
   refine ⟨ad,ha,by omega,by omega,_,c0,_,c1,_,c2,?_⟩
   refine St.al q fun wa3 q=>?_
   refine St.fill3 q fun wa6 q=>?_
   refine ⟨_,q.cell0,_,q.cell 1,Hash_any q (hok l[m] (List.getElem_mem _)).hash fun w11 q=>Slot_any (by omega) ?_⟩
   have f1:=filter_take (p:=fun x=>decide (slotN (hashE x) (U.ps.length + 1)≠U.ps.length)) hlt
   have f2:=filter_take (p:=fun x=>decide (slotN (hashE x) (U.ps.length + 1)=U.ps.length)) hlt
   have hlf:=fun p:Ey→Bool=>List.length_filter_le p (l.take m)
   have htl:(l.take m).length=m:=by rw [List.length_take]; omega
   have hms:((l.length:Int) - ((m + 1:Nat):Int)).toNat < ((l.length:Int) - (m:Int)).toNat:=by omega
   rw [w64_succ (by omega)]
   refine ⟨fun heq=>⟨_,q.cell0,_,q.cell 1,_,q.cell 2,?_⟩,fun hne=>⟨_,q.cell0,_,q.cell 1,_,q.cell 2,?_⟩⟩
   · have heq:slotN (hashE l[m]) (U.ps.length + 1)=U.ps.length:=by omega
     rw [if_neg (by simp [heq])] at f1
     rw [if_pos (by simp [heq])] at f2
     refine St.al q fun wa7 q=>?_
     refine app1_ey q.up3.sw (y:=l[m]) (by have:=hlf (fun x=>decide (slotN (hashE x) (U.ps.length + 1)=U.ps.length)); omega) fun l4 w14 q=>⟨⟨m + 1,rfl,hlt,?_⟩,hms⟩
     rw [f1,f2]
     exact q.d2.sw
   · have hne:¬ slotN (hashE l[m]) (U.ps.length + 1)=U.ps.length:=by omega
     rw [if_pos (by simp [hne])] at f1
     rw [if_neg (by simp [hne])] at f2
     refine St.al q fun wa8 q=>?_
     refine app1_ey q.up2.sw (y:=l[m]) (by have:=hlf (fun x=>decide (slotN (hashE x) (U.ps.length + 1)≠U.ps.length)); omega) fun l4 w14 q=>⟨⟨m + 1,rfl,hlt,?_⟩,hms⟩
     rw [f1,f2]
     exact q.d2
 · have hmm:m=l.length:=by omega
   subst hmm
   rw [List.take_length,← hgn,← hgp] at q
   have hml:=(St.has q.sw (by decide)).1
   refine ⟨fun hpos=>?_,fun hno=>?_⟩
   · refine set_st q.sw.up2 (by omega) (by omega) fun w17 q=>parent_any (by omega) (by omega) (set_st q (by omega) (by omega) fun w19 q=>?_)
     have M6:=(M5.set (n:=U.ps.length) (sl:=move) (l:=bk L (U.ps.length + 1) U.ps.length)).set (n:=U.ps.length - powN U.ps.length) (sl:=stay) (l:=bk L (U.ps.length + 1) (U.ps.length - powN U.ps.length))
     refine hR w19 _ _ _ _ (M6.to fun i hi=>?_) (TabS.mono q (by omega))
     rw [List.length_append,List.length_singleton] at hi
     by_cases c1:i=U.ps.length - powN U.ps.length
     · rw [if_pos c1,c1]
     · rw [if_neg c1]
       by_cases c2:i=U.ps.length
       · rw [if_pos c2,c2]
       · rw [if_neg c2,if_neg c2,hgr i (by omega),if_neg c2,if_neg c1]
   · have hno:(bk L (U.ps.length + 1) U.ps.length).length=0:=by omega
     have hn0:bk L (U.ps.length + 1) U.ps.length=[]:=List.eq_nil_of_length_eq_zero hno
     have hstay:bk L (U.ps.length + 1) (U.ps.length - powN U.ps.length)=l:=by
       rw [hgp]
       rw [hgn] at hn0
       refine List.filter_eq_self.2 fun x hx=>?_
       have:=List.filter_eq_nil_iff.1 hn0 x hx
       simpa using this
     refine hR w6 _ _ _ _ (M5.to fun i hi=>?_) (TabS.mono q.drop.drop (by omega))
     rw [List.length_append,List.length_singleton] at hi
     by_cases c2:i=U.ps.length
     · rw [if_pos c2,c2]; exact hn0
     · rw [if_neg c2]
       by_cases c1:i=U.ps.length - powN U.ps.length
       · rw [c1,hstay,hB0]
       · rw [hgr i (by omega),if_neg c2,if_neg c1]
end
end Go.Proofs.YtgacpkgaogiocaaGreatDoor
