/- a table of buckets: one bucket less. -/
import Derived.Test.YtgacpkgaogiocaaGreatDoorEk
set_option linter.unusedVariables false
namespace Go.Proofs.YtgacpkgaogiocaaGreatDoor
open Go Go.Vc Go.RowKit Go.Lib Go.Maps
/-- another desk, of which only what is on it, and what is in use, is another one -/
def Sm (M D:DkV):Prop:=backD D M=M∧D.bs.length=M.bs.length
theorem Sm.refl (D:DkV):Sm D D:=⟨rfl,rfl⟩
theorem Sm.trans {A B C:DkV} (h:Sm A B) (k:Sm B C):Sm A C:=by
 refine ⟨?_,k.2.trans h.2⟩
 have h1:=h.1
 have k1:=k.1
 cases A; cases B; cases C
 simp only [backD,DkV.mk.injEq] at h1 k1 ⊢
 exact ⟨k1.1.trans h1.1,k1.2.1.trans h1.2.1,k1.2.2.1.trans h1.2.2.1,k1.2.2.2.1.trans h1.2.2.2.1,trivial,trivial⟩
theorem Sm.drop (D:DkV) (zs:List Int):Sm D (dropD D zs):=⟨rfl,by unfold dropD; exact giveL_len _ _⟩
/-- the entries of the bucket that one is put back to -/
theorem bk_less {L:List Ey} (h:Srt L) {n:Nat} (hn:n≠0):(∀ i,i < n→i≠n - powN n→bk L n i=bk L (n + 1) i)∧(bk L (n + 1) (n - powN n) ++ bk L (n + 1) n).Perm (bk L n (n - powN n)):=by
 have hp0:0 < powN n:=Nat.two_pow_pos _
 have hp1:=(powN_le hn).1
 refine ⟨fun i hi hne=>srt_ext (bk_srt h _ _) (bk_srt h _ _) fun x=>?_,(List.perm_ext_iff_of_nodup ?_ (bk_srt h _ _).nodup).2 fun x=>?_⟩
 · rw [bk_shrink hn hi]
   exact ⟨fun k=>k.elim id fun k=>absurd k.1 hne,.inl⟩
 · rw [List.nodup_append]
   refine ⟨(bk_srt h _ _).nodup,(bk_srt h _ _).nodup,fun a ha b hb e=>?_⟩
   subst e
   have h1:=(bk_mem.1 ha).2
   have h2:=(bk_mem.1 hb).2
   omega
 · rw [bk_shrink hn (by omega),List.mem_append]
   exact ⟨fun k=>k.elim .inl fun k=>.inr ⟨rfl,k⟩,fun k=>k.elim .inl fun k=>.inr k.2⟩
theorem bk_less0 {L:List Ey} (h:Srt L) {n:Nat} (hn:n≠0) (h0:bk L (n + 1) n=[]):∀ i,i < n→bk L n i=bk L (n + 1) i:=fun i hi=>srt_ext (bk_srt h _ _) (bk_srt h _ _) fun x=>by
 rw [bk_shrink hn hi,h0]
 exact ⟨fun k=>k.elim id fun k=>(by cases k.2),.inl⟩
section
variable {w:World} {X:List As} {t k g c cd:Nat} {U:Tb} {D:DkV} {es:List Ent} {gen:Int} {L:List Ey}
theorem EI_take (xs:List Int) (i:Nat):(EI.all xs).take (i * 1)=EI.all (xs.take i):=by rw [EI_all,EI_all,Nat.mul_one]; unfold intCells; rw [List.map_take]
theorem MemB.short {B:Nat→List Ey} {kn:Kn} {wr:Int→Option Bool} {ps:List Int} {n:Nat} (h:MemB es gen ps B kn wr) (hn:n≤ps.length):MemB es gen (ps.take n) B kn wr:=fun i hi=>by
 rw [List.length_take] at hi
 obtain ⟨h1,h2⟩:=h i (by omega)
 exact ⟨h1,h2.imp id fun h2=>h2.take (by omega)⟩
set_option maxHeartbeats 4000000 in
theorem shrink_st {n : Nat} (h : St w (TabS t k c U :: DeskS k g cd D :: X)) (hH : Have D es) (hG : GoodE L) (hL : L.length ≤ 269) (hM : MemB es gen U.ps (bk L (n + 1)) U.kn U.wr) (hcov : Cov es (U.root :: U.ps)) (hn : U.ps.length = n + 1) (h0 : n = 0 → L = []) (hc : c ≤ 800000) {R : Int → World → Prop}
   (hR:∀ w' D' es' kn' wr' rows' p',Have D' es'→Sm D D'→Cov es' (U.root :: U.ps.take n)→(∀ e∈es',e∈es)→MemB es' gen (U.ps.take n) (bk L n) kn' wr'→St w' (TabS t k (c + 4) { U with ps:=U.ps.take n,kn:=kn',wr:=wr',rows:=rows',p:=p' } :: DeskS k g cd D' :: X)→R 0 w'):F.bucket_table_shrink (some (blk t)) w R:=by
 apply E.bucket_table_shrink
 unfold V.bucket_table_shrink
 try simp -zeta only [ldC,soC,brC,bkA,slC,cnd_all,blk_add2,Nat.reduceAdd]
 obtain ⟨hr,q⟩:=TabS.parts h
 have hps:=hr.2.2.1
 have hpl:=(St.has q.sw (by decide)).1
 refine ⟨U.p.pl,q.cell 4,?_⟩
 have e1:w64 (((U.p.pl.len:Nat):Int) - 1)=(n:Int):=by rw [w64_id (by omega) (by omega)]; omega
 rw [e1]
 have hok:∀ i,∀ x∈bk L (n + 1) i,okE x:=fun i x hx=>hG.2 x (bk_sub x hx)
 have hbl:∀ i,(bk L (n + 1) i).length≤269:=fun i=>Nat.le_trans (bk_len L _ _) hL
 refine bucket_st h hH hM (n:=n) (by omega) (hok n) (hbl n) (by omega) fun w1 kn1 rows1 l1 M1 hin1 _ q=>⟨fun h=>absurd rfl h,fun _=>?_⟩
 have hl1:=(TabS.has q hin1).1.1
 -- what the buckets are behind the entries' way
 refine ⟨fun w'=>∃ kn' wr' rows',MemB es gen (U.ps.take n) (bk L n) kn' wr'∧St w' (TabS t k (c + 3) { U with kn:=kn',wr:=wr',rows:=rows' } :: DeskS k g cd D :: X),⟨fun b w'=>b=decide (n≠0∧bk L (n + 1) n≠[])∧w1=w',⟨fun hpos=>⟨?_,rfl⟩,fun hno=>⟨?_,rfl⟩⟩,?_⟩,?_⟩
 · rw [decide_eq_decide]
   constructor
   · intro h; exact ⟨by omega,fun e=>by rw [e] at hl1; simp at hl1; omega⟩
   · intro h
     have:(bk L (n + 1) n).length≠0:=fun e=>h.2 (List.eq_nil_of_length_eq_zero e)
     omega
 · symm; exact decide_eq_false fun h=>by omega
 · rintro b _ ⟨rfl,rfl⟩
   refine ⟨fun hb=>?_,fun hb=>?_⟩
   · obtain ⟨hn0,hne⟩:=of_decide_eq_true hb
     have hp1:=(powN_le hn0).1
     have hp0:0 < powN n:=Nat.two_pow_pos _
     obtain ⟨g1,g2⟩:=bk_less hG.1 hn0
     refine parent_any (by omega) (by omega) (bucket_st q hH M1 (n:=n - powN n) (by show _ < U.ps.length; omega) (hok _) (hbl _) (by omega) fun w3 kn3 rows3 l2 M3 hin2 hsub q=>⟨fun h=>absurd rfl h,fun _=>?_⟩)
     refine Clone_ey q (fun w' hw=>(TabS.has hw hin2).1) (TabS.has q hin2).2 (by have:=hbl (n - powN n); omega) fun l3 w4 q=>?_
     have hb1:=hbl n
     have hb2:=hbl (n - powN n)
     refine appN_ey q (TabS.has q.drop (hin1.mono hsub)).1 (TabS.has q.drop (hin1.mono hsub)).2 (by omega) fun l4 w5 q=>Sort_ey q (by rw [List.length_append]; omega) fun w6 q=>parent_any (by omega) (by omega) ?_
     rw [msort_eq g2 (bk_srt hG.1 _ _)] at q
     refine set_st q.sw (by omega) (by omega) fun w8 q=>⟨_,_,_,?_,q⟩
     refine (MemB.short (M3.set (n:=n - powN n) (sl:=l4) (l:=bk L n (n - powN n))) (by show n≤U.ps.length; omega)).to fun i hi=>?_
     rw [List.length_take] at hi
     by_cases c1:i=n - powN n
     · rw [if_pos c1,c1]
     · rw [if_neg c1,g1 i (by omega) c1]
   · refine ⟨_,_,_,(MemB.short M1 (by show n≤U.ps.length; omega)).to fun i hi=>?_,TabS.mono q (by omega)⟩
     rw [List.length_take] at hi
     have hn0:n≠0:=by omega
     have hb:=of_decide_eq_false hb
     have he:bk L (n + 1) n=[]:=Decidable.byContradiction fun h=>hb ⟨hn0,h⟩
     exact bk_less0 hG.1 hn0 he i (by omega)
 rintro w9 ⟨kn9,wr9,rows9,M9,q⟩
 -- the chain
 refine ⟨fun w'=>∃ D' es',Have D' es'∧Sm D D'∧Cov es' (U.root :: U.ps.take n)∧(∀ e∈es',e∈es)∧MemB es' gen (U.ps.take n) (bk L n) kn9 wr9∧St w' (TabS t k (c + 3) { U with kn:=kn9,wr:=wr9,rows:=rows9 } :: DeskS k g cd D' :: X),?_,?_⟩
 · obtain ⟨hr,q⟩:=TabS.parts q
   have hnl:n < U.ps.length:=by omega
   obtain ⟨ad,ha,hb,c0⟩:=Has.int (St.has q.sw (by decide)) (m:=n) hnl
   refine ⟨U.p.pl,q.cell 4,ad,ha,by omega,by omega,_,by simpa using c0,fun hne=>?_,fun hz=>?_⟩
   · have hne:¬ U.ps[n]=0:=by first | exact hne | simpa using hne
     refine St.dr q fun wa1 q=>?_
     obtain ⟨ad,ha,hb,c0⟩:=Has.int (St.has q.sw (by decide)) (m:=n) hnl
     refine ⟨_,q.cell0,U.p.pl,q.cell 4,ad,ha,by omega,by omega,_,by simpa using c0,?_⟩
     obtain ⟨a,e,b,rfl,hat⟩:=hcov.get (List.mem_cons_of_mem _ (List.getElem_mem hnl)) hne
     rw [← hat]
     refine Drop_E q.up5 hH fun w11 hH2 q=>⟨q.sw.cell 4,fun h=>absurd rfl h,fun _=>⟨_,a ++ b,hH2,Sm.drop D _,?_,?_,?_,?_⟩⟩
     · have hc1:=hcov.drop (i:=n + 1) (by rw [List.getElem?_cons_succ,List.getElem?_eq_getElem hnl,hat]) (by rw [hat]; exact hne)
       rw [List.set_cons_succ] at hc1
       unfold Cov at hc1 ⊢
       refine hc1.trans ?_
       have e2:U.ps.set n 0=U.ps.take n ++ [0]:=by
         rw [List.set_eq_take_append_cons_drop,if_pos hnl,List.drop_of_length_le (by omega)]
       have e3:U.root :: U.ps.set n 0=(U.root :: U.ps.take n) ++ [0]:=by rw [e2]; rfl
       rw [e3,nz_zero]
     · intro e1 he1
       rcases List.mem_append.1 he1 with h | h
       · exact List.mem_append_left _ h
       · exact List.mem_append_right _ (List.mem_cons_of_mem _ h)
     · have hc1:=hcov.drop (i:=n + 1) (by rw [List.getElem?_cons_succ,List.getElem?_eq_getElem hnl,hat]) (by rw [hat]; exact hne)
       rw [List.set_cons_succ] at hc1
       intro i hi
       obtain ⟨k1,k2⟩:=M9 i hi
       rw [List.length_take] at hi
       refine ⟨k1,k2.imp id fun k2=>?_⟩
       rcases k2 with ⟨k3,k4⟩ | ⟨k3,p1,k4,k5,k6⟩
       · exact .inl ⟨k3,k4⟩
       · refine .inr ⟨k3,p1,k4,k5,k6.drop hH hc1 (List.mem_cons_of_mem _ ?_) k5⟩
         refine List.mem_of_getElem? (i:=i) ?_
         rw [List.getElem?_set_ne (by omega)]
         rw [List.getElem?_take_of_lt (by omega)] at k4
         exact k4
     · exact TabS.join hr q.up5.up5.up5.up5.up5
   · have hz:U.ps[n]=0:=by first | exact hz | simpa using hz
     refine ⟨D,es,hH,Sm.refl D,?_,fun _ h=>h,M9,TabS.join hr q⟩
     unfold Cov at hcov ⊢
     refine hcov.trans ?_
     have e2:U.ps=U.ps.take n ++ [0]:=by
       conv=>lhs; rw [← List.take_append_drop n U.ps]
       rw [List.drop_eq_getElem_cons hnl,hz,List.drop_of_length_le (by omega)]
     have e3:U.root :: U.ps=(U.root :: U.ps.take n) ++ [0]:=by rw [List.cons_append,← e2]
     rw [e3,nz_zero]
 rintro w12 ⟨D2,es2,hH2,hS2,hC2,hsub2,M2,q⟩
 obtain ⟨hr,q⟩:=TabS.parts q
 have hpl:=(St.has q.sw (by decide)).1
 have hpl:U.p.pl.len=U.ps.length:=hpl
 have hcap:U.p.pl.len≤U.p.pl.cap:=Row.cap q.sw
 refine ⟨U.p.pl,q.cell 4,by omega,by omega,?_⟩
 rw [slA0,Int.toNat_natCast]
 refine St.st q (by simp) fun wa2 q=>?_
 have q:St _ (Row EI T.y_int ⟨U.p.pl.a,n,U.p.pl.cap⟩ (U.ps.take n) :: _):=q.sw.as fun S ⟨hO,e⟩=>⟨by
   have this:Own _ T.y_int 1 ⟨U.p.pl.a,n,U.p.pl.cap⟩ ((EI.all U.ps).take (n * 1)):=Own.pre hO (i:=n) (show n≤U.p.pl.len by omega) (show U.p.pl.len≠0 by omega)
   rw [EI_take] at this
   exact this,e⟩
 refine ⟨_,q.sw.cell 5,MpS.del q.up2 und_mie (by omega) fun w14 q=>⟨_,q.up2.cell 6,MpS.del q.up3 und_mib (by omega) fun w15 q=>?_⟩⟩
 -- wr, kn, pl, t, rows
 refine hR w15 D2 es2 (fun x=>if x=(n:Int) then none else kn9 x) (fun x=>if x=(n:Int) then none else wr9 x) rows9 { U.p with pl:=⟨U.p.pl.a,n,U.p.pl.cap⟩ } hH2 hS2 hC2 hsub2 (fun i hi=>?_) (TabS.mono (c:=c + 3) (TabS.join ⟨fun x q0 hx=>?_,hr.2.1,?_,fun x hx=>?_⟩ ?_) (by omega))
 · obtain ⟨k1,k2⟩:=M2 i hi
   rw [List.length_take] at hi
   have hne:¬ (i:Int)=(n:Int):=by omega
   dsimp only
   rw [if_neg hne,if_neg hne]
   exact ⟨k1,k2⟩
 · dsimp only at hx
   split at hx
   · cases hx
   · exact hr.1 x q0 hx
 · show (U.ps.take n).length≤1000
   rw [List.length_take]; omega
 · dsimp only at hx ⊢
   by_cases hxn:x=(n:Int)
   · rw [if_pos hxn] at hx; cases hx
   · rw [if_neg hxn] at hx ⊢
     exact hr.2.2.2 x hx
 · dsimp only
   rw [knM_del,wrM_upd]
   exact q.sw.up2.up3
end
end Go.Proofs.YtgacpkgaogiocaaGreatDoor

/- a table of buckets: an entry is added, dropped. -/
set_option linter.unusedVariables false
namespace Go.Proofs.YtgacpkgaogiocaaGreatDoor
open Go Go.Vc Go.RowKit Go.Lib Go.Maps
/-- a table in memory has these entries -/
structure MemT (D:DkV) (es:List Ent) (gen:Int) (U:Tb) (L:List Ey) (M:Nat):Prop where
 hv:Have D es
 good:GoodE L
 cov:Cov es (U.root :: U.ps)
 len:∀ e∈es,e.x.data.length≤35 * M
 gens:∀ e∈es,e.x.gen=gen
 ugen:U.gen=gen
 many:U.many=L.length
 le:L.length≤M
 plen:U.ps.length=bktN L.length
 bk:MemB es gen U.ps (Go.Proofs.YtgacpkgaogiocaaGreatDoor.bk L U.ps.length) U.kn U.wr
theorem bktN_pos {n:Nat} (h:n≠0):bktN n≠0:=by unfold bktN; rw [if_neg h]; omega
section
variable {w:World} {X:List As} {t k g c cd:Nat} {U:Tb} {D:DkV} {es:List Ent} {gen:Int} {L:List Ey} {M:Nat}
theorem many_put {n:Nat} {e:Int} (he:e=(n:Int)) (hl:n≤1000) (h:St w (TabS t k c U :: X)) {P:World→Prop} (hP:∀ w',St w' (TabS t k c { U with many:=n } :: X)→P w'):stC w ((blk t).add 3) (.int .i64 e) P:=by
 obtain ⟨hr,q⟩:=TabS.parts h
 refine St.st q (by simp) fun w' q=>hP w' ?_
 subst he
 exact TabS.join (U:={ U with many:=n }) ⟨hr.1,hl,hr.2.2⟩ q
theorem TabS.cell (h:St w (TabS t k c U :: X)):w.cell? (blk t)=some (.pointer (some (blk k)))∧w.cell? ((blk t).add 1)=some (.int .i64 U.gen)∧w.cell? ((blk t).add 2)=some (.int .i64 U.root)∧w.cell? ((blk t).add 3)=some (.int .i64 (U.many:Int))∧w.cell? ((blk t).add 4)=some (.slice U.p.pl.a U.p.pl.len U.p.pl.cap)∧U.p.pl.len=U.ps.length∧Has EI w U.p.pl U.ps:=by
 obtain ⟨hr,q⟩:=TabS.parts h
 have hh:=St.has q.sw (by decide)
 exact ⟨q.cell0,q.cell 1,q.cell 2,q.cell 3,q.cell 4,hh.1,hh⟩
theorem bk_slot {x:Ey} {nb:Nat}:x∈Go.Proofs.YtgacpkgaogiocaaGreatDoor.bk L nb (slotN (hashE x) nb)↔x∈L:=by rw [bk_mem]; exact ⟨fun h=>h.1,fun h=>⟨h,rfl⟩⟩
set_option maxHeartbeats 4000000 in
theorem add_st {x : Ey} (h : St w (TabS t k c U :: DeskS k g cd D :: X)) (hT : MemT D es gen U L M) (hM : L.length + 1 ≤ M ∧ M ≤ 269) (hc : c ≤ 700000) {R : Int → World → Prop}
   (hB:∀ e w',addS (L,0) x=(L,e)→e≠0→St w' (DeskS k g cd D :: X)→R e w')
   (hR:∀ w' U',addS (L,0) x=(insE L x,0)→MemT D es gen U' (insE L x) M→U'.root=U.root→St w' (TabS t k (c + 10) U' :: DeskS k g cd D :: X)→R 0 w'):F.bucket_table_add (some (blk t)) x.k (tx x.s) x.a w R:=by
 apply E.bucket_table_add
 unfold V.bucket_table_add
 try simp -zeta only [ldC,soC,brC,bkA,slC,cnd_all,blk_add2,Nat.reduceAdd]
 have hbl:=bktN_le L.length
 have hpn:=hT.plen
 have hmn:=hT.many
 have hok:∀ nb i,∀ x∈Go.Proofs.YtgacpkgaogiocaaGreatDoor.bk L nb i,okE x:=fun nb i x hx=>hT.good.2 x (bk_sub x hx)
 have hbl2:∀ nb i,(Go.Proofs.YtgacpkgaogiocaaGreatDoor.bk L nb i).length≤269:=fun nb i=>Nat.le_trans (bk_len L _ _) (by omega)
 refine St.al h fun wa1 h=>?_
 generalize w.heap.size=g0 at *
 refine ⟨_,h.cell0,_,h.cell 1,_,h.cell 2,valid_st h fun w1 q=>⟨fun hbad=>?_,fun hgood=>?_⟩⟩
 · have hbad:¬ okE x:=by simpa using hbad
   refine hB 1 w1 ?_ (by decide) q.drop.drop
   unfold addS
   rw [if_neg (by simp),if_pos hbad]
 have hxo:okE x:=by simpa using hgood
 have hxh:=hxo.hash
 refine ⟨fun w'=>x∉L∧∃ kn' rows',MemB es gen U.ps (Go.Proofs.YtgacpkgaogiocaaGreatDoor.bk L U.ps.length) kn' U.wr∧St w' (Cs g0 [.int .i64 x.k,.string (tx x.s),.int .i64 x.a] T.y_api_Entry :: TabS t k (c + 1) { U with kn:=kn',rows:=rows' } :: DeskS k g cd D :: X),?_,?_⟩
 · obtain ⟨a0,a1,a2,a3,a4,a5,a6⟩:=TabS.cell q.drop
   refine ⟨_,a3,fun hpos=>?_,fun hno=>⟨?_,U.kn,U.rows,hT.bk,(TabS.mono q.sw (Nat.le_succ c)).sw⟩⟩
   · have hL0:L.length≠0:=by omega
     have hnb:=bktN_pos hL0
     refine St.dr q fun wa2 q=>?_
     obtain ⟨a0,a1,a2,a3,a4,a5,a6⟩:=TabS.cell q.drop
     refine ⟨_,q.cell0,_,q.cell 1,U.p.pl,a4,Hash_any q hxh fun w3 q=>⟨(TabS.cell q.drop).2.2.2.2.1,?_⟩⟩
     rw [a5]
     refine Slot_any (by omega) ⟨?_,?_⟩
     · rw [← a5]; exact (TabS.cell q.drop).2.2.2.2.1
     have hsl:slotN (hashE x) U.ps.length < U.ps.length:=slotN_lt (by omega)
     refine bucket_st q.up2.up2 hT.hv hT.bk hsl (hok _ _) (hbl2 _ _) (by omega) fun w5 kn5 rows5 l1 M5 hin _ q=>⟨?_,fun h=>absurd rfl h,fun _=>?_⟩
     · rw [← a5]; exact (TabS.cell q).2.2.2.2.1
     refine ⟨_,q.up2.cell0,_,q.up2.cell 1,_,q.up2.cell 2,Contains_ey q (fun w' hw=>(TabS.has hw hin).1) (by have:=hbl2 U.ps.length (slotN (hashE x) U.ps.length); omega) fun w6 q=>⟨fun hb=>?_,fun hb=>⟨?_,kn5,rows5,M5,q.up2⟩⟩⟩
     · have hxm:x∈L:=bk_slot.1 (of_decide_eq_true hb)
       refine hB 9 w6 ?_ (by decide) q.drop.d2
       unfold addS
       rw [if_neg (by simp),if_neg (fun h=>h hxo),if_pos hxm]
     · exact fun hm=>(of_decide_eq_false hb) (bk_slot.2 hm)
   · have:L=[]:=List.eq_nil_of_length_eq_zero (by omega)
     rw [this]; simp
 rintro w7 ⟨hxn,kn7,rows7,M7,q⟩
 have c3:=fun {w':World} {c':Nat} {U':Tb} {Y:List As} (q:St w' (TabS t k c' U' :: Y))=>(TabS.cell q).2.2.2.1
 have c4:=fun {w':World} {c':Nat} {U':Tb} {Y:List As} (q:St w' (TabS t k c' U' :: Y))=>(TabS.cell q).2.2.2.2.1
 refine ⟨_,c3 q.sw,fun hbig=>?_,fun _=>⟨_,c3 q.sw,?_⟩⟩
 · have hbig:((U.many:Nat):Int)≥1500:=hbig
   omega
 have hins:(insE L x).length=L.length + 1:=insE_len L x
 refine many_put (n:=L.length + 1) (by show w64 ((U.many:Int) + 1)=_; rw [w64_id (by omega) (by omega)]; omega) (by omega) q.sw fun w8 q=>?_
 refine ⟨fun w'=>∃ kn' wr' rows' p' ps',ps'.length=bktN (L.length + 1)∧Cov es (U.root :: ps')∧MemB es gen ps' (Go.Proofs.YtgacpkgaogiocaaGreatDoor.bk L ps'.length) kn' wr'∧St w' (TabS t k (c + 6) { U with many:=L.length + 1,ps:=ps',kn:=kn',wr:=wr',rows:=rows',p:=p' } :: Cs g0 [.int .i64 x.k,.string (tx x.s),.int .i64 x.a] T.y_api_Entry :: DeskS k g cd D :: X),?_,?_⟩
 · refine St.dr q fun wa3 q=>?_
   have hs:=bktN_succ L.length
   refine ⟨_,c3 q,_,c4 q,buckets_any (n:=L.length + 1) (by omega) ⟨c4 q,fun hgt=>?_,fun hle=>?_⟩⟩
   · have hgt:(bktN (L.length + 1):Int) > (U.p.pl.len:Nat):=hgt
     have hpl:=(TabS.cell q).2.2.2.2.2.1
     have hpl:U.p.pl.len=U.ps.length:=hpl
     refine grow_st q.up2.sw hT.hv hT.good (by omega) M7 (fun h0=>?_) (by show U.ps.length≤900; omega) (by omega) fun w11 kn' wr' rows' p' M11 q=>⟨fun h=>absurd rfl h,fun _=>⟨kn',wr',rows',p',U.ps ++ [0],?_,?_,?_,TabS.mono (q.up2.sw) (by omega)⟩⟩
     · have h0:U.ps.length=0:=h0
       refine List.eq_nil_of_length_eq_zero (Decidable.byContradiction fun hne=>?_)
       have:=bktN_pos hne
       omega
     · rw [List.length_append,List.length_singleton]; omega
     · have:=hT.cov
       unfold Cov at this ⊢
       rw [← List.cons_append,nz_zero]; exact this
     · rw [List.length_append,List.length_singleton]; exact M11
   · have hle:¬ (bktN (L.length + 1):Int) > (U.p.pl.len:Nat):=hle
     have hpl:=(TabS.cell q).2.2.2.2.2.1
     have hpl:U.p.pl.len=U.ps.length:=hpl
     exact ⟨_,_,_,_,U.ps,by omega,hT.cov,M7,TabS.mono q (by omega)⟩
 rintro w12 ⟨kn,wr,rows,p',ps',hpl,hcov,M12,q⟩
 refine St.dr q fun wa4 q=>?_
 have hnb:bktN (L.length + 1)≠0:=bktN_pos (by omega)
 have hbs:=bktN_succ L.length
 have hsl:slotN (hashE x) ps'.length < ps'.length:=slotN_lt (by omega)
 have hp:p'.pl.len=ps'.length:=(TabS.cell q).2.2.2.2.2.1
 refine ⟨_,q.sw.cell0,_,q.sw.cell 1,_,c4 q,Hash_any q hxh fun w14 q=>⟨c4 q,?_⟩⟩
 have hp2:({ U with many:=L.length + 1,ps:=ps',kn:=kn,wr:=wr,rows:=rows,p:=p' }:Tb).p.pl.len=ps'.length:=hp
 rw [hp2]
 refine Slot_any (by omega) ⟨?_,?_⟩
 · rw [← hp2]; exact c4 q
 refine bucket_st q.up2.sw hT.hv M12 hsl (hok _ _) (hbl2 _ _) (by omega) fun w16 kn16 rows16 l4 M16 hin _ q=>⟨fun h=>absurd rfl h,fun _=>?_⟩
 refine ⟨_,q.up2.cell0,_,q.up2.cell 1,_,q.up2.cell 2,Search_ey q (fun w' hw=>(TabS.has hw hin).1) (bk_srt hT.good.1 _ _) (by have:=hbl2 ps'.length (slotN (hashE x) ps'.length); omega) fun b2 w17 q=>?_⟩
 have q:=q.up2
 refine St.dr q fun wa5 q=>?_
 -- entry, table, desk
 refine ⟨_,q.cell0,_,q.cell 1,_,q.cell 2,fun w19 hB19=>?_⟩
 have q:=q.fz.iv0 hB19
 have hbn:=hbl2 ps'.length (slotN (hashE x) ps'.length)
 have hcl:=cntE_le (Go.Proofs.YtgacpkgaogiocaaGreatDoor.bk L ps'.length (slotN (hashE x) ps'.length)) x
 refine Clone_ey q (fun w' hw=>(TabS.has hw.drop.drop hin).1) (TabS.has q.drop.drop hin).2 (by omega) fun l5 w20 q=>?_
 obtain ⟨k20,q⟩:=q.sw.kp
 refine ⟨k20,q.up2.cell0,q.up2.cell 1,q.up2.cell 2,fun w21 g1 hB21 hg1 hn1 ho1 w22 hB22=>?_⟩
 have q:=((q.iv hB21 hg1 hn1 ho1).iv0 hB22).dn2
 refine Insert_st (x:=x) q (by omega) hcl fun l6 w23 q=>?_
 obtain ⟨k23,q⟩:=q.sw.kp
 refine ⟨k23,q.up2.cell0,q.up2.cell 1,q.up2.cell 2,fun w24 hB24=>?_⟩
 have q:=(q.iv0 hB24).sw.up3
 refine set_st q (by omega) (by omega) fun w25 q=>?_
 obtain ⟨k25,q⟩:=q.sw.kp
 refine ⟨k25,q.up2.cell0,q.up2.cell 1,q.up2.cell 2,fun w26 hB26=>?_⟩
 have q:=(q.iv0 hB26).drop.d2
 have hadd:addS (L,0) x=(insE L x,0):=by
   unfold addS
   rw [if_neg (by simp),if_neg (fun h=>h hxo),if_neg hxn,if_neg (by show ¬ 1500≤L.length; omega)]
 refine hR w26 { U with many:=L.length + 1,ps:=ps',kn:=_,wr:=_,rows:=_,p:=p' } hadd ⟨hT.hv,hT.good.ins hxo hxn,hcov,hT.len,hT.gens,hT.ugen,by show L.length + 1=_; rw [hins],by omega,by show ps'.length=_; rw [hins]; exact hpl,?_⟩ rfl (TabS.mono q (by omega))
 refine (MemB.set M16 (n:=slotN (hashE x) ps'.length) (sl:=l6) (l:=_)).to fun i hi=>?_
 rw [bk_ins hT.good.1 hxn]
 by_cases c1:i=slotN (hashE x) ps'.length
 · rw [if_pos c1,if_pos c1.symm,c1]
   unfold insE
   simp
 · rw [if_neg c1,if_neg (fun h=>c1 h.symm)]
end
end Go.Proofs.YtgacpkgaogiocaaGreatDoor
