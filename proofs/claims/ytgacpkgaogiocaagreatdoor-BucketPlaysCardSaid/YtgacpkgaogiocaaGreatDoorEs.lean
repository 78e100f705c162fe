/- a table of buckets: what is another one now is written. -/
import Derived.Test.YtgacpkgaogiocaaGreatDoorEq
set_option linter.unusedVariables false
namespace Go.Proofs.YtgacpkgaogiocaaGreatDoor
open Go Go.Vc Go.RowKit Go.Lib Go.Maps
section
variable {w:World} {X:List As} {t k g c cd:Nat} {U:Tb} {D:DkV} {es:List Ent} {gen:Int} {L:List Ey} {M:Nat}
theorem OutS.halfR {g : Nat} {bs : Bs} {sl : Sl} {vs : List Int} (h : St w (OutS g bs :: Row EI T.y_int sl vs :: X)) (hfit : ∀ v ∈ vs, 0 ≤ v ∧ v < 65536) (hb : bs.length + 8 * vs.length ≤ 1000000000) {R : Option Addr → World → Prop}
   (hR:∀ w',St w' (OutS g (bs ++ vs.flatMap (leBytes 2)) :: Row EI T.y_int sl vs :: X)→R (some (blk g)) w'):F.bits_Out_Half (some (blk g)) sl w R:=by
 apply E.bits_Out_Half
 have hi:=St.ints h.sw
 obtain ⟨l,b,hO,hX,hd,hput⟩:=OutS.open h
 obtain ⟨c,d,⟨hc,e⟩,_,_,hs⟩:=hX
 subst e
 refine Out_lay hO (size:=2) (by decide) hi (fun k hk ho=>hd _ ho ((hs _).2 (.inl hk))) (fun v hv=>by have:=hfit v hv; omega) (by omega) fun l' w' ho hf hm=>?_
 rw [layL_ok vs (fun v hv=>by have:=hfit v hv; simp [fitsN]; omega)] at ho
 exact hR w' (hput ho hf hm)
theorem place_set {i:Nat} {v:Int} (h:St w (TabS t k c U :: X)) (hi:i < U.ps.length) {ad:Addr} (ha:U.p.pl.a=some ad) {P:World→Prop} (hP:∀ w',St w' (TabS t k c { U with ps:=U.ps.set i v } :: X)→P w'):stC w (ad.add (i * 1)) (.int .i64 v) P:=by
 obtain ⟨hr,q⟩:=TabS.parts h
 obtain ⟨h1,h2⟩:=St.setR (En:=EI) rfl q.sw hi v rfl ha
 exact ⟨h1,hP _ (TabS.join (U:={ U with ps:=U.ps.set i v }) ⟨hr.1,hr.2.1,by show (U.ps.set i v).length≤1000; rw [List.length_set]; exact hr.2.2.1,hr.2.2.2⟩ h2.sw)⟩
theorem encL_take {l:List Ey} {j:Nat} (h:j < l.length):encL (l.take (j + 1))=encL (l.take j) ++ layPr l[j].k.toNat l[j].s ++ [l[j].a].flatMap (leBytes 2):=by
 rw [List.take_succ_eq_append_getElem h,encL_app,List.append_assoc]
 simp [encL,encE]
theorem Cov.rng {ps:List Int} (h:Cov es ps) (hH:Have D es):∀ p∈ps,0≤p∧p < 2000:=fun p hp=>by
 by_cases h0:p=0
 · omega
 · obtain ⟨a,e,b,he,hat⟩:=h.get hp h0
   have:=hH.at_ (e:=e) (by rw [he]; simp)
   omega
set_option maxHeartbeats 4000000 in
theorem save_st (h : St w (TabS t k c U :: DeskS k g cd D :: X)) (hT : MemT D es gen U L M) (hg : 1 ≤ gen ∧ gen ≤ 3) (hM : 1 ≤ M ∧ M ≤ 269) (hroom : (bktN M + 2) * needN (35 * M) + 2 ≤ D.bs.length) (hcd : cd ≤ 800000) {R : Int → Int → World → Prop}
   (hR:∀ w' D' es' root' ps',Have D' es'→Sm D D'→TabD es' gen root' L ps' M→St w' (DeskS k g (cd + 40 * (U.ps.length + 1)) D' :: X)→R root' 0 w'):F.bucket_table_save (some (blk t)) w R:=by
 apply E.bucket_table_save
 unfold V.bucket_table_save
 try simp -zeta only [ldC,soC,brC,bkA,slC,cnd_all,blk_add2,Nat.reduceAdd]
 have hle:=hT.le
 have hbl:=bktN_le L.length
 have hpn:=hT.plen
 have hmn:=hT.many
 have hbm:=bktN_mono hT.le
 have hok:∀ nb i,∀ x∈Go.Proofs.YtgacpkgaogiocaaGreatDoor.bk L nb i,okE x:=fun nb i x hx=>hT.good.2 x (bk_sub x hx)
 have hbl2:∀ nb i,(Go.Proofs.YtgacpkgaogiocaaGreatDoor.bk L nb i).length≤L.length:=fun nb i=>bk_len L _ _
 have c4:=fun {w':World} {c':Nat} {U':Tb} {Y:List As} (q:St w' (TabS t k c' U' :: Y))=>(TabS.cell q).2.2.2.2.1
 obtain ⟨hr,q⟩:=TabS.parts h
 have hpl:U.p.pl.len=U.ps.length:=(TabS.cell h).2.2.2.2.2.1
 refine ⟨U.p.pl,q.cell 4,?_⟩
 rw [hpl]
 have hrm:(U.ps.length + 2) * needN (35 * M) + 2≤D.bs.length:=by
   have:=Nat.mul_le_mul_right (needN (35 * M)) (show U.ps.length + 2≤bktN M + 2 by omega)
   omega
 refine ⟨fun n w'=>∃ (m:Nat) (D':DkV) (es':List Ent) (ps':List Int),n=m∧m≤U.ps.length∧Have D' es'∧Sm D D'∧Cov es' (U.root :: ps')∧ps'.length=U.ps.length∧(∀ e∈es',e.x.data.length≤35 * M)∧(∀ e∈es',e.x.gen=gen)∧MemB es' gen ps' (Go.Proofs.YtgacpkgaogiocaaGreatDoor.bk L U.ps.length) U.kn U.wr∧(∀ i,i < m→AtD es' gen ps' i (Go.Proofs.YtgacpkgaogiocaaGreatDoor.bk L U.ps.length i))∧St w' (TabS t k c { U with ps:=ps' } :: DeskS k g (cd + 40 * m) D' :: X),fun n _=>((U.ps.length:Int) - n).toNat,⟨0,D,es,U.ps,rfl,Nat.zero_le _,hT.hv,Sm.refl D,hT.cov,rfl,hT.len,hT.gens,hT.bk,fun i hi=>absurd hi (Nat.not_lt_zero i),h⟩,?_⟩
 rintro _ w1 ⟨m,D1,es1,ps1,rfl,hm,hH1,hS1,hC1,hp1,hl1,hg1,hM1,hA1,q⟩
 refine ⟨fun hlt=>?_,fun hge=>?_⟩
 · have hlt:m < U.ps.length:=by omega
   obtain ⟨hr1,q1⟩:=TabS.parts q
   have hms:((U.ps.length:Int) - ((m + 1:Nat):Int)).toNat < ((U.ps.length:Int) - (m:Int)).toNat:=by omega
   have hlk:=MapF.look und_mib (zero_mib w1) (MpS.of q1.up3) (x:=(m:Int)) (by omega)
   obtain ⟨b1,b2⟩:=hM1 m (by omega)
   rw [w64_succ (by omega)]
   cases hw:U.wr m with
   | none=>
     have e:wrM U.wr m=none:=by simp [wrM,hw]
     refine ⟨_,q1.cell 6,false,w1,(by rw [hlk]; show Result.ok ((wrM U.wr m).getD zB) w1=_; rw [e]; rfl),fun _=>⟨⟨m + 1,D1,es1,ps1,rfl,hlt,hH1,hS1,hC1,hp1,hl1,hg1,hM1,fun i hi=>?_,DeskS.mono q.sw (by omega) |>.sw⟩,hms⟩,fun h=>(by cases h)⟩
     rcases Nat.lt_or_ge i m with h | h
     · exact hA1 i h
     · have:i=m:=by omega
       subst this
       rcases b2 with ⟨_,b3⟩ | b2
       · rw [hw] at b3; cases b3
       · exact b2
   | some b=>
     cases b with
     | false=>
       have e:wrM U.wr m=some zB:=by simp [wrM,hw,zB]
       refine ⟨_,q1.cell 6,false,w1,(by rw [hlk]; show Result.ok ((wrM U.wr m).getD zB) w1=_; rw [e]; rfl),fun _=>⟨⟨m + 1,D1,es1,ps1,rfl,hlt,hH1,hS1,hC1,hp1,hl1,hg1,hM1,fun i hi=>?_,DeskS.mono q.sw (by omega) |>.sw⟩,hms⟩,fun h=>(by cases h)⟩
       rcases Nat.lt_or_ge i m with h | h
       · exact hA1 i h
       · have:i=m:=by omega
         subst this
         rcases b2 with ⟨_,b3⟩ | b2
         · rw [hw] at b3; cases b3
         · exact b2
     | true=>
       have e:wrM U.wr m=some (.bool true):=by simp [wrM,hw]
       refine ⟨_,q1.cell 6,true,w1,(by rw [hlk]; show Result.ok ((wrM U.wr m).getD zB) w1=_; rw [e]; rfl),fun h=>(by cases h),fun _=>?_⟩
       obtain ⟨p0,hp0⟩:=hr1.2.2.2 m hw
       have hp0:U.kn m=some p0:=hp0
       have hpB:=b1 p0 hp0
       refine St.al q fun wa1 q=>?_
       generalize w1.heap.size=og at *
       have q:=OutS.of q
       obtain ⟨_,q2⟩:=TabS.parts q.drop
       have hlk2:=MapF.look und_mie (zero_mie _) (MpS.of q2.up2) (x:=(m:Int)) (by omega)
       have e2:knM U.kn m=some (.slice p0.1.a p0.1.len p0.1.cap):=by simp [knM,hp0]
       refine ⟨_,q2.cell 5,p0.1,_,(by rw [hlk2]; show Result.ok ((knM U.kn m).getD zSl) _=_; rw [e2]; rfl),?_⟩
       have hin:InR U.rows p0.1 (Go.Proofs.YtgacpkgaogiocaaGreatDoor.bk L U.ps.length m):=.inl (by rw [← hpB]; exact hr1.1 _ _ hp0)
       have hlo:=hok U.ps.length m
       have hll:=hbl2 U.ps.length m
       generalize hBl:Go.Proofs.YtgacpkgaogiocaaGreatDoor.bk L U.ps.length m=l at *
       have hl3:=(TabS.has q.drop hin).1.1
       have hel:∀ j,(encL (l.take j)).length≤9415:=fun j=>by
         rw [encL_len fun x hx=>hlo x (List.mem_of_mem_take hx),List.length_take]; omega
       refine ⟨fun n1 w'=>∃ j:Nat,n1=j∧j≤l.length∧St w' (OutS og (encL (l.take j)) :: TabS t k c { U with ps:=ps1 } :: DeskS k g (cd + 40 * m) D1 :: X),fun n1 _=>((l.length:Int) - n1).toNat,⟨0,rfl,Nat.zero_le _,q⟩,?_⟩
       rintro _ w4 ⟨j,rfl,hj,q⟩
       refine ⟨fun hjl=>?_,fun hjg=>?_⟩
       · have hjl:j < l.length:=by omega
         have hx:=hlo l[j] (List.getElem_mem _)
         obtain ⟨ad,ha,hb,c0,c1,c2⟩:=Has.ey (TabS.has q.drop hin).1 hjl
         refine ⟨ad,ha,by omega,by omega,_,c0,_,c1,_,c2,?_⟩
         refine St.al q fun wa2 q=>?_
         refine St.fill3 q fun wa5 q=>?_
         refine ⟨_,q.cell0,_,q.cell 1,?_⟩
         rw [← hx.k0]
         refine Lay_mark q hx.kk hx.2.1 fun w9 q=>?_
         refine St.dr q fun wa6 q=>?_
         refine ⟨_,q.cell 2,fun w11 g1 hB11 hg11 hn11 ho11 w12 hB12=>?_⟩
         have q:=(((q.fz.iv hB11 hg11 hn11 ho11).iv0 hB12).sw).up3
         have hlay:=hx.layl
         have hej:=hel j
         refine OutS.raw q (by omega) fun w13 q=>?_
         obtain ⟨k13,q⟩:=q.up2.kp
         refine ⟨k13,q.up3.cell 2,fun w14 g2 hB14 hg14 hn14 ho14 w15 hB15=>?_⟩
         have q:=(((q.iv hB14 hg14 hn14 ho14).iv0 hB15).sw).up2
         refine OutS.half (vs:=[l[j].a]) q (fun v hv=>by
           rw [List.mem_singleton] at hv
           subst hv
           have:=hx.2.2
           omega) (by rw [List.length_append]; simp; omega) rfl fun w16 q=>?_
         obtain ⟨k16,q⟩:=q.up2.kp
         refine ⟨k16,q.up4.cell 2,fun w17 hB17=>?_⟩
         have q:=(q.iv0 hB17).drop.d2.d2.d2
         rw [← encL_take hjl] at q
         rw [w64_succ (by omega)]
         exact ⟨⟨j + 1,rfl,hjl,q⟩,by show ((l.length:Int) - ((j + 1:Nat):Int)).toNat < ((l.length:Int) - (j:Int)).toNat; omega⟩
       · have hjj:j=l.length:=by omega
         subst hjj
         rw [List.take_length] at q
         have hel:=hel l.length
         rw [List.take_length] at hel
         refine OutS.end_ q fun w18 q=>?_
         have q:=q.drop
         obtain ⟨a0,a1,a2,a3,a4,a5,a6⟩:=TabS.cell q
         obtain ⟨ad,ha,hb,c0⟩:=Has.int a6 (m:=m) (show m < ps1.length by omega)
         have ha:U.p.pl.a=some ad:=ha
         have hb:m < U.p.pl.len:=hb
         refine ⟨_,a4,ad,ha,by omega,by show (m:Int) < ((U.p.pl.len:Nat):Int); omega,_,by simpa using c0,?_⟩
         have hug:U.gen=gen:=hT.ugen
         have hpm:m < ps1.length:=by omega
         have hdl:(encL l).length=35 * l.length:=encL_len hlo
         refine putT_st (ps:=U.root :: ps1) (i:=m + 1) (m:=35 * M) q hH1 (by rw [hug]; exact hg) hC1 (by rw [List.getElem?_cons_succ]; exact List.getElem?_eq_getElem hpm) (by decide) (by omega) hl1 (by omega) (by
           rw [hS1.2,List.length_cons,hp1]; exact hrm) (by omega) fun w19 D2 es2 q0 hP q=>⟨fun h=>absurd rfl h,fun _=>?_⟩
         obtain ⟨a0,a1,a2,a3,a4,a5,a6⟩:=TabS.cell q
         refine ⟨_,a4,ad,ha,by omega,by show (m:Int) < ((U.p.pl.len:Nat):Int); omega,?_⟩
         have hmv:∀ (i:Nat) (l':List Ey),i≠m→AtD es1 gen ps1 i l'→AtD es2 gen (ps1.set m q0) i l':=fun i l' hne hat=>by
           unfold AtD at *
           rw [List.getElem?_set_ne (Ne.symm hne)]
           rcases hat with h | ⟨h1,p,h2,h3,h4⟩
           · exact .inl h
           · exact .inr ⟨h1,p,h2,h3,hP.old (i + 1) p 13 _ gen (by omega) (by rw [List.getElem?_cons_succ]; exact h2) h3 h4⟩
         refine place_set (i:=m) q hpm ha fun w20 q=>⟨⟨m + 1,D2,es2,ps1.set m q0,rfl,hlt,hP.hv,hS1.trans hP.sm,?_,?_,?_,?_,?_,?_,?_⟩,hms⟩
         · have:=hP.cov
           rw [List.set_cons_succ] at this
           exact this
         · rw [List.length_set]; exact hp1
         · intro e he
           rcases hP.sub e he with h | h
           · exact hl1 e h
           · rw [h.2]; omega
         · intro e he
           rcases hP.sub e he with h | h
           · exact hg1 e h
           · rw [h.1]; exact hug
         · intro i hi
           rw [List.length_set] at hi
           obtain ⟨d1,d2⟩:=hM1 i hi
           refine ⟨d1,?_⟩
           by_cases c:i=m
           · subst c
             exact .inl ⟨⟨p0,hp0⟩,hw⟩
           · exact d2.imp id fun d2=>hmv i _ c d2
         · intro i hi
           by_cases c:i=m
           · subst c
             rw [hBl]
             by_cases hl0:l=[]
             · have hz:=hP.nil (by rw [hl0]; rfl)
               exact .inl ⟨by rw [List.getElem?_set_self hpm,hz],hl0⟩
             · have hz:=hP.put (fun h=>hl0 (List.eq_nil_of_length_eq_zero (by have:=congrArg List.length h; rw [hdl] at this; simp at this; omega)))
               refine .inr ⟨hl0,q0,List.getElem?_set_self hpm,hz.1,?_⟩
               rw [← hug]; exact hz.2
           · exact hmv i _ c (hA1 i (by omega))
         · exact q
 · have hmm:m=U.ps.length:=by omega
   subst hmm
   obtain ⟨a0,a1,a2,a3,a4,a5,a6⟩:=TabS.cell q
   have hug:U.gen=gen:=hT.ugen
   have hcd2:cd + 40 * U.ps.length + 40=cd + 40 * (U.ps.length + 1):=by omega
   refine ⟨_,a3,fun hz=>⟨_,a2,?_⟩,fun hnz=>?_⟩
   · have hz:((U.many:Nat):Int)=0:=by first | exact hz | simpa using hz
     have hL:L=[]:=List.eq_nil_of_length_eq_zero (by omega)
     have hps1:ps1=[]:=List.eq_nil_of_length_eq_zero (by rw [hp1,hpn,hL]; rfl)
     rw [tx_nil]
     refine putT_st (ps := U.root :: ps1) (i := 0) (m := 35 * M) q hH1 (by rw [hug]; exact hg) hC1 rfl (by decide) (by omega) hl1 (by simp) (by
           rw [hS1.2,List.length_cons,hp1]; exact hrm) (by omega) fun w21 D2 es2 q0 hP q=>?_
     have h0:=hP.nil rfl
     subst h0
     rw [hcd2] at q
     have hcv:=hP.cov
     rw [List.set_cons_zero] at hcv
     refine hR w21 D2 es2 0 ps1 hP.hv (hS1.trans hP.sm) ⟨hT.good.1,hT.good.2,hcv,fun e he=>?_,fun e he=>?_,by rw [hp1]; exact hpn,hT.le,.inl ⟨rfl,hL⟩,fun n hn=>?_⟩ q.drop
     · rcases hP.sub e he with h | h
       · exact hl1 e h
       · rw [h.2]; simp
     · rcases hP.sub e he with h | h
       · exact hg1 e h
       · rw [h.1]; exact hug
     · rw [hps1] at hn; exact absurd hn (Nat.not_lt_zero n)
   · have hnz:¬ ((U.many:Nat):Int)=0:=by first | exact hnz | simpa using hnz
     refine St.dr q fun wa7 q=>?_
     obtain ⟨hr1,q⟩:=TabS.parts q
     refine ⟨_,q.cell 3,_,q.cell 4,fun w23 g2 hB23 hg2 hn2 ho2 w24 g3 hB24 hg3 hn3 ho3 w25 hB25=>?_⟩
     have q:=(((q.fz.iv hB23 hg2 hn2 ho2).iv hB24 hg3 hn3 ho3).iv0 hB25).up2
     have q:=(OutS.of q).up2.sw
     refine OutS.half (vs := [(U.many : Int)]) q (fun v hv => by
           rw [List.mem_singleton] at hv
           subst hv
           omega) (by simp) rfl fun w26 q=>?_
     obtain ⟨k26,q⟩:=q.up2.kp
     refine ⟨k26,q.up3.cell 4,q.up3.cell 3,fun w27 hB27=>?_⟩
     have q:=(q.iv0 hB27).up4.up2
     have hrg:=hC1.rng hH1
     refine OutS.halfR q (fun v hv=>by have:=hrg v (List.mem_cons_of_mem _ hv); omega) (by simp [leBytes_len]; omega) fun w28 q=>?_
     obtain ⟨k28,q⟩:=q.up2.kp
     refine ⟨k28,q.up4.cell 3,fun w29 hB29=>?_⟩
     refine OutS.end_ (q.iv0 hB29).sw fun w30 q=>?_
     obtain ⟨k30,q⟩:=q.sw.kp
     refine ⟨k30,q.up4.cell 3,fun w31 hB31=>?_⟩
     have q:=TabS.join hr1 ((q.iv0 hB31).drop.drop.d2.sw)
     have er:[] ++ [(U.many:Int)].flatMap (leBytes 2) ++ ps1.flatMap (leBytes 2)=rootB L.length ps1:=by
       rw [hmn]; simp [rootB]
     rw [er]
     have hrl:=rootB_len L.length ps1
     obtain ⟨a0,a1,a2,a3,a4,a5,a6⟩:=TabS.cell q
     refine ⟨_,a2,?_⟩
     refine putT_st (ps := U.root :: ps1) (i := 0) (m := 35 * M) q hH1 (by rw [hug]; exact hg) hC1 rfl (by decide) (by omega) hl1 (by omega) (by
           rw [hS1.2,List.length_cons,hp1]; exact hrm) (by omega) fun w21 D2 es2 q0 hP q=>?_
     have h0:=hP.put (fun h=>by have:=congrArg List.length h; rw [hrl] at this; simp at this)
     rw [hcd2] at q
     have hcv:=hP.cov
     rw [List.set_cons_zero] at hcv
     refine hR w21 D2 es2 q0 ps1 hP.hv (hS1.trans hP.sm) ⟨hT.good.1,hT.good.2,hcv,fun e he=>?_,fun e he=>?_,by rw [hp1]; exact hpn,hT.le,.inr ⟨h0.1,fun h=>hnz (by rw [hmn,h]; rfl),?_⟩,fun n hn=>?_⟩ q.drop
     · rcases hP.sub e he with h | h
       · exact hl1 e h
       · rw [h.2]; omega
     · rcases hP.sub e he with h | h
       · exact hg1 e h
       · rw [h.1]; exact hug
     · rw [← hug]; exact h0.2
     · have:=hA1 n (by omega)
       rw [hp1]
       unfold AtD at *
       rcases this with h | ⟨h1,p,h2,h3,h4⟩
       · exact .inl h
       · exact .inr ⟨h1,p,h2,h3,hP.old (n + 1) p 13 _ gen (by omega) (by rw [List.getElem?_cons_succ]; exact h2) h3 h4⟩
end
end Go.Proofs.YtgacpkgaogiocaaGreatDoor

/- a table of buckets: entries are added, dropped: all of them, or none. -/
set_option linter.unusedVariables false
namespace Go.Proofs.YtgacpkgaogiocaaGreatDoor
open Go Go.Vc Go.RowKit Go.Lib Go.Maps
theorem Sm.syncs {A B:DkV} (h:Sm A B):A.syncs=B.syncs:=by
 have h1:=h.1
 cases A; cases B
 simp only [backD,DkV.mk.injEq] at h1
 exact h1.2.2.2.1.symm
theorem TabD.mem {D:DkV} {es:List Ent} {gen root:Int} {L:List Ey} {ps:List Int} {M:Nat} (h:TabD es gen root L ps M) (hH:Have D es) (p:TbP):MemT D es gen (tb0 gen root L.length ps p) L M:=
 ⟨hH,⟨h.srt,h.ok⟩,h.cov,h.len,h.gens,rfl,rfl,h.many,h.plen,h.none⟩
/-- a call that adds, or drops, an entry -/
def DoSt (k g:Nat) (gen:Int) (M f:Nat) (stp:List Ey × Int→Ey→List Ey × Int):Prop:=
 ∀ (w:World) (X:List As) (t c cd:Nat) (U:Tb) (D:DkV) (es:List Ent) (L:List Ey) (x:Ey) (R:Int→World→Prop),St w (TabS t k c U :: DeskS k g cd D :: X)→MemT D es gen U L M→L.length + 1≤M→x.s.length≤1000000000→c≤700000→
   (∀ e w',stp (L,0) x=(L,e)→e≠0→St w' (DeskS k g cd D :: X)→R e w')→
   (∀ w' D' es' U',(stp (L,0) x).2=0→Sm D D'→MemT D' es' gen U' (stp (L,0) x).1 M→St w' (TabS t k (c + 10) U' :: DeskS k g cd D' :: X)→R 0 w')→
   RetT Pg [.one (.int .i64)] f #[.pointer (some (blk t)),.agg #[.int .i64 x.k,.string (tx x.s),.int .i64 x.a]] w R
section
variable {w:World} {X:List As} {k g cd:Nat} {D:DkV} {es:List Ent} {gen root:Int} {L:List Ey} {ps:List Int} {M:Nat}
theorem do_add (hM:M≤269):DoSt k g gen M 36 addS:=fun w X t c cd U D es L x R h hT hl hx hc hB hR=>
 add_st h hT ⟨hl,hM⟩ hc hB fun w' U' he hT' _ q=>hR w' D es U' (by rw [he]) (Sm.refl D) (by rw [he]; exact hT') q
theorem do_drop (hM:M≤269):DoSt k g gen M 44 dropS:=fun w X t c cd U D es L x R h hT hl hx hc hB hR=>
 drop_st h hT hM hx hc hB fun w' D' es' U' he hS hT' _ q=>hR w' D' es' U' (by rw [he]) hS (by rw [he]; exact hT') q
set_option maxHeartbeats 4000000 in
theorem change_st {f : Nat} {stp : List Ey × Int → Ey → List Ey × Int} (hdo : DoSt k g gen M f stp) (hcall : Callable Pg f) (hse : ∀ st x, st.2 ≠ 0 → stp st x = st) (hsl : ∀ st x, (stp st x).1.length ≤ st.1.length + 1)
   (h:St w (DeskS k g cd D :: X)) (hH:Have D es) (hT:TabD es gen root L ps M) (hg:1≤gen∧gen≤3) (hM:1≤M∧M≤269) (hroom:(bktN M + 2) * needN (35 * M) + 2≤D.bs.length)
   {sl:Sl} {xs:List Ey} (hx:∀ w',St w' X→Has EE w' sl xs) (hl:L.length + xs.length≤M) (hxs:∀ x∈xs,x.s.length≤1000000000) (hcd:cd≤700000) {R:Int→Int→World→Prop}
   (hE:∀ w' e,(allF stp L xs).2=e→e≠0→St w' (DeskS k g (cd + 2800) D :: X)→R 0 e w')
   (hR:∀ w' D' es' root' ps',(allF stp L xs).2=0→Have D' es'→Sm D D'→TabD es' gen root' (allF stp L xs).1 ps' M→St w' (DeskS k g (cd + 2800) D' :: X)→R root' 0 w'):F.bucket_change (some (blk k)) gen root sl (.func (.func f) #[] #[]) w R:=by
 apply E.bucket_change
 unfold V.bucket_change
 try simp -zeta only [ldC,soC,brC,bkA,slC,cnd_all,blk_add2,Nat.reduceAdd]
 have hlx:=(hx w h.drop).1
 refine ⟨fun b w'=>b=false∧w=w',⟨fun h=>absurd h (by omega),fun _=>⟨decide_eq_false (by omega),rfl⟩⟩,?_⟩
 rintro b _ ⟨rfl,rfl⟩
 refine ⟨fun h=>(by cases h),fun _=>⟨fun hz=>?_,fun hnz=>?_⟩⟩
 · have hz:xs=[]:=List.eq_nil_of_length_eq_zero (by have hz:((sl.len:Nat):Int)=0:=(by first | exact hz | simpa using hz); omega)
   subst hz
   exact hR w D es root ps rfl hH (Sm.refl D) hT (DeskS.mono h (by omega))
 have hdk:=DeskS.ok h
 refine Mark_st h fun r b w1 q=>?_
 refine St.al q fun wa1 q=>?_
 generalize w1.heap.size=mk at *
 refine St.fill4 q fun wa5 q=>?_
 refine load_st q.up3 hH hT hM.2 fun t p w7 q=>?_
 generalize hY:Cs mk [.pointer (some (blk k)),.pointer (some (blk r)),.map (some b),.int .i64 D.syncs] T.y_desk_Mark :: RoomS r D.bs :: MapS b D.ws :: X=Y
 have hxY:∀ w',St w' Y→Has EE w' sl xs:=fun w' hw=>by
   rw [← hY] at hw
   exact hx w' hw.drop.drop.drop
 have q:St w7 (TabS t k 0 (tb0 gen root L.length ps p) :: DeskS k g cd D :: Y):=by rw [← hY]; exact q
 have hfl:∀ m,(allF stp L (xs.take m)).1.length≤L.length + xs.length:=fun m=>by
   have:=allF_len hsl L (xs.take m)
   rw [List.length_take] at this; omega
 -- all that was done so far, or an error
 have hInv:∃ Inv:Int→Nat→World→Prop,Inv=fun e m w'=>(e=0∧(allF stp L (xs.take m)).2=0∧∃ D' es' U',Sm D D'∧MemT D' es' gen U' (allF stp L (xs.take m)).1 M∧St w' (TabS t k (10 * m) U' :: DeskS k g cd D' :: Y))∨(e≠0∧(allF stp L xs).2=e∧∃ D',Sm D D'∧St w' (DeskS k g cd D' :: Y)):=⟨_,rfl⟩
 obtain ⟨Inv,hInv⟩:=hInv
 refine ⟨fun e w'=>Inv e xs.length w',⟨fun e i w'=>∃ m:Nat,i=m∧m≤xs.length∧Inv e m w',fun e i _=>if e=0 then ((xs.length:Int) - i).toNat else 0,⟨0,rfl,Nat.zero_le _,by rw [hInv]; exact .inl ⟨rfl,rfl,D,es,_,Sm.refl D,hT.mem hH p,q⟩⟩,?_⟩,?_⟩
 · rintro e _ w8 ⟨m,rfl,hm,hI⟩
   refine ⟨fun he=>⟨fun hlt=>?_,fun hge=>?_⟩,fun hne=>?_⟩
   · have he:e=0:=by first | exact he | simpa using he
     subst he
     have hlt:m < xs.length:=by omega
     rw [hInv] at hI
     rcases hI with ⟨_,hz,D1,es1,U1,hS1,hT1,q⟩ | ⟨hne,_⟩
     rotate_left
     · exact absurd rfl hne
     obtain ⟨ad,ha,hb,c0,c1,c2⟩:=Has.ey (hxY _ q.drop.drop) hlt
     refine ⟨ad,ha,by omega,by omega,_,c0,_,c1,_,c2,f,#[],#[],rfl,hcall,?_⟩
     have hst:(allF stp L (xs.take m))=((allF stp L (xs.take m)).1,0):=by rw [← hz]
     have hnx:=allF_take (f:=stp) (L:=L) hlt
     rw [hst] at hnx
     have hml:=hfl m
     rw [w64_succ (by omega)]
     have hms:∀ e':Int,(if e'=0 then ((xs.length:Int) - ((m + 1:Nat):Int)).toNat else 0) < (if (0:Int)=0 then ((xs.length:Int) - (m:Int)).toNat else 0):=fun e'=>by
       rw [if_pos rfl]
       split <;> omega
     have hl1:(allF stp L (xs.take m)).1.length≤L.length + m:=by
       have:=allF_len hsl L (xs.take m)
       rw [List.length_take] at this; omega
     refine hdo w8 Y t (10 * m) cd U1 D1 es1 _ xs[m] _ q hT1 (by omega) (hxs _ (List.getElem_mem _)) (by omega) (fun e w' he hne q=>⟨⟨m + 1,rfl,hlt,?_⟩,hms e⟩) fun w' D' es' U' he hS' hT' q=>⟨⟨m + 1,rfl,hlt,?_⟩,hms 0⟩
     · rw [hInv]
       rw [he] at hnx
       refine .inr ⟨hne,?_,D1,hS1,q⟩
       rw [allF_err hse (m:=m + 1) (by rw [hnx]; exact hne),hnx]
     · rw [hInv]
       refine .inl ⟨rfl,by rw [hnx]; exact he,D',es',U',hS1.trans hS',by rw [hnx]; exact hT',?_⟩
       have e10:10 * (m + 1)=10 * m + 10:=by omega
       rw [e10]; exact q
   · have hmm:m=xs.length:=by omega
     subst hmm; exact hI
   · have hne:¬ e=0:=by first | exact hne | simpa using hne
     rw [hInv] at hI ⊢
     rcases hI with ⟨he,_⟩ | hI
     · exact absurd he hne
     · exact .inr hI
 rintro e w10 hI
 rw [hInv] at hI
 simp only [List.take_length] at hI
 refine ⟨fun e' at_ w'=>(e'=0∧(allF stp L xs).2=0∧∃ D' es' ps',Have D' es'∧Sm D D'∧TabD es' gen at_ (allF stp L xs).1 ps' M∧St w' (DeskS k g (cd + 2800) D' :: Y))∨(e'≠0∧(allF stp L xs).2=e'∧∃ D',Sm D D'∧St w' (DeskS k g cd D' :: Y)),⟨fun he=>?_,fun hne=>?_⟩,?_⟩
 · have he:e=0:=by first | exact he | simpa using he
   rcases hI with ⟨_,hz,D1,es1,U1,hS1,hT1,q⟩ | ⟨hne,_⟩
   · have hpn:=hT1.plen
     have hb1:=bktN_mono hT1.le
     have hbM:=bktN_le M
     have hb67:bktN M≤68:=by
       have:=bktN_mono hM.2
       have:bktN 269=68:=by decide
       omega
     refine save_st q hT1 hg hM (by rw [hS1.2]; exact hroom) (by omega) fun w11 D' es' root' ps' hH' hS' hT' q=>.inl ⟨rfl,hz,D',es',ps',hH',hS1.trans hS',hT',DeskS.mono q (by omega)⟩
   · exact absurd he hne
 · have hne:¬ e=0:=by first | exact hne | simpa using hne
   rcases hI with ⟨he,_⟩ | hI
   · exact absurd he hne
   · exact .inr hI
 rintro e' at_ w12 hK
 refine ⟨fun hne=>?_,fun he=>?_⟩
 · have hne:¬ e'=0:=by first | exact hne | simpa using hne
   rcases hK with ⟨he,_⟩ | ⟨_,hee,D1,hS1,q⟩
   · exact absurd he hne
   · rw [← hY] at q
     refine ⟨_,q.sw.cell0,_,q.sw.cell 1,_,q.sw.cell 2,_,q.sw.cell 3,?_⟩
     refine Back_st q.d2 hdk hS1.2.symm hS1.syncs fun w13 q=>?_
     rw [hS1.1,Nat.max_self] at q
     exact hE w13 e' hee hne (DeskS.mono q.d2.d2 (by omega))
 · have he:e'=0:=by first | exact he | simpa using he
   rcases hK with ⟨_,hz,D',es',ps',hH',hS',hT',q⟩ | ⟨hne,_⟩
   · rw [← hY] at q
     exact hR w12 D' es' at_ ps' hz hH' hS' hT' q.d2.d2.d2
   · exact absurd he hne
theorem call36:Callable Pg 36:=okChk_spec (by kernel_rfl)
theorem call44:Callable Pg 44:=okChk_spec (by kernel_rfl)
theorem Add_st (h : St w (DeskS k g cd D :: X)) (hH : Have D es) (hT : TabD es gen root L ps M) (hg : 1 ≤ gen ∧ gen ≤ 3) (hM : 1 ≤ M ∧ M ≤ 269) (hroom : (bktN M + 2) * needN (35 * M) + 2 ≤ D.bs.length)
   {sl:Sl} {xs:List Ey} (hx:∀ w',St w' X→Has EE w' sl xs) (hl:L.length + xs.length≤M) (hxs:∀ x∈xs,x.s.length≤1000000000) (hcd:cd≤700000) {R:Int→Int→World→Prop}
   (hE:∀ w' e,(allF addS L xs).2=e→e≠0→St w' (DeskS k g (cd + 2800) D :: X)→R 0 e w')
   (hR:∀ w' D' es' root' ps',(allF addS L xs).2=0→Have D' es'→Sm D D'→TabD es' gen root' (allF addS L xs).1 ps' M→St w' (DeskS k g (cd + 2800) D' :: X)→R root' 0 w'):F.bucket_Add (some (blk k)) gen root sl w R:=by
 apply E.bucket_Add
 unfold V.bucket_Add
 try simp -zeta only [ldC,soC,brC,bkA,slC,cnd_all,blk_add2,Nat.reduceAdd]
 exact change_st (do_add hM.2) call36 addS_err addS_len h hH hT hg hM hroom hx hl hxs hcd hE hR
theorem Drop_st17 (h : St w (DeskS k g cd D :: X)) (hH : Have D es) (hT : TabD es gen root L ps M) (hg : 1 ≤ gen ∧ gen ≤ 3) (hM : 1 ≤ M ∧ M ≤ 269) (hroom : (bktN M + 2) * needN (35 * M) + 2 ≤ D.bs.length)
   {sl:Sl} {xs:List Ey} (hx:∀ w',St w' X→Has EE w' sl xs) (hl:L.length + xs.length≤M) (hxs:∀ x∈xs,x.s.length≤1000000000) (hcd:cd≤700000) {R:Int→Int→World→Prop}
   (hE:∀ w' e,(allF dropS L xs).2=e→e≠0→St w' (DeskS k g (cd + 2800) D :: X)→R 0 e w')
   (hR:∀ w' D' es' root' ps',(allF dropS L xs).2=0→Have D' es'→Sm D D'→TabD es' gen root' (allF dropS L xs).1 ps' M→St w' (DeskS k g (cd + 2800) D' :: X)→R root' 0 w'):F.bucket_Drop (some (blk k)) gen root sl w R:=by
 apply E.bucket_Drop
 unfold V.bucket_Drop
 try simp -zeta only [ldC,soC,brC,bkA,slC,cnd_all,blk_add2,Nat.reduceAdd]
 exact change_st (do_drop hM.2) call44 dropS_err dropS_len h hH hT hg hM hroom hx hl hxs hcd hE hR
end
end Go.Proofs.YtgacpkgaogiocaaGreatDoor
