/- slices of entries: Index, Contains, Clone, BinarySearchFunc, Insert, Delete. -/
import Derived.Test.YtgacpkgaogiocaaGreatDoorEd
import Derived.Lib.Overlaps
set_option linter.unusedVariables false
namespace Go.Proofs.YtgacpkgaogiocaaGreatDoor
open Go Go.Vc Go.RowKit Go.Lib
theorem EE_len (xs:List Ey):(EE.all xs).length=xs.length * 3:=EE.all_len xs
theorem EE_take (xs:List Ey) (i:Nat):(EE.all xs).take (i * 3)=EE.all (xs.take i):=by
 rcases Nat.le_total i xs.length with h | h
 · have e:EE.all xs=EE.all (xs.take i) ++ EE.all (xs.drop i):=by rw [← EE.all_app,List.take_append_drop]
   have hl:(EE.all (xs.take i)).length=i * 3:=by rw [EE_len,List.length_take,Nat.min_eq_left h]
   rw [e,← hl,List.take_left]
 · rw [List.take_of_length_le (by rw [EE_len]; omega),List.take_of_length_le h]
theorem EE_drop (xs:List Ey) (i:Nat):(EE.all xs).drop (i * 3)=EE.all (xs.drop i):=by
 rcases Nat.le_total i xs.length with h | h
 · have e:EE.all xs=EE.all (xs.take i) ++ EE.all (xs.drop i):=by rw [← EE.all_app,List.take_append_drop]
   have hl:(EE.all (xs.take i)).length=i * 3:=by rw [EE_len,List.length_take,Nat.min_eq_left h]
   rw [e,← hl,List.drop_left]
 · rw [List.drop_of_length_le (by rw [EE_len]; omega),List.drop_of_length_le h]; rfl
theorem Own.at {w:World} {t:TypeId} {n:Nat} {sl:Sl} {xs:List Value} (h:Own w t n sl xs) {a:Addr} (ha:sl.a=some a) {j:Nat} {u:Value} (hu:xs[j]? = some u):w.cell? (a.add j)=some u:=by
 obtain ⟨a',ha',hc⟩:=Own.cell h hu
 rw [ha] at ha'
 injection ha' with e
 rw [e]; exact hc
/-- one entry is put into a slice of one's own -/
theorem Insert_own {w : World} {s : Sl} {xs : List Ey} (hO : Own w T.y_api_Entry 3 s (EE.all xs)) (hb : xs.length ≤ 1000000000) {h : Nat} {x : Ey}
   (hh:w.heap[h]? = some (.cells ⟨EE.all [x]⟩ T.y_api_Entry (0,0))) (hsep:¬ s.bk h) {i:Nat} (hi:i≤xs.length) {R:Sl→World→Prop}
   (hR:∀ l w',Own w' T.y_api_Entry 3 l (EE.all (xs.take i ++ [x] ++ xs.drop i))→Fr s.bk w w'→Moved w s l→R l w'):F.slices_Insert_sl_api_Entry_api_Entry s i ⟨some (blk h),1,1⟩ w R:=by
 have und:=elt_ey.und
 obtain ⟨inf,z,hinf,hz,hs1,hby,hzc⟩:=elt_ey.info
 apply E.slices_Insert_sl_api_Entry_api_Entry
 unfold V.slices_Insert_sl_api_Entry_api_Entry
 try simp -zeta only [ldC,soC,brC,bkA,slC,stC,alC,drC]
 have hlen:s.len=xs.length:=by have:=hO.len; rw [EE_len] at this; omega
 have hx2:(EE.all [x]).length=3:=by rw [EE_len]; rfl
 have hsrc:∀ j u,(EE.all [x])[j]? = some u→w.cell? ((blk h).add j)=some u:=fun j u hu=>by rw [blk_cell hh]; exact hu
 refine ⟨by omega,by rw [hlen]; omega,fun h0=>by simp at h0,fun _=>⟨fun heq=>?_,fun hne=>?_⟩⟩
 · have heq:i=xs.length:=by simp at heq; omega
   subst heq
   refine runT_append und hinf hz hs1 hby hzc (by decide) hO (m:=1) (news:=EE.all [x]) hx2 hsrc (EE.all_one _) (by simp only [maxLen]; omega) (by omega) fun l2 w2 ho hl hf hm=>?_
   refine hR l2 w2 ?_ hf hm
   rw [List.take_length,List.drop_length,List.append_nil,EE.all_app]; exact ho
 have hlt:i < xs.length:=by simp at hne; omega
 have e1:w64 ((xs.length:Int) + ((1:Nat):Int))=((xs.length + 1:Nat):Int):=by rw [w64_id (by omega) (by omega)]; omega
 have e2:w64 ((i:Int) + ((1:Nat):Int))=((i + 1:Nat):Int):=by rw [w64_id (by omega) (by omega)]; omega
 have e3:w64 (((xs.length + 1:Nat):Int) - (i:Int))=((xs.length + 1 - i:Nat):Int):=by rw [w64_id (by omega) (by omega)]; omega
 have hn0:s.len≠0:=by omega
 obtain ⟨g,cur,ha,hg,hcl,htk,hlc,hcm⟩:=Own.row hO hn0
 simp only [e1,e2,e3,slA0,hlen,Int.toNat_natCast]
 refine ⟨fun hbig=>?_,fun hroom=>?_⟩
 · have hbig:s.cap < xs.length + 1:=by have:=of_decide_eq_true hbig; omega
   refine ⟨by omega,by omega,?_⟩
   have hpre:=Own.pre hO (i:=i) (by omega) hn0
   rw [EE_take] at hpre
   refine runT_append_zeros (l:=⟨s.a,i,s.cap⟩) und und_int hinf hz hs1 hby hzc (by decide) (by decide) hpre (m:=xs.length + 1 - i) (by omega) (by show (i + (xs.length + 1 - i)) * 32≤_; omega) (by show s.cap < i + (xs.length + 1 - i); omega) fun cap' w1 hO1 hF1 hsz1=>?_
   have hln:i + (xs.length + 1 - i)=xs.length + 1:=by omega
   simp only [hln] at hO1 ⊢
   obtain ⟨g1,cur1,ha1,hg1,hcl1,htk1,hlc1,hcm1⟩:=Own.row hO1 (by show xs.length + 1≠0; omega)
   simp only [Option.some.injEq,Addr.mk.injEq] at ha1
   have hgg:g1=w.heap.size:=by have:=congrArg Addr.block (show blk w.heap.size=blk g1 by simpa using ha1); exact this.symm
   subst hgg
   simp only at hcl1 htk1 hlc1 hcm1
   have hgw:=heap_lt hg
   have hA1:cur1.take (i * 3)=EE.all (xs.take i):=by
     have h3:(cur1.take ((xs.length + 1) * 3)).take (i * 3)=EE.all (xs.take i):=by
       rw [htk1,List.take_append_of_le_length (by rw [EE_len,List.length_take]; omega)]
       exact List.take_of_length_le (by rw [EE_len,List.length_take]; omega)
     rwa [List.take_take,Nat.min_eq_left (by omega)] at h3
   have hsrc1:∀ j u,(EE.all [x])[j]? = some u→w1.cell? ((blk h).add j)=some u:=fun j u hu=>by rw [blk_cell (hF1.heap hh id)]; exact hu
   rw [slA_ne (by omega)]
   refine ⟨by omega,by omega,?_⟩
   refine runT_copy und hinf hs1 hg1 (cs:=EE.all [x]) (by rw [hx2,show Nat.min 1 (xs.length + 1 - i)=1 from Nat.min_eq_left (by omega)]) hsrc1 (by rw [hx2,hcl1]; omega) (EE.all_one _) fun w2 hg2 hF2 hs2=>?_
   have hg3:w2.drew.heap[w.heap.size]? = _:=hg2
   have hF3:Fr (· = w.heap.size) w1 w2.drew:=hF2.trans (Fr.drew _ w2) (fun _ _ h=>h)
   generalize w2.drew=w3 at hg3 hF3 ⊢
   have hO3:Own w3 T.y_api_Entry 3 s (EE.all xs):=(hO.keep hF1 (fun _ _=>id)).keep hF3 (fun k hk hh'=>by have:=hO.lt hk; have h5:k=w.heap.size:=hh'; omega)
   have hsrc3:∀ j u,(EE.all (xs.drop i))[j]? = some u→w3.cell? ((⟨g,i * 3,none⟩:Addr).add j)=some u:=fun j u hu=>by
     rw [← add_blk,add_add]
     refine Own.at hO3 ha (j:=i * 3 + j) ?_
     rw [← hu,← EE_drop,List.getElem?_drop]
   have hdl:(EE.all (xs.drop i)).length=(xs.length - i) * 3:=by rw [EE_len,List.length_drop]
   refine ⟨by omega,by omega,by omega,by omega,?_⟩
   rw [ha,slA_ne (by omega),slA_ne (by omega)]
   refine runT_copy und hinf hs1 hg3 (cs:=EE.all (xs.drop i)) (by rw [hdl,show Nat.min (xs.length - i) (xs.length + 1 - (i + 1))=xs.length - i from Nat.min_eq_left (by omega)]) hsrc3 (by simp only [List.length_append,List.length_take,List.length_drop,hx2,hdl,hcl1]; omega) (EE.all_one _) fun w4 hg4 hF4 hs4=>?_
   obtain ⟨q1,q2⟩:=ins_up (cur:=cur1) (A:=EE.all (xs.take i)) (X:=EE.all [x]) (D:=EE.all (xs.drop i)) (i:=i * 3) (x:=3) (d:=(xs.length - i) * 3) hA1 (by rw [EE_len,List.length_take]; omega) hx2 hdl (by rw [hcl1]; omega)
   have ei:(i + 1) * 3=i * 3 + 3:=by omega
   rw [ei] at hg4
   refine hR _ w4 ?_ ?_ (.inr ⟨_,rfl,Nat.le_refl _⟩)
   · have h6:=Own.of (n:=xs.length + 1) (cap:=cap') hg4 (by rw [q2,hcl1]) hlc1 hcm1
     rw [show (xs.length + 1) * 3=i * 3 + 3 + (xs.length - i) * 3 by omega,q1] at h6
     rw [EE.all_app,EE.all_app]
     exact h6
   · refine ((hF1.mono (S':=s.bk) (fun _ _ h=>h.elim)).trans (S:=s.bk) (hF3.trans (S:=(· = w.heap.size)) hF4 (fun _ _ h=>h)) (fun k hk h'=>?_))
     have h5:k=w.heap.size:=h'
     omega
 · have hroom:xs.length + 1≤s.cap:=by have:=of_decide_eq_false hroom; omega
   have hbk:s.bk g:=⟨blk g,ha,rfl⟩
   have hgh:h≠g:=fun hh'=>hsep (hh' ▸ hbk)
   have hdl:(EE.all (xs.drop i)).length=(xs.length - i) * 3:=by rw [EE_len,List.length_drop]
   have hA1:cur.take (i * 3)=EE.all (xs.take i):=by
     have h3:(cur.take (s.len * 3)).take (i * 3)=EE.all (xs.take i):=by rw [htk,EE_take]
     rwa [List.take_take,Nat.min_eq_left (by omega)] at h3
   have hov:(callFunc 173 #[.slice (some (blk h)) 1 1,.slice (slA s.a s.cap (i + 1) 3) (xs.length + 1 - (i + 1)) (s.cap - (i + 1))]).run Pg w = .ok (.value (.bool false)) w:=by
     rw [run_callFunc_extern (fn:=Tryz.f173) Tryz.func173 (by kernel_rfl) (by kernel_rfl) (by kernel_rfl) (e:=Extern.SlicesOverlaps.overlaps #[T.y_sl_api_Entry,T.y_sl_api_Entry] #[T.y_bool]) (by kernel_rfl)]
     rw [ha,slA_ne (by omega)]
     rw [run_overlaps_apart w T.y_sl_api_Entry T.y_bool T.y_api_Entry und 3 (fun w=>by simp [sizeOf,typeInfo,hinf,hs1]) (blk h) ⟨g,(i + 1) * 3,none⟩ 1 1 _ _ hgh T.y_api_Entry T.y_api_Entry 3 (s.cap * 3) ?_ ?_ (by omega) ?_ ?_]
     · rfl
     · simp [World.shape?,hh,hx2]
     · simp [World.shape?,hg,hcl]
     · exact frozen_of_row w h 0 _ _ hh
     · exact frozen_of_row w h 3 _ _ hh
   refine ⟨by omega,by omega,by omega,by omega,false,w,hov,fun _=>?_,fun h'=>by cases h'⟩
   have hF1:Fr no w w.drew:=Fr.drew no w
   generalize w.drew=w1 at hF1 ⊢
   have hg1:=hF1.heap hg id
   have hO1:=hO.keep hF1 (fun _ _=>id)
   have hh1:=hF1.heap hh id
   refine ⟨by omega,by omega,by omega,by omega,?_⟩
   rw [ha,slA_ne (by omega),slA_ne (by omega)]
   have hsrc1:∀ j u,(EE.all (xs.drop i))[j]? = some u→w1.cell? ((⟨g,i * 3,none⟩:Addr).add j)=some u:=fun j u hu=>by
     rw [← add_blk,add_add]
     refine Own.at hO1 ha (j:=i * 3 + j) ?_
     rw [← hu,← EE_drop,List.getElem?_drop]
   refine runT_copy und hinf hs1 hg1 (cs:=EE.all (xs.drop i)) (by rw [hdl,show Nat.min (xs.length + 1 - i) (xs.length + 1 - (i + 1))=xs.length - i from (Nat.min_eq_right (by omega)).trans (by omega)]) hsrc1 (by rw [hdl,hcl]; omega) (EE.all_one _) fun w2 hg2 hF2 hs2=>?_
   have hh2:=hF2.heap hh1 (fun h'=>hgh h')
   have hsrc2:∀ j u,(EE.all [x])[j]? = some u→w2.cell? ((blk h).add j)=some u:=fun j u hu=>by rw [blk_cell hh2]; exact hu
   refine ⟨by omega,by omega,?_⟩
   refine runT_copy und hinf hs1 hg2 (cs:=EE.all [x]) (by rw [hx2,show Nat.min 1 (xs.length + 1 - i)=1 from Nat.min_eq_left (by omega)]) hsrc2 (by simp only [List.length_append,List.length_take,List.length_drop,hx2,hdl,hcl]; omega) (EE.all_one _) fun w3 hg3 hF3 hs3=>?_
   have ei:(i + 1) * 3=i * 3 + 3:=by omega
   rw [ei] at hg3
   obtain ⟨q1,q2⟩:=ins_at (cur:=cur) (A:=EE.all (xs.take i)) (X:=EE.all [x]) (D:=EE.all (xs.drop i)) (i:=i * 3) (x:=3) (d:=(xs.length - i) * 3) hA1 (by rw [EE_len,List.length_take]; omega) hx2 hdl (by rw [hcl]; omega)
   refine hR _ w3 ?_ ?_ (.inl ha.symm)
   · have h6:=Own.of (n:=xs.length + 1) (cap:=s.cap) hg3 (by rw [q2,hcl]) hroom hcm
     rw [show (xs.length + 1) * 3=i * 3 + 3 + (xs.length - i) * 3 by omega,q1] at h6
     rw [EE.all_app,EE.all_app]
     exact h6
   · exact (hF1.mono (S':=s.bk) (fun _ _ h=>h.elim)).trans (S:=s.bk) (hF2.trans (S:=(· = g)) hF3 (fun _ _ h=>h)) (fun k _ h'=>by have h5:k=g:=h'; rw [h5]; exact hbk)
/-- an entry is cut out of a slice of one's own -/
theorem Delete_own {w : World} {s : Sl} {xs : List Ey} (hO : Own w T.y_api_Entry 3 s (EE.all xs)) (hb : xs.length ≤ 1000000000) {i : Nat} (hi : i < xs.length) {R : Sl → World → Prop}
   (hR:∀ l w',Own w' T.y_api_Entry 3 l (EE.all (xs.take i ++ xs.drop (i + 1)))→Fr s.bk w w'→Moved w s l→R l w'):F.slices_Delete_sl_api_Entry_api_Entry s i (w64 ((i:Int) + 1)) w R:=by
 have und:=elt_ey.und
 obtain ⟨inf,hinf,hz,hs1,hby⟩:=info_ey
 obtain ⟨z,hze⟩:∃ z:Value,z = .agg #[.int .i64 0,.string sNil,.int .i64 0]:=⟨_,rfl⟩
 rw [← hze] at hz
 have hzc:z.cells.size=3:=by rw [hze]; rfl
 apply E.slices_Delete_sl_api_Entry_api_Entry
 unfold V.slices_Delete_sl_api_Entry_api_Entry
 try simp -zeta only [ldC,soC,brC,bkA,slC,stC,alC,drC]
 have hlen:s.len=xs.length:=by have:=hO.len; rw [EE_len] at this; omega
 have hn0:s.len≠0:=by omega
 obtain ⟨g,cur,ha,hg,hcl,htk,hlc,hcm⟩:=Own.row hO hn0
 have hbk:s.bk g:=⟨blk g,ha,rfl⟩
 have e1:w64 ((i:Int) + 1)=((i + 1:Nat):Int):=w64_succ (by omega)
 rw [e1]
 simp only [slA0,hlen,Int.toNat_natCast]
 refine ⟨by omega,by omega,by omega,by omega,fun h0=>by simp at h0; omega,fun _=>?_⟩
 have hF1:Fr no w w.drew:=Fr.drew no w
 generalize w.drew=w1 at hF1 ⊢
 have hO1:=hO.keep hF1 (fun _ _=>id)
 have hg1:=hF1.heap hg id
 refine ⟨by omega,by omega,by omega,by omega,?_⟩
 have hpre:=Own.pre hO1 (i:=i) (by omega) hn0
 rw [EE_take,ha] at hpre
 have hdl:(EE.all (xs.drop (i + 1))).length=(xs.length - (i + 1)) * 3:=by rw [EE_len,List.length_drop]
 obtain ⟨ad,had,hsrc⟩:∃ ad,slA s.a s.cap (i + 1) 3=some ad∧∀ j u,(EE.all (xs.drop (i + 1)))[j]? = some u→w1.cell? (ad.add j)=some u:=by
   rw [ha]
   by_cases hc:s.cap=i + 1
   · refine ⟨blk g,by simp [slA,hc],fun j u hu=>?_⟩
     have:xs.drop (i + 1)=[]:=List.drop_of_length_le (by omega)
     rw [this] at hu
     simp [Enc.all] at hu
   · refine ⟨_,slA_ne hc,fun j u hu=>?_⟩
     rw [← add_blk,add_add]
     refine Own.at hO1 ha (j:=(i + 1) * 3 + j) ?_
     rw [← hu,← EE_drop,List.getElem?_drop]
 rw [had,ha]
 obtain ⟨w2,hr,ho2,hg2⟩:=run_append_fits (P:=Pg) w1 0 T.y_sl_api_Entry T.y_sl_api_Entry T.y_api_Entry inf 3 und hinf hs1 g i s.cap _ hpre ad (xs.length - (i + 1)) (s.cap - (i + 1)) (EE.all (xs.drop (i + 1))) hdl hsrc (EE.all_one _) (by omega)
 refine runT_slice (l:=⟨some (blk g),i + (xs.length - (i + 1)),s.cap⟩) hr ?_
 have hF2:Fr (· = g) w1 w2:=Fr.grown hg2 fun k hk=>(Option.some.inj hk).symm
 have ho2':Own w2 T.y_api_Entry 3 ⟨some (blk g),i + (xs.length - (i + 1)),s.cap⟩ (EE.all (xs.take i ++ xs.drop (i + 1))):=by rw [EE.all_app]; exact ho2
 have hle:i + (xs.length - (i + 1)) + 1=xs.length:=by omega
 generalize i + (xs.length - (i + 1))=m at *
 -- the block behind
 have hrow:∃ cur2,w2.heap[g]? = some (.cells ⟨cur2⟩ T.y_api_Entry (0,0))∧cur2.length=s.cap * 3∧cur2.take (m * 3)=EE.all (xs.take i ++ xs.drop (i + 1)):=by
   rcases ho2'.2 with ⟨h2,h0⟩ | ⟨g',cap',cur2,hv,_,hgg,hnc,hcm2,hcs,htk2⟩
   · simp at h2
   · simp only [Value.slice.injEq,Option.some.injEq,Addr.mk.injEq,and_true,true_and] at hv
     obtain ⟨hv1,hv2⟩:=hv
     have hv1:g=g':=hv1
     subst hv1; subst hv2
     exact ⟨cur2.toList,hgg,by simpa using hcs,htk2⟩
 obtain ⟨cur2,hgg,hcl2,htk2⟩:=hrow
 refine ⟨by simp only; omega,by simp only; omega,by simp only; omega,?_⟩
 simp only [Int.toNat_natCast]
 rw [slA_ne (by omega),show xs.length - m=1 by omega]
 have hzr:∀ u,(zeroValue T.y_api_Entry).run Pg u = .ok z u:=fun u=>by simp [zeroValue,typeInfo,hinf,hz]
 have hst:=run_storeCells_at Pg g (m * 3) T.y_api_Entry (Builtin.zeroCells z.cells 1).toList 0 ⟨cur2⟩ w2 hgg (by simp [size_zeroCells,hzc,hcl2]; omega) (fun v hv=>by
   have:Builtin.zeroCells z.cells 1=z.cells:=by rw [hze]; kernel_rfl
   rw [this] at hv
   rw [hze] at hv
   have hv:v∈[Value.int .i64 0,.string sNil,.int .i64 0]:=hv
   simp only [List.mem_cons,List.not_mem_nil,or_false] at hv
   rcases hv with rfl | rfl | rfl <;> rfl)
 obtain ⟨zs,hzs⟩:∃ zs,zs=(Builtin.zeroCells z.cells 1).toList:=⟨_,rfl⟩
 have hl0:zs.length=3:=by rw [hzs]; simp [size_zeroCells,hzc]
 rw [← hzs] at hst
 refine ⟨w2.setRow g (cur2.take (m * 3 + 0) ++ zs ++ cur2.drop (m * 3 + 0 + zs.length)).toArray,?_,?_⟩
 · show (Builtin.clear_ _ _ _).run Pg w2 = .ok (.tuple #[]) _
   simp only [Builtin.clear_]
   simp [run_underlying und,hzr,← hzs,hst,Result.andThen]
 · clear hst
   refine hR _ _ ?_ ?_ (.inl ha.symm)
   · have h6:=Own.of (size:=3) (n:=m) (cap:=s.cap) (setRow_heap w2 g _ (cur2.take (m * 3 + 0) ++ zs ++ cur2.drop (m * 3 + 0 + zs.length)).toArray _ _ hgg) (by simp only [List.length_append,List.length_take,List.length_drop,hl0,hcl2]; omega) (by omega) hcm
     have e:((cur2.take (m * 3 + 0) ++ zs ++ cur2.drop (m * 3 + 0 + zs.length)).toArray.toList).take (m * 3)=EE.all (xs.take i ++ xs.drop (i + 1)):=by
       rw [← htk2,List.append_assoc,Nat.add_zero]
       simp only
       rw [List.take_append_of_le_length (by rw [List.length_take]; omega),List.take_of_length_le (by rw [List.length_take]; omega)]
     rw [← e]; exact h6
   · have hF3 : Fr (· = g) w2 (w2.setRow g (cur2.take (m * 3 + 0) ++ zs ++ cur2.drop (m * 3 + 0 + zs.length)).toArray) :=
       ⟨rfl,rfl,rfl,by simp [World.setRow],fun k _ hk=>setRow_other w2 g k _ hk⟩
     exact (hF1.mono (S':=s.bk) (fun _ _ h=>h.elim)).trans (S:=s.bk) (hF2.trans (S:=(· = g)) hF3 (fun _ _ h=>h)) (fun k _ h'=>by have h5:k=g:=h'; rw [h5]; exact hbk)
section
variable {w:World} {X:List As}
theorem St.rows {s l:Sl} {xs ys:List Ey} {w':World} (h:St w (Row EE T.y_api_Entry s xs :: X)) (ho:Own w' T.y_api_Entry 3 l (EE.all ys)) (hf:Fr s.bk w w') (hm:Moved w s l):St w' (Row EE T.y_api_Entry l ys :: X):=by
 obtain ⟨S,⟨hO,e⟩,_,hX⟩:=h.out
 subst e
 refine hX (A':=Row EE T.y_api_Entry l ys) ⟨ho,rfl⟩ hf fun k hk=>?_
 obtain ⟨a,ha,hb⟩:=hk
 rcases hm with e | ⟨g,e,hg⟩
 · exact .inl ⟨a,by rw [← e]; exact ha,hb⟩
 · rw [e] at ha
   injection ha with ha
   subst ha; subst hb
   exact .inr hg
theorem Insert_st {g : Nat} {x : Ey} {s : Sl} {xs : List Ey} (h : St w (Cs g (EE.all [x]) T.y_api_Entry :: Row EE T.y_api_Entry s xs :: X)) (hb : xs.length ≤ 1000000000) {i : Nat} (hi : i ≤ xs.length) {R : Sl → World → Prop}
   (hR:∀ l w',St w' (Row EE T.y_api_Entry l (xs.take i ++ [x] ++ xs.drop i) :: X)→R l w'):F.slices_Insert_sl_api_Entry_api_Entry s i ⟨some (blk g),1,1⟩ w R:=by
 obtain ⟨a,b,⟨_,e1⟩,⟨_,e2⟩,hd⟩:=St.two h
 refine Insert_own (St.own h.sw) hb (St.bl h) (fun hk=>?_) hi fun l w' ho hf hm=>hR l w' ((St.rows h.sw ho hf hm).d2)
 subst e1; subst e2
 exact hd g rfl hk
theorem Delete_st {s : Sl} {xs : List Ey} (h : St w (Row EE T.y_api_Entry s xs :: X)) (hb : xs.length ≤ 1000000000) {i : Nat} (hi : i < xs.length) {R : Sl → World → Prop}
   (hR:∀ l w',St w' (Row EE T.y_api_Entry l (xs.take i ++ xs.drop (i + 1)) :: X)→R l w'):F.slices_Delete_sl_api_Entry_api_Entry s i (w64 ((i:Int) + 1)) w R:=
 Delete_own (St.own h) hb hi fun l w' ho hf hm=>hR l w' (St.rows h ho hf hm)
end
end Go.Proofs.YtgacpkgaogiocaaGreatDoor
