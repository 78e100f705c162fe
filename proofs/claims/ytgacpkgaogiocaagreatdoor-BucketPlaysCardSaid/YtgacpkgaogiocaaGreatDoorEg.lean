/- slices of entries: Index, Contains, Clone, BinarySearchFunc. -/
import Derived.Test.YtgacpkgaogiocaaGreatDoorEe
import Derived.Shelf.SlGeneric
import Derived.Shelf.SlSortCmp.NoneTotal
import Derived.Ground.SlsfProg
import Derived.Test.YtgacpkgaogiocaaGreatDoorProg
set_option linter.unusedVariables false
namespace Go.Proofs.YtgacpkgaogiocaaGreatDoor
open Go Go.Vc Go.RowKit Go.Lib
section
variable {w:World} {X:List As}
/-- where an entry stands first -/
def idxE (xs:List Ey) (x:Ey):Int:=if x∈xs then (xs.idxOf x:Int) else -1
theorem ey_eq (x y:Ey):((x.k == y.k) && (sEq (tx x.s) (tx y.s) && ((x.a == y.a) && true)))=decide (x=y):=by
 rw [tx_eq,Bool.eq_iff_iff]
 cases x; cases y
 simp only [Bool.and_true,Bool.and_eq_true,beq_iff_eq,decide_eq_true_eq,Ey.mk.injEq]
theorem Index_ey (h : St w X) {sl : Sl} {xs : List Ey} (hx : ∀ w', St w' X → Has EE w' sl xs) (hl : xs.length ≤ 1000000) {x : Ey} {R : Int → World → Prop}
   (hR:∀ w',St w' X→R (idxE xs x) w'):F.slices_Index_sl_api_Entry_api_Entry sl x.k (tx x.s) x.a w R:=by
 apply E.slices_Index_sl_api_Entry_api_Entry
 unfold V.slices_Index_sl_api_Entry_api_Entry
 try simp -zeta only [ldC,soC,brC,bkA,slC,cnd_all,blk_add2,Nat.reduceAdd]
 have h1:=(hx w h).1
 refine St.al h fun wa1 h=>?_
 generalize w.heap.size=g at *
 refine ⟨Cnt xs.length fun m w'=>(∀ k (hk:k < xs.length),k < m→xs[k]≠x)∧St w' (Cs g [.int .i64 x.k,.string (tx x.s),.int .i64 x.a] T.y_api_Entry :: X),cntM xs.length,Cnt.zero ⟨fun k _ hk=>absurd hk (Nat.not_lt_zero k),h⟩,?_⟩
 rintro _ w1 ⟨m,rfl,hm,hne,h2⟩
 refine ⟨fun hlt=>?_,fun hge=>?_⟩
 · have hlt:m < xs.length:=by omega
   refine St.dr h2 fun wa2 h2=>?_
   obtain ⟨ad,ha,hb,c0,c1,c2⟩:=Has.ey (hx _ h2.drop) hlt
   refine ⟨_,h2.cell0,_,h2.cell 1,_,h2.cell 2,ad,ha,by omega,by omega,_,c0,_,c1,_,c2,?_⟩
   rw [ey_eq]
   refine ⟨fun ht=>?_,fun hf=>Cnt.next hlt (by omega) ⟨fun k hk hk2=>?_,h2⟩⟩
   · have ht:x=xs[m]:=of_decide_eq_true ht
     have hmem:x∈xs:=by rw [ht]; exact List.getElem_mem _
     have hi:xs.idxOf x=m:=by
       have e1:xs.idxOf x < xs.length:=List.idxOf_lt_length_iff.2 hmem
       have e2:xs[xs.idxOf x]=x:=List.getElem_idxOf e1
       rcases Nat.lt_trichotomy (xs.idxOf x) m with c | c | c
       · exact absurd e2 (hne _ e1 c)
       · exact c
       · have:=List.not_of_lt_findIdx (p:=fun y=>y == x) (xs:=xs) (i:=m) (by simpa [List.idxOf] using c)
         exact absurd ht.symm (by simpa using this)
     have:=hR _ h2.drop
     unfold idxE at this
     rw [if_pos hmem,hi] at this; exact this
   · have hf:¬ x=xs[m]:=of_decide_eq_false hf
     rcases Nat.lt_or_ge k m with c | c
     · exact hne k hk c
     · have:k=m:=by omega
       subst this
       exact fun e=>hf e.symm
 · have hno : x ∉ xs := fun hm2 => by
     obtain ⟨k,hk,e⟩:=List.mem_iff_getElem.1 hm2
     exact hne k hk (by omega) e
   have:=hR _ h2.drop
   unfold idxE at this
   rw [if_neg hno] at this; exact this
theorem Contains_ey (h : St w X) {sl : Sl} {xs : List Ey} (hx : ∀ w', St w' X → Has EE w' sl xs) (hl : xs.length ≤ 1000000) {x : Ey} {R : Bool → World → Prop}
   (hR:∀ w',St w' X→R (decide (x∈xs)) w'):F.slices_Contains_sl_api_Entry_api_Entry sl x.k (tx x.s) x.a w R:=by
 apply E.slices_Contains_sl_api_Entry_api_Entry
 unfold V.slices_Contains_sl_api_Entry_api_Entry
 try simp -zeta only [ldC,soC,brC,bkA,slC,cnd_all,blk_add2,Nat.reduceAdd]
 refine St.al h fun wa1 h=>?_
 refine ⟨_,h.cell0,_,h.cell 1,_,h.cell 2,Index_ey h (fun w' hw=>hx w' hw.drop) hl fun w2 h2=>?_⟩
 have e:decide (idxE xs x≥0)=decide (x∈xs):=by
   rw [decide_eq_decide]
   unfold idxE
   split
   · rename_i hm; exact ⟨fun _=>hm,fun _=>by omega⟩
   · rename_i hm; exact ⟨fun h=>absurd h (by omega),fun h=>absurd h hm⟩
 rw [e]
 exact hR w2 h2.drop
theorem app_ey {l sl : Sl} {xs ys : List Ey} (h : St w (Row EE T.y_api_Entry l xs :: X)) (hs : Has EE w sl ys) {a : Addr} (ha : sl.a = some a) (hb : xs.length + ys.length ≤ 1000000) {R : Sl → World → Prop}
   (hR:∀ l' w',St w' (Row EE T.y_api_Entry l' (xs ++ ys) :: X)→R l' w'):RunT Pg (Builtin.append_ #[T.y_sl_api_Entry,T.y_sl_api_Entry] T.y_sl_api_Entry #[.slice l.a l.len l.cap,.slice (some a) sl.len sl.cap]) [.one .slice] w R:=
 St.app elt_ey h hs ha (by omega) (by omega) fun l' w' h' _=>hR l' w' h'
theorem appN_ey {l sl : Sl} {xs ys : List Ey} (h : St w (Row EE T.y_api_Entry l xs :: X)) (hs : Has EE w sl ys) (hn : NilOk sl) (hb : xs.length + ys.length ≤ 1000000) {R : Sl → World → Prop}
   (hR:∀ l' w',St w' (Row EE T.y_api_Entry l' (xs ++ ys) :: X)→R l' w'):RunT Pg (Builtin.append_ #[T.y_sl_api_Entry,T.y_sl_api_Entry] T.y_sl_api_Entry #[.slice l.a l.len l.cap,.slice sl.a sl.len sl.cap]) [.one .slice] w R:=
 St.appN elt_ey h hs hn (by omega) (by omega) fun l' w' h' _=>hR l' w' h'
theorem app1_ey {l : Sl} {xs : List Ey} {y : Ey} {g c : Nat} (h : St w (Cs g [.int .i64 y.k, .string (tx y.s), .int .i64 y.a] T.y_api_Entry :: Row EE T.y_api_Entry l xs :: X)) (hb : xs.length ≤ 100000) {R : Sl → World → Prop}
   (hR:∀ l' w',St w' (Row EE T.y_api_Entry l' (xs ++ [y]) :: X)→R l' w'):RunT Pg (Builtin.append_ #[T.y_sl_api_Entry,T.y_sl_api_Entry] T.y_sl_api_Entry #[.slice l.a l.len l.cap,.slice (some (blk g)) 1 c]) [.one .slice] w R:=
 app_ey (sl:=⟨some (blk g),1,c⟩) h.sw (h.lit (En:=EE) (xs:=[y]) rfl rfl c) rfl (by simp; omega) fun l' w' h'=>hR l' w' h'.d2
theorem Clone_ey (h : St w X) {sl : Sl} {xs : List Ey} (hx : ∀ w', St w' X → Has EE w' sl xs) (hn : NilOk sl) (hb : xs.length ≤ 1000000) {R : Sl → World → Prop}
   (hR:∀ l w',St w' (Row EE T.y_api_Entry l xs :: X)→R l w'):F.slices_Clone_sl_api_Entry_api_Entry sl w R:=by
 apply E.slices_Clone_sl_api_Entry_api_Entry
 unfold V.slices_Clone_sl_api_Entry_api_Entry
 try simp -zeta only [ldC,soC,brC,bkA,slC,cnd_all,blk_add2,Nat.reduceAdd]
 refine ⟨fun he=>?_,fun hs=>?_⟩
 · have ha:sl.a=none:=by simpa using he
   have hz:=hn ha
   have:xs=[]:=List.eq_nil_of_length_eq_zero (by rw [← (hx w h).1,hz])
   subst this
   exact hR _ _ (h.row0 EE T.y_api_Entry)
 · obtain ⟨a, ha⟩ : ∃ a, sl.a = some a := by
     cases hc:sl.a with
     | none=>rw [hc] at hs; cases hs
     | some a=>exact ⟨a,rfl⟩
   refine St.al h fun wa1 h=>?_
   have h2:=St.rowLit h (En:=EE) (xs:=[]) (n:=0) rfl rfl (by decide)
   have hx2:=hx _ h.drop
   rw [ha]
   exact app_ey (l:=⟨some (blk w.heap.size),0,0⟩) (xs:=[]) h2 hx2 ha (by simp only [List.length_nil]; omega) hR
set_option maxHeartbeats 1000000 in
/-- the place of an entry -/
theorem Search_ey (h : St w X) {sl : Sl} {xs : List Ey} (hx : ∀ w', St w' X → Has EE w' sl xs) (hs : Srt xs) (hb : xs.length ≤ 1000000) {x : Ey} {R : Int → Bool → World → Prop}
   (hR:∀ b w',St w' X→R (cntE xs x:Int) b w'):F.slices_BinarySearchFunc_sl_api_Entry_api_Entry_api_Entry sl x.k (tx x.s) x.a (.func (.func 42) #[] #[]) w R:=by
 apply E.slices_BinarySearchFunc_sl_api_Entry_api_Entry_api_Entry
 unfold V.slices_BinarySearchFunc_sl_api_Entry_api_Entry_api_Entry
 try simp -zeta only [ldC,soC,brC,bkA,slC,cnd_all,blk_add2,Nat.reduceAdd]
 have h1:=(hx w h).1
 refine St.al h fun wa1 h=>?_
 generalize w.heap.size=g at *
 refine ⟨fun i j w'=>∃ a b:Nat,i=a∧j=b∧a≤b∧b≤xs.length∧(∀ k (hk:k < xs.length),k < a→ltE xs[k] x)∧(∀ k (hk:k < xs.length),b≤k→¬ ltE xs[k] x)∧St w' (Cs g [.int .i64 x.k,.string (tx x.s),.int .i64 x.a] T.y_api_Entry :: X),fun i j _=>(j - i).toNat,
   ⟨0,xs.length,rfl,by rw [h1],Nat.zero_le _,Nat.le_refl _,fun k _ hk=>absurd hk (Nat.not_lt_zero _),fun k hk hk2=>absurd hk (by omega),h⟩,?_⟩
 rintro i j w1 ⟨a,b,rfl,rfl,hab,hbl,hlo,hhi,h2⟩
 refine ⟨fun hlt=>?_,fun hge=>?_⟩
 · have hlt:a < b:=by omega
   have em:w64 (shr .u64 (wr .u64 (w64 ((a:Int) + (b:Int)))) 1)=(((a + b) / 2:Nat):Int):=by
     have e1:w64 ((a:Int) + (b:Int))=((a + b:Nat):Int):=by rw [w64_id (by omega) (by omega)]; omega
     rw [e1,wr64c _ (by omega),shr1,w64_id (by omega) (by omega)]
   have e2:w64 ((((a + b) / 2:Nat):Int) + 1)=(((a + b) / 2 + 1:Nat):Int):=by rw [w64_id (by omega) (by omega)]; omega
   simp only [em,e2]
   have hm1:a≤(a + b) / 2:=by omega
   have hm2:(a + b) / 2 < b:=by omega
   generalize (a + b) / 2=m at hm1 hm2
   have hml:m < xs.length:=by omega
   refine ⟨by decide,?_⟩
   refine St.dr h2 fun wa2 h2=>?_
   obtain ⟨ad,ha,hb2,c0,c1,c2⟩:=Has.ey (hx _ h2.drop) hml
   refine ⟨ad,ha,by omega,by omega,_,c0,_,c1,_,c2,_,h2.cell0,_,h2.cell 1,_,h2.cell 2,42,#[],#[],rfl,okChk_spec (by kernel_rfl),?_⟩
   show F.bucket_compare xs[m].k (tx xs[m].s) xs[m].a x.k (tx x.s) x.a _ _
   refine compare_st h2 fun w3 _ h3=>⟨fun hn=>?_,fun hn=>?_⟩
   · have hn:ltE xs[m] x:=(cfE_lt _ _).1 hn
     refine ⟨⟨m + 1,b,rfl,rfl,by omega,hbl,fun k hk hk2=>?_,hhi,h3⟩,?_⟩
     · rcases Nat.lt_or_ge k m with c | c
       · exact ltE_trans (srt_lt hs hk hml c) hn
       · have:k=m:=by omega
         subst this; exact hn
     · show ((b:Int) - ((m + 1:Nat):Int)).toNat < ((b:Int) - (a:Int)).toNat
       omega
   · have hn:¬ ltE xs[m] x:=fun k=>hn ((cfE_lt _ _).2 k)
     refine ⟨⟨a,m,rfl,rfl,hm1,by omega,hlo,fun k hk hk2=>?_,h3⟩,?_⟩
     · rcases Nat.lt_or_ge m k with c | c
       · exact fun k2=>hn (ltE_trans (srt_lt hs hml hk c) k2)
       · have:k=m:=by omega
         subst this; exact hn
     · show ((m:Int) - (a:Int)).toNat < ((b:Int) - (a:Int)).toNat
       omega
 · have hge:a=b:=by omega
   subst hge
   have hc:cntE xs x=a:=cnt_uniq hbl hlo hhi
   rw [hc] at hR
   refine St.dr h2 fun wa3 h2=>?_
   refine ⟨fun hlt=>?_,fun hlt=>hR false _ h2.drop⟩
   have hlt:a < xs.length:=by omega
   obtain ⟨ad,ha,hb2,c0,c1,c2⟩:=Has.ey (hx _ h2.drop) hlt
   refine ⟨ad,ha,by omega,by omega,_,c0,_,c1,_,c2,_,h2.cell0,_,h2.cell 1,_,h2.cell 2,42,#[],#[],rfl,okChk_spec (by kernel_rfl),?_⟩
   show F.bucket_compare xs[a].k (tx xs[a].s) xs[a].a x.k (tx x.s) x.a _ _
   exact compare_st h2 fun w3 _ h3=>hR _ w3 h3.drop
end
end Go.Proofs.YtgacpkgaogiocaaGreatDoor

/-
 DERIVED: THE SHELF's CONTRACTS AT THIS DUMP, IN PLAIN WORDS (tools/lay-plain.mjs out of 'YtgacpkgaogiocaaGreatDoorShelfX.lean', which tools/lay-shelf.mjs wrote): THE SAME DECLARATIONS UNDER THE SAME NAMES: 'import', 'namespace', 'open', 'def', 'theorem' AND NOTHING ELSE: no command of the shelf's: FOR A HAND-IN. Each laying: the table of numbers ('.._ren') and one theorem, a field a fact of the dump's own or the kernel's comparison; each contract: ONE APPLICATION.
-/
namespace Go.Proofs
open Go.Shelf
def Tryz.sortf_ren:Go.Shelf.Ren:=⟨fun | 6=>45 | 15=>126 | 14=>125 | 28=>193 | 29=>194 | 20=>185 | 21=>186 | 22=>187 | 23=>188 | 24=>189 | 25=>190 | 26=>191 | 27=>192 | 46=>236 | 47=>237 | 48=>238 | 49=>239 | 50=>240 | 57=>270 | n=>n,fun | 22=>27 | 24=>34 | 25=>98 | 3=>3 | 39=>147 | 0=>0 | 53=>139 | 55=>145 | 4=>4 | 46=>250 | 45=>249 | 50=>87 | 5=>5 | 9=>9 | 66=>286 | 70=>290 | 76=>312 | 77=>313 | n=>n,fun | n=>n⟩
theorem Tryz.sortf:Go.Proofs.SlLaysF0.n6 Tryz.prog Tryz.sortf_ren:={
 mixed:=by kernel_rfl
 f6:=⟨Tryz.f45.name,by decide,Tryz.func45.trans (congrArg some (by kernel_rfl))⟩
 f14:=⟨Tryz.f125.name,by decide,Tryz.func125.trans (congrArg some (by kernel_rfl))⟩
 f15:=Tryz.func126.trans (congrArg some (by kernel_rfl))
 f20:=⟨Tryz.f185.name,by decide,Tryz.func185.trans (congrArg some (by kernel_rfl))⟩
 f21:=⟨Tryz.f186.name,by decide,Tryz.func186.trans (congrArg some (by kernel_rfl))⟩
 f22:=⟨Tryz.f187.name,by decide,Tryz.func187.trans (congrArg some (by kernel_rfl))⟩
 f23:=⟨Tryz.f188.name,by decide,Tryz.func188.trans (congrArg some (by kernel_rfl))⟩
 f24:=⟨Tryz.f189.name,by decide,Tryz.func189.trans (congrArg some (by kernel_rfl))⟩
 f25:=⟨Tryz.f190.name,by decide,Tryz.func190.trans (congrArg some (by kernel_rfl))⟩
 f26:=⟨Tryz.f191.name,by decide,Tryz.func191.trans (congrArg some (by kernel_rfl))⟩
 f27:=⟨Tryz.f192.name,by decide,Tryz.func192.trans (congrArg some (by kernel_rfl))⟩
 f28:=Tryz.func193.trans (congrArg some (by kernel_rfl))
 f29:=Tryz.func194.trans (congrArg some (by kernel_rfl))
 f46:=⟨Tryz.f236.name,by decide,Tryz.func236.trans (congrArg some (by kernel_rfl))⟩
 f47:=Tryz.func237.trans (congrArg some (by kernel_rfl))
 f48:=Tryz.func238.trans (congrArg some (by kernel_rfl))
 f49:=⟨Tryz.f239.name,by decide,Tryz.func239.trans (congrArg some (by kernel_rfl))⟩
 f50:=⟨Tryz.f240.name,by decide,Tryz.func240.trans (congrArg some (by kernel_rfl))⟩
 f57:=⟨Tryz.f270.name,by decide,Tryz.func270.trans (congrArg some (by kernel_rfl))⟩
 t0:=Tryz.underlying0
 a0:=Tryz.isAgg0
 z0:=Tryz.sizeOf0
 v0:=Tryz.zeroValue0
 t3:=Tryz.underlying3
 a3:=Tryz.isAgg3
 z3:=Tryz.sizeOf3
 v3:=Tryz.zeroValue3
 t4:=Tryz.underlying4
 a4:=Tryz.isAgg4
 z4:=Tryz.sizeOf4
 v4:=Tryz.zeroValue4
 t5:=Tryz.underlying5
 a5:=Tryz.isAgg5
 z5:=Tryz.sizeOf5
 v5:=Tryz.zeroValue5
 t9:=Tryz.underlying9
 a9:=Tryz.isAgg9
 z9:=Tryz.sizeOf9
 v9:=Tryz.zeroValue9
 t22:=Tryz.underlying27
 a22:=Tryz.isAgg27
 z22:=Tryz.sizeOf27
 v22:=Tryz.zeroValue27
 t25:=Tryz.underlying98
 a25:=Tryz.isAgg98
 z25:=Tryz.sizeOf98
 v25:=Tryz.zeroValue98
 t39:=Tryz.underlying147
 a39:=Tryz.isAgg147
 z39:=Tryz.sizeOf147
 v39:=Tryz.zeroValue147
 t45:=Tryz.underlying249
 a45:=Tryz.isAgg249
 z45:=Tryz.sizeOf249
 v45:=Tryz.zeroValue249
 t46:=Tryz.underlying250
 a46:=Tryz.isAgg250
 z46:=Tryz.sizeOf250
 v46:=Tryz.zeroValue250
 t50:=Tryz.underlying87
 a50:=Tryz.isAgg87
 z50:=Tryz.sizeOf87
 v50:=Tryz.zeroValue87
 t53:=Tryz.underlying139
 a53:=Tryz.isAgg139
 z53:=Tryz.sizeOf139
 v53:=Tryz.zeroValue139
 t55:=Tryz.underlying145
 a55:=Tryz.isAgg145
 z55:=Tryz.sizeOf145
 v55:=Tryz.zeroValue145
 t66:=Tryz.underlying286
 a66:=Tryz.isAgg286
 z66:=Tryz.sizeOf286
 v66:=Tryz.zeroValue286
 t70:=Tryz.underlying290
 a70:=Tryz.isAgg290
 z70:=Tryz.sizeOf290
 v70:=Tryz.zeroValue290
 t76:=Tryz.underlying312
 a76:=Tryz.isAgg312
 z76:=Tryz.sizeOf312
 v76:=Tryz.zeroValue312
 t77:=Tryz.underlying313
 a77:=Tryz.isAgg313
 z77:=Tryz.sizeOf313
 v77:=Tryz.zeroValue313 }
end Go.Proofs

/- entries, sorted. -/
set_option linter.unusedVariables false
namespace Go.Proofs.YtgacpkgaogiocaaGreatDoor
open Go Go.Vc Go.RowKit Go.Lib
instance:Inhabited Ey:=⟨⟨0,[],0⟩⟩
theorem flat_ey (xs:List Ey):(Go.Sort.flatK EE.cells 3 xs.toArray).toList=EE.all xs:=by
 apply List.ext_getElem?
 intro t
 by_cases ht:t < xs.length * 3
 · have hj:t / 3 < xs.length:=by omega
   have hi:t % 3 < (EE.cells xs[t / 3]).length:=by rw [EE.len]; show t % 3 < 3; omega
   have h1:=EE.at (xs:=xs) (j:=t / 3) (x:=xs[t / 3]) (by simp [hj]) (i:=t % 3) (u:=(EE.cells xs[t / 3])[t % 3]) (by simp)
   have e:t / 3 * EE.n + t % 3=t:=by show t / 3 * 3 + t % 3=t; omega
   rw [e] at h1
   rw [h1,Array.getElem?_toList]
   have h2:=Go.Sort.get_flatK EE.cells 3 xs.toArray t (by simpa using ht)
   rw [getElem!_pos _ t (by simpa using ht)] at h2
   rw [Array.getElem?_eq_getElem (by simpa using ht),h2]
   have e3:xs.toArray[t / 3]! = xs[t / 3]:=by simp [hj]
   rw [e3,getElem!_pos (EE.cells xs[t / 3]) (t % 3) hi]
 · rw [List.getElem?_eq_none (by simpa using ht),List.getElem?_eq_none (by rw [EE_len]; omega)]
theorem leB_eq:(fun x y=>!(Go.Proofs.ltOf cfE) y x)=leB:=by
 funext x y
 unfold Go.Proofs.ltOf leB
 congr 1
 rw [decide_eq_decide,cfE_lt]
theorem swo_ey:Go.Sort.SWO (Go.Proofs.ltOf cfE) where
 irrefl:=fun x=>decide_eq_false (fun h=>ltE_irrefl x ((cfE_lt x x).1 h))
 trans:=fun x y z h1 h2=>decide_eq_true ((cfE_lt _ _).2 (ltE_trans ((cfE_lt _ _).1 (of_decide_eq_true h1)) ((cfE_lt _ _).1 (of_decide_eq_true h2))))
 ntrans:=fun x y z h1 h2=>decide_eq_false fun h3=>by
   have h1:¬ ltE x y:=fun k=>of_decide_eq_false h1 ((cfE_lt _ _).2 k)
   have h2:¬ ltE y z:=fun k=>of_decide_eq_false h2 ((cfE_lt _ _).2 k)
   have h3:=(cfE_lt _ _).1 h3
   rcases ltE_total x y with k | k | k
   · exact h1 k
   · subst k; exact h2 h3
   · exact h2 (ltE_trans k h3)
theorem cmp_lays (g off size:Nat) (w:World):Go.Proofs.CmpLays Pg 42 #[] EE.cells 3 cfE g off size w:=fun m os dk _ x y=>by
 generalize Go.Proofs.sortWorldK EE.cells 3 w g off m dk os=W
 have c:=compare_st (X:=[Old W]) (x:=x) (y:=y) (St.start W) (R:=fun n w'=>n=cfE x y∧∃ q os',w'=Go.Sort.grow (W.drewN q) os') fun w' hd h=>⟨rfl,below_grow (St.old h) hd⟩
 refine Calls.mono c fun e w' h=>?_
 obtain ⟨n,he,hn,hr⟩:=h
 exact ⟨by rw [he,hn]; rfl,hr⟩
theorem heap_sortK {w : World} {g n : Nat} {os : Array Obj} {cur : Array Value} {e : TypeId} {fr : Nat × Nat} (d : Array Value) (hb : w.heap[g]? = some (.cells cur e fr)) :
   (Go.Sort.grow (Go.Sort.putRow id (Go.Sort.ahead w n) g 0 d) os).heap[g]? = some (.cells (Go.Sort.putCells id 0 d cur) e fr):=by
 have hg:g < w.heap.size:=(Array.getElem?_eq_some_iff.1 hb).1
 rw [Go.Sort.heap_grow_old _ _ (by simpa using hg)]
 simp [Go.Sort.putRow,Go.Sort.mapBlock,Go.Sort.ahead,Array.getElem?_modify,hb,Go.Sort.onCells]
theorem grown_sortK {w:World} {g n:Nat} {os:Array Obj} (d:Array Value):w.grownBy (Go.Sort.grow (Go.Sort.putRow id (Go.Sort.ahead w n) g 0 d) os) (some g):=by
 refine ⟨rfl,rfl,rfl,by simp,fun k hk hne=>?_⟩
 rw [Go.Sort.heap_grow_old _ _ (by simpa using hk)]
 have:g≠k:=fun e=>hne (by rw [e])
 simp [Go.Sort.putRow,Go.Sort.mapBlock,Go.Sort.ahead,Array.getElem?_modify,this]
theorem take_putK (cur d:Array Value) (h:d.size≤cur.size):(Go.Sort.putCells id 0 d cur).toList.take d.size=d.toList:=by
 apply List.ext_getElem?
 intro j
 by_cases hj:j < d.size
 · rw [List.getElem?_take_of_lt hj,Array.getElem?_toList]
   simp [Go.Sort.putCells,hj,show j < cur.size by omega]
 · rw [List.getElem?_take_eq_none (by omega),List.getElem?_eq_none (by simp; omega)]
section
variable {w:World} {X:List As}
theorem Sort_ey {sl : Sl} {xs : List Ey} (h : St w (Row EE T.y_api_Entry sl xs :: X)) (hb : xs.length ≤ 1000000) {R : World → Prop}
   (hR:∀ w',St w' (Row EE T.y_api_Entry sl (xs.mergeSort leB) :: X)→R w'):F.slices_SortFunc_sl_api_Entry_api_Entry sl (.func (.func 42) #[] #[]) w R:=by
 have hO:=St.own h
 have hlen:sl.len=xs.length:=by
   have:=hO.len
   rw [EE_len] at this
   have this:xs.length * 3=sl.len * 3:=this
   omega
 by_cases h0:xs.length=0
 · have hx:xs=[]:=List.eq_nil_of_length_eq_zero h0
   subst hx
   have c:Calls Tryz.prog 45 #[.slice sl.a 0 sl.cap,.func (.func 42) #[] #[]] w fun e w'=>e = .returned (.tuple #[])∧w'=w:=Go.Proofs.AnyF.slices_SortFunc_none Tryz.sortf sl.a sl.cap _ w
   have hl0:sl.len=0:=hlen
   show RetT Pg [] 45 _ w R
   rw [hl0]
   refine Calls.mono c fun e w' h2=>⟨h2.1,?_⟩
   have h3:=h2.2
   subst h3
   exact hR _ (by simpa using h)
 · obtain ⟨g,cur,ha,hg,hcl,htk,hlc,hcm⟩:=Own.row hO (by omega)
   have e3:EE.n=3:=rfl
   rw [e3,hlen] at htk
   rw [e3] at hcl
   have hH:Go.Sort.HoldsK EE.cells 3 w g 0 xs.toArray:=fun j hj=>by
     have hj':j < xs.length * 3:=by simpa using hj
     refine ⟨?_,by simp [World.frozen?,hg]⟩
     have h1:(cur.take (xs.length * 3))[j]? = (EE.all xs)[j]?:=by rw [htk]
     rw [List.getElem?_take_of_lt hj',← flat_ey] at h1
     have h4:=blk_cell hg j
     rw [add_blk] at h4
     rw [Nat.zero_add,h4,h1,Array.getElem?_toList,Array.getElem?_eq_getElem (by simpa using hj'),getElem!_pos _ _ (by simpa using hj')]
     rfl
   have c:=Go.Proofs.AnyQ.slices_SortFunc_total (P:=Pg) Tryz.sortf 3 (fun w=>by simp [isAgg]; kernel_rfl) (fun w=>by
     obtain ⟨i,hi,hz,h1,h2⟩:=info_ey
     show (Go.sizeOf T.y_api_Entry).run Pg w=_
     simp [sizeOf,typeInfo,hi,h1]) EE.cells EE.len EE.one cfE swo_ey 42 #[] g 0 sl.cap xs.toArray w (fun args w=>run_callFunc (P:=Pg) (f:=42) ⟨Tryz.f42,Tryz.func42,by kernel_rfl,by kernel_rfl⟩ args w) (cmp_lays g 0 _ w) hH (heap_lt hg) (by simp; omega) (fun x y h1 h2=>by
       have h1:¬ ltE x y:=fun k=>of_decide_eq_false h1 ((cfE_lt _ _).2 k)
       have h2:¬ ltE y x:=fun k=>of_decide_eq_false h2 ((cfE_lt _ _).2 k)
       rcases ltE_total x y with k | k | k
       · exact absurd k h1
       · exact k
       · exact absurd k h2)
   rw [leB_eq] at c
   show RetT Pg [] 45 _ w R
   rw [ha,hlen]
   refine Calls.mono c fun e w' h2=>⟨h2.1,?_⟩
   obtain ⟨n,os,rfl⟩:=h2.2
   have hsl:(xs.mergeSort leB).length=xs.length:=List.length_mergeSort _
   refine hR _ (St.rows h ?_ (Fr.grown (grown_sortK _) fun k hk=>?_) (.inl rfl))
   · have hgp:=heap_sortK (n:=n) (os:=os) (Go.Sort.flatK EE.cells 3 (xs.mergeSort leB).toArray) hg
     have hsz:(Go.Sort.flatK EE.cells 3 (xs.mergeSort leB).toArray).size=xs.length * 3:=by simp [hsl]
     have htk2:=take_putK ⟨cur⟩ (Go.Sort.flatK EE.cells 3 (xs.mergeSort leB).toArray) (by rw [hsz]; show xs.length * 3≤cur.length; rw [hcl]; omega)
     rw [hsz,flat_ey] at htk2
     have h6:=Own.of (size:=3) (n:=xs.length) (cap:=sl.cap) (cur:=(Go.Sort.putCells id 0 (Go.Sort.flatK EE.cells 3 (xs.mergeSort leB).toArray) ⟨cur⟩).toList) hgp (by simp [Go.Sort.putCells,hcl]) (by omega) hcm
     rw [htk2] at h6
     have es:(⟨some (blk g),xs.length,sl.cap⟩:Sl)=sl:=by cases sl; simp_all
     rw [es] at h6
     exact h6
   · injection hk with hk
     subst hk
     exact ⟨blk _,ha,rfl⟩
end
end Go.Proofs.YtgacpkgaogiocaaGreatDoor
