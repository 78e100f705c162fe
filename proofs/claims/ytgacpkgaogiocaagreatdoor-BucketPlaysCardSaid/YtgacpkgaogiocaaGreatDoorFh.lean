/- The book as one thing; lists of entries that are lent; what is light. -/
import Derived.Test.YtgacpkgaogiocaaGreatDoorFg
set_option linter.unusedVariables false
namespace Go.Proofs.YtgacpkgaogiocaaGreatDoor
open Go Go.Vc Go.RowKit Go.Lib
/-! ### The book -/
structure BkP where
 IL:Sl
 IW:Sl
 EL:Sl
 EW:Sl
 kv:List (Kq Int)
 kf:List (Kq Ey)
/-- the book that keeps these lists, all as they were -/
def BkS (g:Nat) (ki:List (Kq Int)) (ke:List (Kq Ey)):As:=As.ex fun p:BkP=>As.wh (p.kv.map (·.2)=ki.map (·.2)∧p.kf.map (·.2)=ke.map (·.2)) (As.all (bk9 g p.IL p.IW ki p.kv p.EL p.EW ke p.kf))
section
variable {w:World} {X:List As} {g:Nat} {ki:List (Kq Int)} {ke:List (Kq Ey)}
theorem BkS.parts (h:St w (BkS g ki ke :: X)):∃ p:BkP,(p.kv.map (·.2)=ki.map (·.2)∧p.kf.map (·.2)=ke.map (·.2))∧St w (bk9 g p.IL p.IW ki p.kv p.EL p.EW ke p.kf ++ X):=by
 obtain ⟨p,h⟩:=h.ex
 obtain ⟨hp,h⟩:=h.wh
 exact ⟨p,hp,h.unfold⟩
theorem BkS.join (p:BkP) (hp:p.kv.map (·.2)=ki.map (·.2)∧p.kf.map (·.2)=ke.map (·.2)) (h:St w (bk9 g p.IL p.IW ki p.kv p.EL p.EW ke p.kf ++ X)):St w (BkS g ki ke :: X):=
 St.mk p (St.whmk hp (h.fold _))
theorem BkS.new (h:St w (Cs g (bookC ⟨none,0,0⟩ ⟨none,0,0⟩ ⟨none,0,0⟩ ⟨none,0,0⟩) T.y_masonrybook_Book :: X)):St w (BkS g [] [] :: X):=
 BkS.join ⟨⟨none,0,0⟩,⟨none,0,0⟩,⟨none,0,0⟩,⟨none,0,0⟩,[],[]⟩ ⟨rfl,rfl⟩ (St.book0 h)
theorem BkS.hasI (h:St w (BkS g ki ke :: X)) {i:Nat} {p:Kq Int} (hi:ki[i]? = some p):Has EI w p.1 p.2:=by
 obtain ⟨_,_,h⟩:=BkS.parts h
 exact Rows'.has (St.up3 h) (by decide) hi
theorem BkS.hasE (h:St w (BkS g ki ke :: X)) {i:Nat} {p:Kq Ey} (hi:ke[i]? = some p):Has EE w p.1 p.2:=by
 obtain ⟨_,_,h⟩:=BkS.parts h
 exact Rows'.has (St.up3 (St.bkE.1 h)) (by decide) hi
theorem KeepInts_st {l : Sl} {zs : List Int} (h : St w (Row EI T.y_int l zs :: BkS g ki ke :: X)) (hn : ki.length < 250) (hz : zs.length ≤ 1000000) {R : World → Prop}
   (hR:∀ w',St w' (BkS g (ki ++ [(l,zs)]) ke :: X)→R w'):F.masonrybook_Book_Ints (some (blk g)) l w R:=by
 obtain ⟨p,hp,h⟩:=BkS.parts h.sw
 have hv:p.kv.length=ki.length:=by have:=congrArg List.length hp.1; simpa using this
 have q:St w (bk9 g p.IL p.IW ki p.kv p.EL p.EW ke p.kf ++ ([RowI l zs] ++ X)):=h
 have q:St w (RowI l zs :: (bk5I p.EL p.EW g p.IL p.IW ki p.kv ++ ([RowLE p.EL ke,RowLE p.EW p.kf,RsE ke,RsE p.kf] ++ X))):=St.perm q (by
   have e:bk9 g p.IL p.IW ki p.kv p.EL p.EW ke p.kf ++ ([RowI l zs] ++ X)=bk9 g p.IL p.IW ki p.kv p.EL p.EW ke p.kf ++ RowI l zs :: X:=rfl
   rw [e]
   exact List.perm_middle)
 refine KeepI_st q hn (by omega) hz fun L' W' c w' q=>hR w' ?_
 refine BkS.join ⟨L',W',p.EL,p.EW,p.kv ++ [(c,zs)],p.kf⟩ ⟨?_,hp.2⟩ q
 rw [List.map_append,List.map_append,hp.1]; rfl
theorem KeepEntries_st {l : Sl} {zs : List Ey} (h : St w (Row EE T.y_api_Entry l zs :: BkS g ki ke :: X)) (hn : ke.length < 250) (hz : zs.length ≤ 1000000) {R : World → Prop}
   (hR:∀ w',St w' (BkS g ki (ke ++ [(l,zs)]) :: X)→R w'):F.masonrybook_Book_Entries (some (blk g)) l w R:=by
 obtain ⟨p,hp,h⟩:=BkS.parts h.sw
 have hv:p.kf.length=ke.length:=by have:=congrArg List.length hp.2; simpa using this
 have q:St w (bk5E p.IL p.IW g p.EL p.EW ke p.kf ++ ([RowLI p.IL ki,RowLI p.IW p.kv,RsI ki,RsI p.kv] ++ ([RowE l zs] ++ X))):=St.bkE.1 h
 have q:St w (RowE l zs :: (bk5E p.IL p.IW g p.EL p.EW ke p.kf ++ ([RowLI p.IL ki,RowLI p.IW p.kv,RsI ki,RsI p.kv] ++ X))):=St.perm q (by
   have e:bk5E p.IL p.IW g p.EL p.EW ke p.kf ++ ([RowLI p.IL ki,RowLI p.IW p.kv,RsI ki,RsI p.kv] ++ ([RowE l zs] ++ X))=(bk5E p.IL p.IW g p.EL p.EW ke p.kf ++ [RowLI p.IL ki,RowLI p.IW p.kv,RsI ki,RsI p.kv]) ++ RowE l zs :: X:=rfl
   rw [e]
   exact List.perm_middle)
 refine KeepE_st q hn (by omega) hz fun L' W' c w' q=>hR w' ?_
 refine BkS.join ⟨p.IL,p.IW,L',W',p.kv,p.kf ++ [(c,zs)]⟩ ⟨hp.1,?_⟩ (St.bkE.2 q)
 rw [List.map_append,List.map_append,hp.2]; rfl
theorem BookApart_st (h : St w (BkS g ki ke :: X)) (hi : ki.length ≤ 250) (he : ke.length ≤ 250) (hzi : ∀ p ∈ ki, p.2.length ≤ 100000) (hze : ∀ p ∈ ke, p.2.length ≤ 100000) {R : Bool → World → Prop}
   (hR:∀ w',St w' X→R true w'):F.masonrybook_Book_Apart (some (blk g)) w R:=by
 obtain ⟨p,hp,h⟩:=BkS.parts h
 exact Apart_st h hi he hp.1 hp.2 hzi hze hR
/-! ### Lists that are lent -/
def mk77:Ey:=⟨0,[],-77⟩
theorem LentEntries_st (h : St w X) {sl : Sl} {xs : List Ey} (hx : Has EE w sl xs) (hn : NilOk sl) (hb : xs.length ≤ 1000000) {R : Sl → World → Prop}
   (hR:∀ a c w',St w' (Row EE T.y_api_Entry ⟨a,xs.length + 1,c⟩ (xs ++ [mk77]) :: X)→R ⟨a,xs.length,c⟩ w'):F.masonrybook_LentEntries sl w R:=by
 apply E.masonrybook_LentEntries
 unfold V.masonrybook_LentEntries
 try simp -zeta only [ldC,soC,brC,bkA,slC,cnd_all,blk_add2,Nat.reduceAdd]
 have hl:=hx.1
 refine copyE_st h hx hn hb fun l1 w1 h1=>?_
 refine St.al h1 fun wa1 h1=>?_
 refine St.app elt_ey h1.sw (sl:=⟨some (blk w1.heap.size),1,1⟩) (ys:=[mk77]) (h1.lit (En:=EE) (xs:=[mk77]) rfl rfl 1) rfl (by simp; omega) (by simp; omega) fun l2 w2 h2 hl2=>?_
 have hcap:=Row.cap h2
 simp only [List.length_cons,List.length_nil,Nat.zero_add] at hl2
 refine ⟨by omega,by omega,?_⟩
 rw [slA0,Int.toNat_natCast,hl]
 obtain ⟨a2,n2,c2⟩:=l2
 simp only at hl2
 subst hl2
 exact hR a2 c2 w2 h2.d2
theorem Lent.has {a:Option Addr} {c:Nat} {xs:List Ey} (h:St w (Row EE T.y_api_Entry ⟨a,xs.length + 1,c⟩ (xs ++ [mk77]) :: X)):Has EE w ⟨a,xs.length,c⟩ xs:=by
 have hh:Has EE w ⟨a,xs.length + 1,c⟩ (xs ++ [mk77]):=h.has (by decide)
 exact Has.pre (sl:=⟨a,xs.length,c⟩) hh rfl rfl
theorem StaysEntries_st {a : Option Addr} {c : Nat} {sl : Sl} {xs : List Ey} (h : St w (Row EE T.y_api_Entry ⟨a, xs.length + 1, c⟩ (xs ++ [mk77]) :: X)) (hx : ∀ w', St w' X → Has EE w' sl xs) (hb : xs.length ≤ 1000000) {R : Bool → World → Prop}
   (hR:∀ w',St w' (Row EE T.y_api_Entry ⟨a,xs.length + 1,c⟩ (xs ++ [mk77]) :: X)→R true w'):F.masonrybook_StaysEntries ⟨a,xs.length,c⟩ sl w R:=by
 apply E.masonrybook_StaysEntries
 unfold V.masonrybook_StaysEntries
 try simp -zeta only [ldC,soC,brC,bkA,slC,cnd_all,blk_add2,Nat.reduceAdd]
 refine SameE_st h (xs:=xs) (ys:=xs) (fun w' hw=>Lent.has hw) (fun w' hw=>hx w' hw.drop) hb fun w1 h1=>?_
 rw [decide_eq_true rfl]
 refine ⟨fun _=>?_,fun h=>(by cases h)⟩
 have hcap:=Row.cap h1
 simp only at hcap
 obtain ⟨ad,ha,_,_,_,c2⟩:=Has.ey (h1.has (by decide)) (m:=xs.length) (by simp)
 rw [List.getElem_append_right (Nat.le_refl _)] at c2
 simp only [Nat.sub_self,List.getElem_cons_zero] at c2
 have e1:w64 (((xs.length:Nat):Int) + 1)=((xs.length + 1:Nat):Int):=w64_succ (by omega)
 rw [e1,slA0]
 refine ⟨by omega,by omega,ad,ha,by omega,by omega,_,c2,?_⟩
 exact hR w1 h1
/-! ### What is done -/
structure Op17 where
 kind:Int
 l:Sl
 own:Bool
 xs:List Ey
def EO17:Enc Op17:=⟨fun o=>[.int .i64 o.kind,.slice o.l.a o.l.len o.l.cap,.bool o.own],3,fun _=>rfl,fun _ u hu=>by simp only [List.mem_cons,List.not_mem_nil,or_false] at hu; rcases hu with rfl | rfl | rfl <;> rfl⟩
/-- a list of acts, and what is in their lists -/
def Ops17 (w:World) (l:Sl) (os:List Op17):Prop:=Has EO17 w l os∧∀ o∈os,Has EE w o.l o.xs∧NilOk o.l
theorem Ops17.at_ {l:Sl} {os:List Op17} (h:Ops17 w l os) {m:Nat} (hm:m < os.length):∃ ad,l.a=some ad∧m < l.len∧w.cell? (ad.add (m * 3))=some (.int .i64 os[m].kind)∧w.cell? ((ad.add (m * 3)).add 1)=some (.slice os[m].l.a os[m].l.len os[m].l.cap)∧w.cell? ((ad.add (m * 3)).add 2)=some (.bool os[m].own):=by
 obtain ⟨ad,ha,hl,hc⟩:=h.1.at hm
 have h0:=hc 0 _ rfl
 rw [Vc.addr_add0] at h0
 exact ⟨ad,ha,hl,h0,hc 1 _ rfl,hc 2 _ rfl⟩
def sumO (os:List Op17):Nat:=(os.map fun o=>o.xs.length).sum
theorem sumO_take {os:List Op17} {m:Nat} (hm:m < os.length):sumO (os.take (m + 1))=sumO (os.take m) + os[m].xs.length:=by
 unfold sumO
 rw [List.take_succ_eq_append_getElem hm,List.map_append,List.sum_append]
 simp
theorem Room1_st {z:Nat} {n:Int} (h:St w (Cs z [.int .i64 n] T.y_int :: X)) {left:Int} (hl:0≤left∧left < 4611686018427387904) (hn:0≤n) {R:Int→World→Prop} (hR:R (if n > left then -1 else left - n) w):F.masonrybook_Room left ⟨some (blk z),1,1⟩ w R:=by
 apply E.masonrybook_Room
 unfold V.masonrybook_Room
 try simp -zeta only [ldC,soC,brC,bkA,slC,cnd_all,blk_add2,Nat.reduceAdd]
 refine ⟨fun x i w'=>w'=w∧((i=0∧x=left)∨(i=1∧n≤left∧x=left - n)),fun _ i _=>(1 - i).toNat,⟨rfl,.inl ⟨rfl,rfl⟩⟩,?_⟩
 rintro x i w1 ⟨rfl,(⟨rfl,rfl⟩ | ⟨rfl,hle,rfl⟩)⟩
 · refine ⟨fun _=>⟨fun h=>by omega,fun _=>⟨by decide,by decide,n,h.cell0,fun hb=>?_,fun hb=>⟨by decide,by decide,n,h.cell0,⟨rfl,.inr ⟨by decide,by omega,w64_id (by omega) (by omega)⟩⟩,by show (1 - w64 (0 + 1)).toNat < (1 - (0:Int)).toNat; decide⟩⟩⟩,fun h=>absurd h (by decide)⟩
   rw [if_pos hb] at hR; exact hR
 · refine ⟨fun h=>absurd h (by decide),fun _=>?_⟩
   rw [if_neg (by omega)] at hR; exact hR
/-- few acts, short lists, short prints -/
structure Lt17 (os:List Op17):Prop where
 few:os.length≤60
 room:sumO os≤150
 short:∀ o∈os,∀ x∈o.xs,x.s.length≤40
set_option maxHeartbeats 1000000 in
theorem Light17_st (h:St w X) {l:Sl} {os:List Op17} (hx:∀ w',St w' X→Ops17 w' l os) {R:Bool→World→Prop} (hR:∀ b w',St w' X→(b=true→Lt17 os)→R b w'):F.masonrylaw17_Light l w R:=by
 apply E.masonrylaw17_Light
 unfold V.masonrylaw17_Light
 try simp -zeta only [ldC,soC,brC,bkA,slC,cnd_all,blk_add2,Nat.reduceAdd]
 have hl:=(hx w h).1.1
 refine ⟨fun room i w'=>∃ m:Nat,i=m∧m≤os.length∧-1≤room∧room≤150∧(0≤room→(sumO (os.take m):Int)=150 - room∧∀ o∈os.take m,∀ x∈o.xs,x.s.length≤40)∧St w' X,fun _ i _=>((os.length:Int) - i).toNat,⟨0,rfl,Nat.zero_le _,by decide,by decide,fun _=>⟨rfl,by simp⟩,h⟩,?_⟩
 rintro room _ w1 ⟨m,rfl,hm,hr1,hr2,hall,q⟩
 have fin:os.length≤60→(0≤room→m=os.length)→R (decide (room≥0)) w1:=fun h1 h2=>hR _ _ q fun hb=>by
   have hb:=of_decide_eq_true hb
   obtain ⟨h3,h4⟩:=hall (by omega)
   rw [h2 (by omega),List.take_length] at h3 h4
   exact ⟨h1,by omega,h4⟩
 have no:R false w1:=hR _ _ q fun h=>(by cases h)
 refine ⟨fun hlt=>⟨fun h100=>⟨fun hpos=>?_,fun hneg=>⟨fun h60=>fin (by omega) (fun h=>by omega),fun _=>no⟩⟩,fun h100=>⟨fun h60=>by omega,fun _=>no⟩⟩,fun hge=>⟨fun h60=>fin (by omega) (fun _=>by omega),fun _=>no⟩⟩
 have hlt:m < os.length:=by omega
 have hms:((os.length:Int) - ((m + 1:Nat):Int)).toNat < ((os.length:Int) - (m:Int)).toNat:=by omega
 obtain ⟨hs1,hs2⟩:=hall (by omega)
 obtain ⟨ad,ha,hal,c0,c1,c2⟩:=(hx _ q).at_ hlt
 have hxm:=fun w' hw=>((hx w' hw).2 _ (List.getElem_mem hlt)).1
 have hlm:=(hxm _ q).1
 refine ⟨ad,ha,by omega,by omega,_,c1,?_⟩
 refine St.al q fun wa1 q=>?_
 refine Room1_st q ⟨by omega,by omega⟩ (by omega) ?_
 have q:=q.drop
 have nx : ∀ {n : Int} {k : Nat} {w' : World}, (if ((os[m].l.len : Nat) : Int) > room then (-1 : Int) else room - ((os[m].l.len : Nat) : Int)) = n → (0 ≤ n → ∀ x ∈ os[m].xs, x.s.length ≤ 40) → St w' X →
     ∃ m':Nat,w64 ((m:Int) + 1)=m'∧m'≤os.length∧-1≤n∧n≤150∧(0≤n→(sumO (os.take m'):Int)=150 - n∧∀ o∈os.take m',∀ x∈o.xs,x.s.length≤40)∧St w' X:=fun {n k w'} hn hsh hw=>by
   refine ⟨m + 1,w64_succ (by omega),hlt,?_,?_,fun h0=>⟨?_,fun o ho=>?_⟩,hw⟩
   · rw [← hn]; split <;> omega
   · rw [← hn]; split <;> omega
   · rw [sumO_take hlt]
     have:¬ ((os[m].l.len:Nat):Int) > room:=fun h=>by rw [if_pos h] at hn; omega
     rw [if_neg this] at hn
     omega
   · rw [List.take_succ_eq_append_getElem hlt] at ho
     rcases List.mem_append.1 ho with h | h
     · exact hs2 o h
     · rw [List.mem_singleton] at h
       subst h; exact hsh h0
 generalize hn:(if ((os[m].l.len:Nat):Int) > room then (-1:Int) else room - ((os[m].l.len:Nat):Int))=n at *
 refine ⟨fun k w'=>∃ j:Nat,k=j∧j≤os[m].xs.length∧(∀ x∈os[m].xs.take j,x.s.length≤40)∧St w' X,fun k _=>((os[m].xs.length:Int) - k).toNat,⟨0,rfl,Nat.zero_le _,by simp,q⟩,?_⟩
 rintro _ w3 ⟨j,rfl,hj,hsh,q⟩
 obtain ⟨ad2,ha2,hal2,_,c1',_⟩:=(hx _ q).at_ hlt
 have e1:w64 ((m:Int) + 1)=((m + 1:Nat):Int):=w64_succ (by omega)
 refine ⟨ad2,ha2,by omega,by omega,_,c1',fun hk=>⟨fun hn0=>?_,fun hn0=>?_⟩,fun hk=>?_⟩
 · have hk:j < os[m].xs.length:=by omega
   obtain ⟨a3,ha3,hb3,_,d1,_⟩:=Has.ey (hxm _ q) hk
   refine ⟨ad2,ha2,by omega,by omega,_,c1',a3,ha3,by omega,by omega,_,d1,fun hbig=>hR _ _ q fun h=>(by cases h),fun hsm=>?_⟩
   rw [w64_succ (by omega)]
   refine ⟨⟨j + 1,rfl,hk,fun x hx=>?_,q⟩,by show ((os[m].xs.length:Int) - ((j + 1:Nat):Int)).toNat < ((os[m].xs.length:Int) - (j:Int)).toNat; omega⟩
   rw [List.take_succ_eq_append_getElem hk] at hx
   rcases List.mem_append.1 hx with h | h
   · exact hsh x h
   · rw [List.mem_singleton] at h
     subst h
     rw [tx_size] at hsm
     omega
 · obtain ⟨m',e,r⟩:=nx (k:=0) rfl (fun h0=>by omega) q
   exact ⟨⟨m',e,r⟩,by rw [e1]; exact hms⟩
 · have hj:j=os[m].xs.length:=by omega
   subst hj
   rw [List.take_length] at hsh
   obtain ⟨m',e,r⟩:=nx (k:=0) rfl (fun _=>hsh) q
   exact ⟨⟨m',e,r⟩,by rw [e1]; exact hms⟩
end
end Go.Proofs.YtgacpkgaogiocaaGreatDoor
