/- entries in cells; how they are compared; what may be; slots. -/
import Derived.Test.YtgacpkgaogiocaaGreatDoorPn
import Derived.Test.YtgacpkgaogiocaaGreatDoorBq
set_option linter.unusedVariables false
namespace Go.Proofs.YtgacpkgaogiocaaGreatDoor
open Go Go.Vc Go.RowKit Go.Lib
/-! ### Worlds that draw no less -/
section
variable {w:World} {L:List As} {cs:List Value} {t:TypeId}
theorem St.alD (h:St w L) {P:World→Prop} (hP:∀ w',w'.drawn=w.drawn→St w' (Cs w.heap.size cs t :: L)→P w'):alC w (.cells ⟨cs⟩ t) P:=hP _ rfl (h.new cs t)
theorem St.drD (h:St w L) {P:World→Prop} (hP:∀ w',w.drawn≤w'.drawn→St w' L→P w'):drC w P:=hP _ (Nat.le_succ _) h.drew
end
theorem below_grow {w w':World} (hb:Below w.heap.size w w') (hd:w.drawn≤w'.drawn):∃ q os',w'=Go.Sort.grow (w.drewN q) os':=by
 refine ⟨w'.drawn - w.drawn,w'.heap.extract w.heap.size w'.heap.size,?_⟩
 have hh:w'.heap=w.heap ++ w'.heap.extract w.heap.size w'.heap.size:=by
   apply Array.ext_getElem?
   intro i
   by_cases hi:i < w.heap.size
   · rw [Array.getElem?_append_left hi,hb.block i hi]
   · rw [Array.getElem?_append_right (by omega),Array.getElem?_extract]
     by_cases h2:i < w'.heap.size
     · rw [if_pos (by omega)]; congr 1; omega
     · rw [if_neg (by omega)]; simp; omega
 obtain ⟨h1,h2,h3,h4,h5⟩:=w'
 have e1:=hb.os; have e2:=hb.tape; have e3:=hb.output
 simp only at e1 e2 e3 hh hd
 unfold Go.Sort.grow World.drewN
 simp only [World.mk.injEq]
 exact ⟨hh,e2,by omega,e1,e3⟩
/-! ### Entries in cells -/
def EE:Enc Ey:=⟨fun x=>[.int .i64 x.k,.string (tx x.s),.int .i64 x.a],3,fun _=>rfl,fun _ u hu=>by simp at hu; rcases hu with rfl | rfl | rfl <;> rfl⟩
theorem info_ey:∃ i,Pg.info? T.y_api_Entry=some i∧i.zero=some (.agg #[.int .i64 0,.string sNil,.int .i64 0])∧i.size=3∧i.bytes=32:=by
 have h:(Pg.info? T.y_api_Entry).map (fun i=>(i.zero,i.size,i.bytes))=some (some (.agg #[.int .i64 0,.string sNil,.int .i64 0]),3,32):=by kernel_rfl
 obtain ⟨i,hi,h2⟩:=Option.map_eq_some_iff.1 h
 simp only [Prod.mk.injEq] at h2
 exact ⟨i,hi,h2⟩
theorem elt_ey:Elt Pg T.y_sl_api_Entry T.y_api_Entry 3 32:=by
 obtain ⟨i,hi,hz,h1,h2⟩:=info_ey
 exact ⟨by kernel_rfl,⟨i,_,hi,hz,h1,h2,rfl⟩,by decide⟩
theorem Has.ey {w:World} {l:Sl} {xs:List Ey} (h:Has EE w l xs) {m:Nat} (hm:m < xs.length):∃ ad,l.a=some ad∧m < l.len∧w.cell? (ad.add (m * 3))=some (.int .i64 xs[m].k)∧w.cell? ((ad.add (m * 3)).add 1)=some (.string (tx xs[m].s))∧w.cell? ((ad.add (m * 3)).add 2)=some (.int .i64 xs[m].a):=by
 obtain ⟨ad,ha,hl,hc⟩:=h.at hm
 have h0:=hc 0 _ rfl
 rw [Vc.addr_add0] at h0
 exact ⟨ad,ha,hl,h0,hc 1 _ rfl,hc 2 _ rfl⟩
/-! ### Comparing -/
section
variable {w:World} {X:List As}
theorem nan_int {x:Int} {R:Bool→World→Prop} (hR:R false w):F.cmp_isNaN_int x w R:=by
 apply E.cmp_isNaN_int
 unfold V.cmp_isNaN_int
 try simp -zeta only [ldC,soC,brC,bkA,slC,cnd_all,blk_add2,Nat.reduceAdd]
 simpa using hR
theorem nan_str {x:ByteArray} {R:Bool→World→Prop} (hR:R false w):F.cmp_isNaN_string x w R:=by
 apply E.cmp_isNaN_string
 unfold V.cmp_isNaN_string
 try simp -zeta only [ldC,soC,brC,bkA,slC,cnd_all,blk_add2,Nat.reduceAdd]
 simpa [sEq] using hR
def ci (x y:Int):Int:=if x < y then -1 else if x=y then 0 else 1
def cs' (x y:Bs):Int:=if x < y then -1 else if x=y then 0 else 1
theorem cmp_int {x y:Int} {R:Int→World→Prop} (hR:R (ci x y) w):F.cmp_Compare_int x y w R:=by
 apply E.cmp_Compare_int
 unfold V.cmp_Compare_int
 try simp -zeta only [ldC,soC,brC,bkA,slC,cnd_all,blk_add2,Nat.reduceAdd]
 refine nan_int (nan_int ⟨fun h=>(by cases h),fun _=>⟨fun h=>(by cases h),fun _=>⟨fun h=>?_,fun h=>⟨fun h2=>?_,fun h2=>?_⟩⟩⟩⟩)
 · unfold ci at hR; rw [if_pos h] at hR; exact hR
 · unfold ci at hR; rw [if_neg h,if_neg (by omega)] at hR; exact hR
 · unfold ci at hR; rw [if_neg h,if_pos (by omega)] at hR; exact hR
theorem cmp_str {x y:Bs} {R:Int→World→Prop} (hR:R (cs' x y) w):F.cmp_Compare_string (tx x) (tx y) w R:=by
 apply E.cmp_Compare_string
 unfold V.cmp_Compare_string
 try simp -zeta only [ldC,soC,brC,bkA,slC,cnd_all,blk_add2,Nat.reduceAdd]
 simp only [tx_lt,bless]
 refine nan_str (nan_str ⟨fun h=>(by cases h),fun _=>⟨fun h=>(by cases h),fun _=>⟨fun h=>?_,fun h=>⟨fun h2=>?_,fun h2=>?_⟩⟩⟩⟩)
 · have h:=of_decide_eq_true h
   unfold cs' at hR; rw [if_pos h] at hR; exact hR
 · have h:=of_decide_eq_false h
   rw [decide_eq_false h] at h2
   have:¬ x=y:=by simpa using h2
   unfold cs' at hR; rw [if_neg h,if_neg this] at hR; exact hR
 · have h:=of_decide_eq_false h
   rw [decide_eq_false h] at h2
   have:x=y:=by simpa using h2
   unfold cs' at hR; rw [if_neg h,if_pos this] at hR; exact hR
theorem or_st (h:St w X) {sl:Sl} {a b:Int} (hx:Has EI w sl [a,b]) {R:Int→World→Prop} (hR:R (if a≠0 then a else b) w):F.cmp_Or_int sl w R:=by
 apply E.cmp_Or_int
 unfold V.cmp_Or_int
 try simp -zeta only [ldC,soC,brC,bkA,slC,cnd_all,blk_add2,Nat.reduceAdd]
 have hl:=hx.1
 simp only [List.length_cons,List.length_nil] at hl
 refine ⟨fun n w'=>∃ m:Nat,n=m∧m≤2∧w'=w∧(m=1→a=0)∧(m=2→a=0∧b=0),fun n _=>(2 - n).toNat,⟨0,rfl,by omega,rfl,by omega,by omega⟩,?_⟩
 rintro _ _ ⟨m,rfl,hm,rfl,h1,h2⟩
 refine ⟨fun hlt=>?_,fun hge=>?_⟩
 · have hlt:m < 2:=by omega
   obtain ⟨ad,ha,hb,c0⟩:=Has.int hx (m:=m) (by simpa using hlt)
   refine ⟨ad,ha,by omega,by omega,_,by simpa using c0,?_⟩
   obtain rfl | rfl:m=0∨m=1:=by omega
   · refine ⟨fun ht=>?_,fun hf=>⟨⟨1,by decide,by omega,rfl,fun _=>by simpa using hf,by omega⟩,(by show ((2:Int) - w64 (((0:Nat):Int) + 1)).toNat < ((2:Int) - ((0:Nat):Int)).toNat; decide)⟩⟩
     have ht:a≠0:=by simpa using ht
     rw [if_pos ht] at hR; exact hR
   · have h0:=h1 rfl
     rw [if_neg (by simpa using h0)] at hR
     refine ⟨fun ht=>hR,fun hf=>⟨⟨2,by decide,by omega,rfl,by omega,fun _=>⟨h0,by simpa using hf⟩⟩,(by show ((2:Int) - w64 (((1:Nat):Int) + 1)).toNat < ((2:Int) - ((1:Nat):Int)).toNat; decide)⟩⟩
 · have hmm:m=2:=by omega
   obtain ⟨e1,e2⟩:=h2 hmm
   rw [if_neg (by simpa using e1),e2] at hR
   exact hR
theorem mcompare_st (h:St w X) {a b:Int} {s u:Bs} {R:Int→World→Prop} (hR:∀ w',w.drawn≤w'.drawn→St w' X→R (if ci a b≠0 then ci a b else cs' s u) w'):F.mark_Compare a (tx s) b (tx u) w R:=by
 apply E.mark_Compare
 unfold V.mark_Compare
 try simp -zeta only [ldC,soC,brC,bkA,slC,cnd_all,blk_add2,Nat.reduceAdd]
 refine St.alD h fun w1 d1 h1=>St.alD h1 fun w2 d2 h2=>St.drD h2 fun w3 d3 h3=>?_
 refine ⟨_,h3.sw.cell0,_,h3.cell0,_,h3.sw.cell 1,_,h3.cell 1,cmp_int ⟨h3.cell 1,h3.sw.cell 1,cmp_str ?_⟩⟩
 refine St.alD h3 fun w4 d4 h4=>or_st h4 (h4.lit (En:=EI) (xs:=[_,_]) rfl rfl 2) (hR w4 (by omega) h4.drop.drop.drop)
theorem cfE_eqc (x y:Ey):(if (if ci x.k y.k≠0 then ci x.k y.k else cs' x.s y.s)≠0 then (if ci x.k y.k≠0 then ci x.k y.k else cs' x.s y.s) else ci x.a y.a)=cfE x y:=by
 have he:x=y↔x.k=y.k∧x.s=y.s∧x.a=y.a:=by cases x; cases y; simp
 unfold cfE ci cs' ltE
 rcases Int.lt_trichotomy x.k y.k with h | h | h
 · simp [h]
 · rcases bs_total x.s y.s with h2 | h2 | h2
   · simp [h,h2]
   · have h3:¬ y.s < y.s:=bs_irrefl _
     rcases Int.lt_trichotomy x.a y.a with h4 | h4 | h4
     · simp [h,h2,h3,h4]
     · simp [h,h2,h3,h4,he]
     · have:¬ x.a < y.a:=by omega
       have h5:¬ x.a=y.a:=by omega
       simp [h,h2,h3,h5,he,this]
   · have h3:¬ x.s < y.s:=fun k=>bs_irrefl _ (bs_trans k h2)
     have h4:¬ x.s=y.s:=fun e=>bs_irrefl y.s (by rw [e] at h2; exact h2)
     simp [h,h3,h4,he]
 · have h1:¬ x.k < y.k:=by omega
   have h2:¬ x.k=y.k:=by omega
   simp [h1,h2,he]
theorem compare_st (h:St w X) {x y:Ey} {R:Int→World→Prop} (hR:∀ w',w.drawn≤w'.drawn→St w' X→R (cfE x y) w'):F.bucket_compare x.k (tx x.s) x.a y.k (tx y.s) y.a w R:=by
 apply E.bucket_compare
 unfold V.bucket_compare
 try simp -zeta only [ldC,soC,brC,bkA,slC,cnd_all,blk_add2,Nat.reduceAdd]
 refine St.alD h fun w1 d1 h1=>St.alD h1 fun w2 d2 h2=>St.drD h2 fun w3 d3 h3=>?_
 refine ⟨_,h3.sw.cell0,_,h3.sw.cell 1,_,h3.cell0,_,h3.cell 1,_,h3.sw.cell 2,_,h3.cell 2,mcompare_st h3 fun w4 d4 h4=>⟨h4.cell 2,h4.sw.cell 2,cmp_int ?_⟩⟩
 refine St.alD h4 fun w5 d5 h5=>or_st h5 (h5.lit (En:=EI) (xs:=[_,_]) rfl rfl 2) ?_
 rw [cfE_eqc]
 exact hR w5 (by omega) h5.drop.drop.drop
/-! ### What may be -/
theorem Size_any {k:Int} {R:Int→World→Prop} (hR:R (szN k.toNat:Int) w) (hk:k < 0→szN k.toNat=0):F.mark_Size k w R:=by
 by_cases h:0≤k
 · obtain ⟨n,rfl⟩:∃ n:Nat,k=n:=⟨k.toNat,by omega⟩
   exact Size_mark (by simpa using hR)
 · have h0:=hk (by omega)
   rw [h0] at hR
   apply E.mark_Size
   unfold V.mark_Size
   try simp -zeta only [ldC,soC,brC,bkA,slC,cnd_all,blk_add2,Nat.reduceAdd]
   refine ⟨fun e=>absurd e (by omega),fun _=>⟨fun e=>absurd e (by omega),fun _=>hR⟩⟩
theorem szN_neg {k:Int} (h:k < 0):szN k.toNat=0:=by
 have:k.toNat=0:=by omega
 rw [this]; rfl
theorem Valid_any (h:St w X) {k:Int} {s:Bs} {R:Bool→World→Prop} (hR:∀ w',St w' X→R (decide (0 < szN k.toNat∧s.length=szN k.toNat)) w'):F.mark_Valid k (tx s) w R:=by
 apply E.mark_Valid
 unfold V.mark_Valid
 try simp -zeta only [ldC,soC,brC,bkA,slC,cnd_all,blk_add2,Nat.reduceAdd]
 refine St.al h fun wa1 h=>?_
 refine St.dr h fun wa2 h=>?_
 refine ⟨_,h.cell0,Size_any ⟨fun hp=>⟨_,h.cell 1,_,h.cell0,Size_any ⟨h.cell 1,?_⟩ szN_neg⟩,fun hn=>?_⟩ szN_neg⟩
 · have:=hR _ h.drop
   have e:(((tx s).size:Int) == (szN k.toNat:Int))=decide (0 < szN k.toNat∧s.length=szN k.toNat):=by
     rw [tx_size,Bool.eq_iff_iff,beq_iff_eq,decide_eq_true_eq]
     constructor
     · intro h; exact ⟨by omega,by omega⟩
     · intro h; omega
   rw [e]; exact this
 · have:=hR _ h.drop
   rw [decide_eq_false (by omega)] at this
   exact this
theorem okE_iff (x:Ey):okE x↔(0 < szN x.k.toNat∧x.s.length=szN x.k.toNat)∧1≤x.a∧x.a < 2000:=by
 unfold okE
 rw [szN_pos]
 constructor
 · rintro ⟨h,h2,h3⟩; exact ⟨⟨by omega,h2⟩,h3⟩
 · rintro ⟨⟨h,h2⟩,h3⟩; exact ⟨by omega,h2,h3⟩
theorem valid_st (h:St w X) {x:Ey} {R:Bool→World→Prop} (hR:∀ w',St w' X→R (decide (okE x)) w'):F.bucket_valid x.k (tx x.s) x.a w R:=by
 apply E.bucket_valid
 unfold V.bucket_valid
 try simp -zeta only [ldC,soC,brC,bkA,slC,cnd_all,blk_add2,Nat.reduceAdd]
 refine St.al h fun wa1 h=>?_
 refine ⟨_,h.cell0,_,h.cell 1,Valid_any h fun w1 h1=>?_⟩
 have hr:=hR w1 h1.drop
 refine ⟨fun ht=>⟨_,h1.cell 2,fun ha=>⟨_,h1.cell 2,?_⟩,fun ha=>?_⟩,fun hf=>?_⟩
 · have e:decide (x.a < 2000)=decide (okE x):=by rw [decide_eq_decide,okE_iff]; exact ⟨fun h=>⟨of_decide_eq_true ht,ha,h⟩,fun h=>h.2.2⟩
   rw [e]; exact hr
 · rw [decide_eq_false (fun h=>ha ((okE_iff x).1 h).2.1)] at hr; exact hr
 · rw [decide_eq_false (fun h=>(of_decide_eq_false hf) ((okE_iff x).1 h).1)] at hr; exact hr
/-! ### Slots -/
theorem pow_loop {n:Nat} {k:Nat} (h1:2 ^ k≤n) (hn:n≤1000000) (h:¬ ((2 ^ k:Nat):Int)≤w64 (((n:Nat):Int).tdiv 2)):2 ^ k=powN n:=by
 have e:((n:Nat):Int).tdiv 2=((n / 2:Nat):Int):=(Int.ofNat_tdiv n 2).symm
 rw [e,w64_id (by omega) (by omega)] at h
 exact (powN_uniq h1 (by omega)).symm
theorem pow_step {n k:Nat} (hn:n≤1000000) (h:((2 ^ k:Nat):Int)≤w64 (((n:Nat):Int).tdiv 2)):w64 (((2 ^ k:Nat):Int) * 2)=((2 ^ (k + 1):Nat):Int)∧2 ^ (k + 1)≤n:=by
 have e:((n:Nat):Int).tdiv 2=((n / 2:Nat):Int):=(Int.ofNat_tdiv n 2).symm
 rw [e,w64_id (by omega) (by omega)] at h
 have e2:2 ^ (k + 1)=2 ^ k * 2:=Nat.pow_succ ..
 rw [e2,w64_id (by omega) (by omega)]
 omega
theorem Slot_any {h n:Nat} (hn:n≤1000000) {R:Int→World→Prop} (hR:R (slotN h n:Int) w):F.bucket_Slot (h:Int) (n:Int) w R:=by
 apply E.bucket_Slot
 unfold V.bucket_Slot
 try simp -zeta only [ldC,soC,brC,bkA,slC,cnd_all,blk_add2,Nat.reduceAdd]
 unfold slotN at hR
 refine ⟨fun hlt=>?_,fun hge=>⟨fun hneg=>absurd hneg (by omega),fun _=>?_⟩⟩
 · rw [if_pos (by omega)] at hR; exact hR
 rw [if_neg (by omega)] at hR
 refine ⟨fun m w'=>∃ k:Nat,m=((2 ^ k:Nat):Int)∧2 ^ k≤n∧w'=w,fun m _=>((n:Int) - m).toNat,⟨0,rfl,by show 1≤n; omega,rfl⟩,?_⟩
 rintro _ _ ⟨k,rfl,hk,rfl⟩
 refine ⟨by decide,fun hle=>?_,fun hgt=>?_⟩
 · obtain ⟨e,h2⟩:=pow_step hn hle
   rw [e]
   refine ⟨⟨k + 1,rfl,h2,rfl⟩,?_⟩
   have e2:2 ^ (k + 1)=2 ^ k * 2:=Nat.pow_succ ..
   have:0 < 2 ^ k:=Nat.two_pow_pos k
   show ((n:Int) - ((2 ^ (k + 1):Nat):Int)).toNat < ((n:Int) - ((2 ^ k:Nat):Int)).toNat
   omega
 · have e:=pow_loop hk hn hgt
   have h0:0 < powN n:=Nat.two_pow_pos _
   rw [e]
   have e2:w64 ((2:Int) * ((powN n:Nat):Int))=((2 * powN n:Nat):Int):=by rw [w64_id (by omega) (by omega)]; omega
   have m1:((h:Nat):Int).tmod ((2 * powN n:Nat):Int)=((h % (2 * powN n):Nat):Int):=(Int.ofNat_tmod _ _).symm
   have m2:((h:Nat):Int).tmod ((powN n:Nat):Int)=((h % powN n:Nat):Int):=(Int.ofNat_tmod _ _).symm
   rw [e2,m1,m2]
   refine ⟨by omega,fun hlt=>?_,fun hge=>⟨by omega,?_⟩⟩
   · rw [if_pos (by omega)] at hR; exact hR
   · rw [if_neg (by omega)] at hR; exact hR
theorem parent_any {n:Nat} (h1:1≤n) (hn:n≤1000000) {R:Int→World→Prop} (hR:R ((n - powN n:Nat):Int) w):F.bucket_parent (n:Int) w R:=by
 apply E.bucket_parent
 unfold V.bucket_parent
 try simp -zeta only [ldC,soC,brC,bkA,slC,cnd_all,blk_add2,Nat.reduceAdd]
 refine ⟨fun m w'=>∃ k:Nat,m=((2 ^ k:Nat):Int)∧2 ^ k≤n∧w'=w,fun m _=>((n:Int) - m).toNat,⟨0,rfl,h1,rfl⟩,?_⟩
 rintro _ _ ⟨k,rfl,hk,rfl⟩
 refine ⟨by decide,fun hle=>?_,fun hgt=>?_⟩
 · obtain ⟨e,h2⟩:=pow_step hn hle
   rw [e]
   refine ⟨⟨k + 1,rfl,h2,rfl⟩,?_⟩
   have e2:2 ^ (k + 1)=2 ^ k * 2:=Nat.pow_succ ..
   have:0 < 2 ^ k:=Nat.two_pow_pos k
   show ((n:Int) - ((2 ^ (k + 1):Nat):Int)).toNat < ((n:Int) - ((2 ^ k:Nat):Int)).toNat
   omega
 · have e:=pow_loop hk hn hgt
   rw [e] at hk ⊢
   have e2:w64 ((n:Int) - ((powN n:Nat):Int))=((n - powN n:Nat):Int):=by rw [w64_id (by omega) (by omega)]; omega
   rw [e2]; exact hR
theorem buckets_any {n:Nat} (hn:n≤1000000) {R:Int→World→Prop} (hR:R (bktN n:Int) w):F.bucket_buckets (n:Int) w R:=by
 apply E.bucket_buckets
 unfold V.bucket_buckets
 try simp -zeta only [ldC,soC,brC,bkA,slC,cnd_all,blk_add2,Nat.reduceAdd]
 unfold bktN at hR
 refine ⟨fun hlt=>?_,fun hge=>⟨by decide,?_⟩⟩
 · rw [if_pos (by omega)] at hR; exact hR
 · rw [if_neg (by omega)] at hR
   have e1:w64 ((n:Int) - 1)=((n - 1:Nat):Int):=by rw [w64_id (by omega) (by omega)]; omega
   have e2:((n - 1:Nat):Int).tdiv 4=(((n - 1) / 4:Nat):Int):=(Int.ofNat_tdiv _ _).symm
   rw [e1,e2,w64_id (x:=(((n - 1) / 4:Nat):Int)) (by omega) (by omega),w64_id (by omega) (by omega)]
   have:(((n - 1) / 4 + 1:Nat):Int)=(((n - 1) / 4:Nat):Int) + 1:=by omega
   rw [this] at hR; exact hR
theorem Hash_any (h:St w X) {x:Ey} (hs:x.s.length≤1000000000) {R:Int→World→Prop} (hR:∀ w',St w' X→R (hashE x:Int) w'):F.mark_Hash x.k (tx x.s) w R:=by
 apply E.mark_Hash
 unfold V.mark_Hash
 try simp -zeta only [ldC,soC,brC,bkA,slC,cnd_all,blk_add2,Nat.reduceAdd]
 refine St.al h fun wa1 h=>?_
 refine ⟨_,h.cell 1,InS.on h fun g w1 h1=>InS.half h1 hs fun w2 h2=>?_⟩
 have e:(lowIn 2 x.s 0).1=(hashE x:Int):=by
   unfold hashE
   by_cases hl:x.s.length < 2
   · rw [if_pos hl]
     have hr:rawIn 2 x.s 0=([],x.s,5):=by
       unfold rawIn
       rw [if_neg (by simp),if_neg (by omega),if_pos (by omega)]
     simp [lowIn,hr,leVal]
   · rw [if_neg hl,lowIn_at (by decide) (by omega)]
     match x.s,hl with
     | a :: b :: r,_=>simp [leVal]
     | [_],h=>simp at h
     | [],h=>simp at h
 rw [e]
 exact hR _ h2.drop.drop
end
end Go.Proofs.YtgacpkgaogiocaaGreatDoor
