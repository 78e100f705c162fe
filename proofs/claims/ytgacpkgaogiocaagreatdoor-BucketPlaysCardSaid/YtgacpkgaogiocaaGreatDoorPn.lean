/- Words of what lies apart: rows of bytes; a new disk, and a desk on it. -/
import Derived.Test.YtgacpkgaogiocaaGreatDoorCo
import Derived.Test.YtgacpkgaogiocaaGreatDoorCp
import Derived.Test.YtgacpkgaogiocaaGreatDoorSq
set_option linter.unusedVariables false
namespace Go.Proofs.YtgacpkgaogiocaaGreatDoor
open Go Go.Vc Go.RowKit Go.Lib
def EB:Enc UInt8:=⟨fun x=>[.int .u8 x.toNat],1,fun _=>rfl,fun _ u hu=>by simp at hu; subst hu; rfl⟩
theorem EB_all (bs:List UInt8):EB.all bs=bv bs:=by simp [Enc.all,EB,bv]; induction bs <;> simp_all
theorem elt_byte:Elt Pg T.y_sl_uint8 T.y_uint8 1 1:=⟨und_bytes,by obtain ⟨i,hi,hz,h1,h2⟩:=info_byte; exact ⟨i,_,hi,hz,h1,h2,rfl⟩,by decide⟩
section
variable {w w':World} {X:List As} {l:Sl}
theorem St.makeB (h : St w X) {n : Nat} (hn : n ≤ 1000000) {R : Sl → World → Prop}
   (hR:∀ l w',l.len=n→St w' (Row EB T.y_uint8 l (List.replicate n 0) :: X)→R l w'):RunT Pg (Instr.makeSlice T.y_sl_uint8 (.int .i64 (n:Int)) (.int .i64 (n:Int))) [.one .slice] w R:=by
 obtain ⟨inf,hi,hz,hs1,hby⟩:=info_byte
 refine runT_make und_bytes hi hz hs1 (by rw [hby]; omega) (by simp only [maxLen]; omega) fun w1 hO hF hs=>hR _ w1 rfl (St.rowOf h hF ?_ fun k hk=>?_)
 · have h2:=toList_madeCells_one (Value.int .u8 0) (n * 1)
   rw [show (Value.int IntKind.u8 0).cells=#[Value.int .u8 0] from rfl,h2] at hO
   have e:EB.all (List.replicate n 0)=List.replicate (n * 1) (Value.int .u8 0):=by rw [EB_all]; simp [bv]
   rw [e]; exact hO
 · obtain ⟨a,ha,rfl⟩:=hk
   injection ha with ha
   subst ha
   exact Nat.le_refl _
theorem St.strB {t : TypeId} (ht : t = T.y_uint8) {bs : List UInt8} (h : St w (Row EB t l bs :: X)) {R : ByteArray → World → Prop} (hR : R (tx bs) w) :
   RunT Pg (convert T.y_sl_uint8 T.y_string (.slice l.a l.len l.cap)) [.one .str] w R:=by
 subst ht
 have hO:=h.own
 rw [EB_all] at hO
 exact runT_bytes_str und_bytes und_byte und_str hO hR
/-- so many zero bytes, as a text -/
theorem zeros_st (h : St w X) {n : Nat} (hn : n ≤ 1000000) {K : ByteArray → World → Prop} (hK : ∀ w', St w' X → K (tx (List.replicate n 0)) w') :
   RunT Pg (Instr.makeSlice T.y_sl_uint8 (.int .i64 (n:Int)) (.int .i64 (n:Int))) [.one .slice] w fun l w1=>RunT Pg (convert T.y_sl_uint8 T.y_string (.slice l.a l.len l.cap)) [.one .str] w1 K:=
 St.makeB h hn fun l w1 _ h1=>St.strB rfl h1 (hK w1 h1.drop)
theorem zeros_desk {R:ByteArray→World→Prop} (hR:∀ w',Below w.heap.size w w'→R (tx zeroS) w'):F.desk_zeros w R:=by
 apply E.desk_zeros
 unfold V.desk_zeros
 try simp -zeta only [ldC,soC,brC,bkA,slC,stC,alC,drC]
 exact strings_Repeat_spec (n:=256) (by decide) hR
def fmt0 (n:Nat):DkV:=fmtD (newD n) 0 (n - 111)
set_option maxHeartbeats 2000000 in
theorem format_st {g : Nat} {d : Ds} {seq : Int} (h : St w (DskS g d :: X)) (hq : Quiet d seq) (hs : 0 ≤ seq ∧ seq ≤ 1000) (hm : d.many ≤ 1000) (harm : d.armed = false) {R : Option Addr → Int → World → Prop}
   (hR:∀ k w',St w' (DeskS k g 1001 (fmtD d seq (d.l.length - 111)) :: X)→R (some (blk k)) 0 w'):F.desk_Format (some (blk g)) w R:=by
 have hlo:=hq.lo
 have hhi:=hq.hi
 have hE:=fmt_lastE hq
 have hbl:=bs0_len (d.l.length - 111)
 apply E.desk_Format
 unfold V.desk_Format
 try simp -zeta only [ldC,soC,brC,bkA,slC,stC,alC,drC]
 apply E.desk_opened
 unfold V.desk_opened
 try simp -zeta only [ldC,soC,brC,bkA,slC,stC,alC,drC]
 simp -zeta only [cnd_all]
 refine OpenW_st h hq.off hlo (by have:=hq.hlen; omega) (fun _=>by rw [hq.head]) (fun w' hne=>absurd (by rw [hq.head]) hne) fun u w1 _ h1=>⟨fun _=>⟨fun h=>absurd rfl h,fun _=>?_⟩,fun h=>absurd h (by decide)⟩
 rw [hq.head] at h1
 have h1:St w1 (WalS u g ⟨seq,false,0⟩ :: DskS g d :: X):=h1
 have en:sizeD d=((d.l.length - 111:Nat):Int):=by unfold sizeD; omega
 refine SizeW_st h1 ?_
 rw [en]
 intro wa1
 replace h1:St wa1 (Cs _ _ _ :: _):=h1.new _ _
 clear_value wa1
 refine New_room (n:=d.l.length - 111) (by omega) (by omega) (Ints.row (vs:=[0,1]) h1.bl 2 2 rfl) (fun j hj=>by
   obtain ⟨a,ha,rfl⟩:=hj
   injection ha with ha
   subst ha
   exact heap_lt h1.bl) (by decide) (fun w' hbad _=>absurd (fun x hx=>by
     simp only [List.mem_cons,List.not_mem_nil,or_false] at hx
     rcases hx with rfl | rfl
     · exact ⟨by decide,by omega⟩
     · exact ⟨by decide,by omega⟩) hbad) fun r fpr w3 _ hr3 hfr3 hB3=>⟨fun h=>absurd rfl h,fun _=>?_⟩
 have h3:St w3 (RoomS r (bs0 (d.l.length - 111)) :: _):=h1.add (A:=RoomS r _) hr3 (fr_below hB3) hfr3
 refine LayR_st h3 (by omega) (by omega) fun w4 h4=>zeros_desk fun w5 hB5=>?_
 have h5:=h4.below hB5
 intro wa2
 replace h5:St wa2 (Cs _ _ _ :: _):=h5.new _ _
 clear_value wa2
 have h6:=h5.up3.up4.sw
 refine Commit_st (sl:=⟨some (blk w5.heap.size),2,2⟩) (ws:=fmtW (d.l.length - 111)) h6 hq.off hq.ws hq.safe (fun w' hw=>hw.lit (En:=EW) (xs:=fmtW (d.l.length - 111)) rfl rfl 2) (by show 2≤1000000; decide) hlo hhi hs.1 (by omega) (by decide) ⟨hq.many,by omega⟩ (fun w' hne=>absurd hE hne) (fun w' he=>by simp [fmtW] at he) (fun w7 _ _ h7=>⟨fun h=>absurd rfl h,fun _=>?_⟩) fun _ _ ha=>by rw [harm] at ha; cases ha
 intro w8
 have h8:St w8 (MapS w7.heap.size [] :: _):=MapS.made h7
 clear_value w8
 generalize w7.heap.size=b at *
 intro w9
 have h9:St w9 (Cs w8.heap.size [.pointer (some (blk u)),.pointer (some (blk r)),.map (some b),.int .i64 0,.int .i64 0] T.y_desk_Desk :: _):=h8.new _ _
 clear_value w9
 refine hR w8.heap.size w9 (DeskS.join (D:=fmtD d seq (d.l.length - 111)) (u:=u) (r:=r) (b:=b) (fmt_ok hq hs hm) ?_)
 -- desk's block, map, wal, disk, writes, room, numbers
 have h10:=h9.up4.drop.up4.sw.up5.drop
 exact (WDS.put (D:=fmtD d seq (d.l.length - 111)) h10.up4.up4).dn3
theorem format0_st {g n : Nat} (h : St w (DskS g (newD n) :: X)) (h1 : 140 ≤ n) (h2 : n ≤ 2000) {R : Option Addr → Int → World → Prop}
   (hR:∀ k w',St w' (DeskS k g 1001 (fmt0 n) :: X)→R (some (blk k)) 0 w'):F.desk_Format (some (blk g)) w R:=by
 refine format_st h (Quiet.new h1 h2) (by decide) (by show (0:Int)≤1000; decide) rfl fun k w' h'=>hR k w' ?_
 have e:(newD n).l.length=n:=List.length_replicate
 rw [e] at h'; exact h'
theorem DeskS.wal {k g c:Nat} {D:DkV} (h:St w (DeskS k g c D :: X)):∃ u,w.cell? (blk k)=some (.pointer (some (blk u))):=by
 obtain ⟨_,u,r,b,q⟩:=DeskS.parts h
 exact ⟨u,q.cell0⟩
theorem All_st {r : Nat} {bs : List Bool} (h : St w (RoomS r bs :: X)) (hn : bs.length ≤ 1000000) {R : Sl → World → Prop}
   (hR:∀ l w',St w' (Row EI T.y_int l (allL bs bs.length) :: RoomS r bs :: X)→R l w'):F.room_Room_All (some (blk r)) w R:=by
 obtain ⟨S,hr⟩:=h.hd
 exact All_room hr hn fun l w' hO hbk hB=>hR l w' (St.rowOf h (fr_below hB) (by rw [EI_all]; exact hO) hbk)
end
end Go.Proofs.YtgacpkgaogiocaaGreatDoor

/- chain: calls on a chain that is there; masonrylaw12.Fresh, alive. -/
set_option linter.unusedVariables false
namespace Go.Proofs.YtgacpkgaogiocaaGreatDoor
open Go Go.Vc Go.RowKit Go.Lib
theorem fmt0_bs {n:Nat}:(fmt0 n).bs=bs0 (n - 111):=by
 unfold fmt0 fmtD
 exact Eq.refl (bs0 (n - 111))
theorem put_has {D:DkV} {gen tag:Int} {b:Bs} (hf:needN b.length≤freeN D.bs):HasC (putS D gen tag b (needN b.length) (needN b.length)).1 (linkP D gen tag b (needN b.length)) (placeP D (needN b.length)) (needN b.length):=
 fun i hi=>(putS_get (needN b.length) (Nat.le_refl _) hf).1 i (by omega) hi
theorem put_else {D:DkV} {gen tag:Int} {b:Bs} (hf:needN b.length≤freeN D.bs) {a:Int} (ha:∀ i,i < needN b.length→placeP D (needN b.length) i≠a):getE (putS D gen tag b (needN b.length) (needN b.length)).1 a=getE D a∧getD (putS D gen tag b (needN b.length) (needN b.length)).1 a=getD D a:=
 (putS_get (needN b.length) (Nat.le_refl _) hf).2 a fun i _ hi=>ha i hi
theorem dataOf_put {D:DkV} {gen tag:Int} {b:Bs} (hb:b.length≤9440) {n:Nat}:dataOf ((List.range (needN b.length)).map (linkP D gen tag b n))=b:=by
 have:(List.range (needN b.length)).map (fun i=>(linkP D gen tag b n i).data)=(List.range (needN b.length)).map (partB b):=rfl
 unfold dataOf
 rw [List.map_map]
 show ((List.range (needN b.length)).map (fun i=>(linkP D gen tag b n i).data)).flatten=b
 rw [this,partB_whole hb]
/-- the places that Put takes are in use behind it, and were free -/
theorem place_used {D:DkV} {n i:Nat} (hi:i < n) (hn:n≤freeN D.bs):usedB (takeN D.bs n) (placeP D n i)=true∧D.bs.getD (placeP D n i).toNat false=false:=by
 unfold placeP
 rw [if_pos hi]
 have h1:=take_lt (bs:=D.bs) (j:=n - 1 - i) (by omega)
 have h2:=(take_get D.bs n _ h1).2 (.inr ⟨n - 1 - i,by omega,rfl⟩)
 refine ⟨?_,?_⟩
 · unfold usedB
   rw [takeN_len,decide_eq_true (by omega),decide_eq_true (by omega),Int.toNat_natCast,h2]; rfl
 · rw [Int.toNat_natCast]; exact take_was (by omega)
section
variable {w:World} {X:List As} {k g c:Nat} {D:DkV} {n:Nat} {L:Nat→Lk} {P:Nat→Int}
theorem Get_chn (h : St w (DeskS k g c D :: X)) (hc : Chn n L P) (hg : HasC D L P n) (hP : 0 ≤ P 0 ∧ P 0 < 65536) {R : Int → Int → Int → ByteArray → Int → World → Prop}
   (hR:∀ w',St w' (DeskS k g c D :: X)→R (L 0).gen (L 0).tag (L 0).refs (tx (dataOf ((List.range n).map L))) 0 w'):F.chain_Get (some (blk k)) (P 0) w R:=by
 have hw:=hc.walk hg
 refine Get_chain h (by omega) (fun w' he=>absurd (by rw [hw]) he) fun x xs w' hx he h'=>?_
 rw [hw] at hx
 have hp:=hc.pos
 have e:(List.range n).map L=x :: xs:=hx
 rw [← e]
 obtain ⟨m,rfl⟩:∃ m,n=m + 1:=⟨n - 1,by omega⟩
 rw [List.range_succ_eq_map] at e
 simp only [List.map_cons,List.cons.injEq] at e
 rw [← e.1]
 exact hR w' h'
theorem Fresh_st (h:St w X) {n:Nat} (h1:140≤n) (h2:n≤2000) {R:Option Addr→World→Prop} (hR:∀ k g w',St w' (DeskS k g 1001 (fmt0 n) :: X)→R (some (blk k)) w'):F.masonrylaw12_Fresh (n:Int) w R:=by
 apply E.masonrylaw12_Fresh
 unfold V.masonrylaw12_Fresh
 try simp -zeta only [ldC,soC,brC,bkA,slC,stC,alC,drC]
 try simp (config:={ zeta:=false }) only [cnd_all]
 refine newdisk_st h h1 h2 fun g w1 h1'=>⟨fun h=>absurd rfl h,fun _=>format0_st h1' h1 h2 fun k w2 h2'=>⟨fun h=>absurd rfl h,fun _=>⟨fun h=>(by cases h),fun _=>?_⟩⟩⟩
 obtain ⟨u,hu⟩:=DeskS.wal h2'
 exact ⟨blk k,rfl,some (blk u),hu,fun h=>(by cases h),fun _=>hR k g w2 h2'⟩
end
end Go.Proofs.YtgacpkgaogiocaaGreatDoor

/- ChainSizes: the walk. -/
set_option linter.unusedVariables false
namespace Go.Proofs.YtgacpkgaogiocaaGreatDoor
open Go Go.Vc Go.RowKit Go.Lib
theorem giveL_get (bs:List Bool) {i:Nat} (hi:i < bs.length) (zs:List Int):(giveL bs zs).getD i false=(bs.getD i false && decide ((i:Int)∉zs)):=by
 refine snoc_ind (P:=fun zs=>(giveL bs zs).getD i false=(bs.getD i false && decide ((i:Int)∉zs))) (by simp [giveL]) (fun l x ih=>?_) zs
 have hl:=giveL_len bs l
 rw [giveL_app]
 by_cases hx:x=(i:Int)
 · have e:decide ((i:Int)∉l ++ [x])=false:=by simp [hx]
   rw [e,Bool.and_false]
   split
   · have:x.toNat=i:=by omega
     rw [this]; simp [hl,hi]
   · rename_i hu
     simp only [usedB,Bool.and_eq_true,decide_eq_true_eq,not_and,Bool.not_eq_true] at hu
     have:=hu (by omega) (by omega)
     have e2:x.toNat=i:=by omega
     rw [e2] at this; exact this
 · have e : decide ((i : Int) ∉ l ++ [x]) = decide ((i : Int) ∉ l) := by
     have:¬ (i:Int)=x:=fun h=>hx h.symm
     simp [this]
   rw [e]
   split
   · rename_i hu
     simp only [usedB,Bool.and_eq_true,decide_eq_true_eq] at hu
     have:x.toNat≠i:=by omega
     rw [← ih]
     simp only [List.getD_eq_getElem?_getD]
     rw [List.getElem?_set_ne this]
   · exact ih
theorem place_ok {D:DkV} {n:Nat} (hn:n≤freeN D.bs) (h0:D.bs.getD 0 false=true) (h1:D.bs.getD 1 false=true) {i:Nat} (hi:i < n):2≤placeP D n i:=by
 have h:=(place_used hi hn).2
 have hr:=(placeP_range D n i).1
 rcases Int.lt_or_le (placeP D n i) 2 with h2 | h2
 · have:(placeP D n i).toNat=0∨(placeP D n i).toNat=1:=by omega
   rcases this with e | e <;> rw [e] at h
   · rw [h0] at h; cases h
   · rw [h1] at h; cases h
 · exact h2
theorem drop_ok {D:DkV} {n:Nat} {P:Nat→Int} (hinj:∀ i j,i < n→j < n→P i=P j→i=j) (hP:∀ i,i < n→2≤P i∧usedB D.bs (P i)=true):dropOk D.bs ((List.range n).map P):=fun i hi=>by
 have hi':i < n:=by simpa using hi
 have e:((List.range n).map P)[i]=P i:=by simp
 rw [e]
 have:=hP i hi'
 refine ⟨by omega,by omega,this.2,fun hm=>?_⟩
 rw [List.mem_take_iff_getElem] at hm
 obtain ⟨j,hj,he⟩:=hm
 simp at hj he
 have:=hinj j i (by omega) hi' he
 omega
section
variable {w:World} {X:List As}
end
end Go.Proofs.YtgacpkgaogiocaaGreatDoor

/- chain.Refs, whole. -/
set_option linter.unusedVariables false
namespace Go.Proofs.YtgacpkgaogiocaaGreatDoor
open Go Go.Vc Go.RowKit Go.Lib
section
variable {w:World} {X:List As} {k g c:Nat} {D:DkV}
end
end Go.Proofs.YtgacpkgaogiocaaGreatDoor

/- crc: one byte that is another one is found. -/
set_option linter.unusedVariables false
namespace Go.Proofs.YtgacpkgaogiocaaGreatDoor
open Go Go.Vc Go.RowKit Go.Lib
end Go.Proofs.YtgacpkgaogiocaaGreatDoor

/- chain: of two chains, one that is spoilt; in plain words. -/
set_option linter.unusedVariables false
namespace Go.Proofs.YtgacpkgaogiocaaGreatDoor
open Go Go.Vc Go.RowKit Go.Lib
section
variable {D:DkV} {na nb:Nat} {Lx Ly:Nat→Lk} {Px Py:Nat→Int}
end
end Go.Proofs.YtgacpkgaogiocaaGreatDoor

/- chain: several chains that are there, apart from each other; in plain words. -/
set_option linter.unusedVariables false
namespace Go.Proofs.YtgacpkgaogiocaaGreatDoor
open Go Go.Vc Go.RowKit Go.Lib
/-- what a chain is told to be -/
structure Th where
 at_:Int
 gen:Int
 tag:Int
 refs:Int
 data:Bs
structure Ent where
 x:Th
 L:Nat→Lk
 P:Nat→Int
def Ent.n (e:Ent):Nat:=needN e.x.data.length
def Ent.ps (e:Ent):List Int:=(List.range e.n).map e.P
theorem Ent.ps_len (e:Ent):e.ps.length=e.n:=by simp [Ent.ps]
structure EntOk (D:DkV) (e:Ent):Prop where
 chn:Chn e.n e.L e.P
 has:HasC D e.L e.P e.n
 at_:e.P 0=e.x.at_
 hd:(e.L 0).gen=e.x.gen∧(e.L 0).tag=e.x.tag∧(e.L 0).refs=e.x.refs
 dat:dataOf ((List.range e.n).map e.L)=e.x.data
 len:e.x.data.length≤9440
 rng:∀ i,i < e.n→2≤e.P i∧e.P i < (D.bs.length:Int)
 refs:0≤e.x.refs∧e.x.refs≤60000
def allP (es:List Ent):List Int:=es.flatMap Ent.ps
structure Have (D:DkV) (es:List Ent):Prop where
 ok:∀ e∈es,EntOk D e
 nd:(allP es).Nodup
 bs:∀ i,i < D.bs.length→(D.bs.getD i false=true↔i=0∨i=1∨(i:Int)∈allP es)
 len:2≤D.bs.length∧D.bs.length≤2000
theorem allP_app (a b:List Ent):allP (a ++ b)=allP a ++ allP b:=by simp [allP]
theorem allP_cons (e:Ent) (b:List Ent):allP (e :: b)=e.ps ++ allP b:=by simp [allP]
theorem nodup_ps {n:Nat} {P:Nat→Int}:(∀ i j,i < n→j < n→P i=P j→i=j)→((List.range n).map P).Nodup:=by
 induction n with
 | zero=>intro _; simp
 | succ n ih=>
   intro h
   rw [List.range_succ,List.map_append,List.nodup_append]
   refine ⟨ih fun i j hi hj=>h i j (by omega) (by omega),by simp,?_⟩
   intro a ha b hb e
   obtain ⟨i,hi,rfl⟩:=List.mem_map.1 ha
   simp only [List.map_cons,List.map_nil,List.mem_cons,List.not_mem_nil,or_false] at hb
   subst hb
   have hi:=List.mem_range.1 hi
   have:=h i n (by omega) (by omega) e
   omega
theorem ps_mem {e:Ent} {a:Int}:a∈e.ps↔∃ i,i < e.n∧e.P i=a:=by
 unfold Ent.ps
 rw [List.mem_map]
 constructor
 · rintro ⟨i,hi,h⟩; exact ⟨i,List.mem_range.1 hi,h⟩
 · rintro ⟨i,hi,h⟩; exact ⟨i,List.mem_range.2 hi,h⟩
theorem allP_mem {es:List Ent} {a:Int}:a∈allP es↔∃ e∈es,∃ i,i < e.n∧e.P i=a:=by
 unfold allP
 rw [List.mem_flatMap]
 constructor
 · rintro ⟨e,he,h⟩; exact ⟨e,he,ps_mem.1 h⟩
 · rintro ⟨e,he,h⟩; exact ⟨e,he,ps_mem.2 h⟩
theorem EntOk.frame {D D':DkV} {e:Ent} (h:EntOk D e) (hl:D'.bs.length=D.bs.length) (hg:∀ i,i < e.n→getE D' (e.P i)=getE D (e.P i)∧getD D' (e.P i)=getD D (e.P i)):EntOk D' e:=
 ⟨h.chn,fun i hi=>by rw [(hg i hi).1,(hg i hi).2]; exact h.has i hi,h.at_,h.hd,h.dat,h.len,fun i hi=>by rw [hl]; exact h.rng i hi,h.refs⟩
section
variable {D:DkV} {es:List Ent}
theorem Have.mem_rng (h:Have D es) {a:Int} (ha:a∈allP es):2≤a∧a < (D.bs.length:Int):=by
 obtain ⟨e,he,i,hi,rfl⟩:=allP_mem.1 ha
 exact (h.ok e he).rng i hi
theorem Have.used (h:Have D es) {a:Int} (ha:a∈allP es):usedB D.bs a=true:=by
 have hr:=h.mem_rng ha
 have:=(h.bs a.toNat (by omega)).2 (.inr (.inr (by rw [Int.toNat_of_nonneg (by omega)]; exact ha)))
 unfold usedB
 rw [decide_eq_true (by omega),decide_eq_true (by omega),this]; rfl
theorem Have.all (h:Have D es):allL D.bs D.bs.length=0 :: 1 :: nextT (allP es):=by
 have hup:Up (0 :: 1 :: nextT (allP es)):=by
   refine List.pairwise_cons.2 ⟨fun y hy=>?_,List.pairwise_cons.2 ⟨fun y hy=>?_,(nextT_up _).1⟩⟩
   · rcases List.mem_cons.1 hy with e | hy
     · omega
     · have:=h.mem_rng (((nextT_up _).2 y).1 hy); omega
   · have:=h.mem_rng (((nextT_up _).2 y).1 hy); omega
 refine up_ext ?_ hup fun x=>?_
 · unfold allL Up
   rw [List.pairwise_map]
   refine (List.Pairwise.filter _ List.pairwise_lt_range).imp fun {a b} hab=>by omega
 · have hl:=h.len
   simp only [allL,List.mem_map,List.mem_filter,List.mem_range,List.mem_cons,(nextT_up _).2]
   constructor
   · rintro ⟨i,⟨hi,hb⟩,rfl⟩
     rcases (h.bs i hi).1 hb with e | e | e
     · left; omega
     · right; left; omega
     · exact .inr (.inr e)
   · rintro (e | e | e)
     · exact ⟨0,⟨by omega,(h.bs 0 (by omega)).2 (.inl rfl)⟩,by omega⟩
     · exact ⟨1,⟨by omega,(h.bs 1 (by omega)).2 (.inr (.inl rfl))⟩,by omega⟩
     · have hr:=h.mem_rng e
       exact ⟨x.toNat,⟨by omega,(h.bs x.toNat (by omega)).2 (.inr (.inr (by rw [Int.toNat_of_nonneg (by omega)]; exact e)))⟩,by omega⟩
theorem nextT_nd {l:List Int} (h:l.Nodup):(nextT l).length=l.length:=by
 have hu:∀ l:List Int,Up l→l.Nodup:=fun l hl=>hl.imp fun {a b} hab=>by omega
 exact ((List.perm_ext_iff_of_nodup (hu _ (nextT_up l).1) h).2 fun a=>(nextT_up l).2 a).length_eq
theorem Have.free (h:Have D es):freeN D.bs + 2 + (allP es).length=D.bs.length:=by
 have h1:=freeN_all D.bs
 have h2:=allL_len D.bs D.bs.length
 rw [h.all] at h1 h2
 simp only [List.length_cons,nextT_nd h.nd] at h1 h2
 omega
/-- one more -/
theorem Have.put (h : Have D es) {gen tag : Int} {b : Bs} (hg : 1 ≤ gen ∧ gen ≤ 3) (ht : 0 ≤ tag ∧ tag ≤ 200) (hb : b.length ≤ 9440) (hf : needN b.length ≤ freeN D.bs) :
   Have (putS D gen tag b (needN b.length) (needN b.length)).1 (es ++ [⟨⟨placeP D (needN b.length) 0,gen,tag,1,b⟩,linkP D gen tag b (needN b.length),placeP D (needN b.length)⟩]):=by
 have hl:=h.len
 have h0:=(h.bs 0 (by omega)).2 (.inl rfl)
 have h1:=(h.bs 1 (by omega)).2 (.inr (.inl rfl))
 have hbs:=putS_bs (D:=D) (gen:=gen) (tag:=tag) (b:=b) (n:=needN b.length) (needN b.length)
 have hbl:(putS D gen tag b (needN b.length) (needN b.length)).1.bs.length=D.bs.length:=by rw [hbs,takeN_len]
 have hc:=putS_chn (D:=D) (gen:=gen) (tag:=tag) (b:=b) hg ht hb rfl hf hl.2 h0
 have hpu:∀ i,i < needN b.length→D.bs.getD (placeP D (needN b.length) i).toNat false=false:=fun i hi=>(place_used hi hf).2
 have hpr:∀ i,i < needN b.length→2≤placeP D (needN b.length) i∧placeP D (needN b.length) i < (D.bs.length:Int):=fun i hi=>by
   have h2:=(place_used hi hf).1
   simp only [usedB,Bool.and_eq_true,decide_eq_true_eq] at h2
   rw [takeN_len] at h2
   exact ⟨place_ok hf h0 h1 hi,h2.2.1⟩
 have hne:∀ a∈allP es,∀ i,i < needN b.length→placeP D (needN b.length) i≠a:=fun a ha i hi e=>by
   have h2:=h.used ha
   rw [← e] at h2
   simp only [usedB,Bool.and_eq_true,decide_eq_true_eq] at h2
   have h3:=h2.2.2
   rw [hpu i hi] at h3; cases h3
 refine ⟨fun e he=>?_,?_,fun i hi=>?_,by rw [hbl]; exact hl⟩
 · rcases List.mem_append.1 he with he | he
   · exact (h.ok e he).frame hbl fun i hi=>put_else hf fun j hj=>hne _ (allP_mem.2 ⟨e,he,i,hi,rfl⟩) j hj
   · simp only [List.mem_cons,List.not_mem_nil,or_false] at he
     subst he
     exact ⟨hc,put_has hf,rfl,⟨rfl,rfl,rfl⟩,dataOf_put hb,hb,fun i hi=>by rw [hbl]; exact hpr i hi,⟨by show (0:Int)≤1; decide,by show (1:Int)≤60000; decide⟩⟩
 · rw [allP_app,List.nodup_append]
   refine ⟨h.nd,?_,fun a ha c hc2 e=>?_⟩
   · rw [allP_cons]
     simp only [allP,List.flatMap_nil,List.append_nil]
     exact nodup_ps hc.inj
   · subst e
     obtain ⟨e2,he2,i,hi,h3⟩:=allP_mem.1 hc2
     simp only [List.mem_cons,List.not_mem_nil,or_false] at he2
     subst he2
     exact hne a ha i hi h3
 · rw [hbl] at hi
   rw [hbs,take_get _ _ _ hi,h.bs i hi,allP_app,List.mem_append]
   have hm:((i:Int)∈allP [⟨⟨placeP D (needN b.length) 0,gen,tag,1,b⟩,linkP D gen tag b (needN b.length),placeP D (needN b.length)⟩])↔∃ t,t < needN b.length∧freeAt (takeN D.bs t)=i:=by
     rw [allP_mem]
     constructor
     · rintro ⟨e,he,j,hj,h3⟩
       simp only [List.mem_cons,List.not_mem_nil,or_false] at he
       subst he
       have hj:j < needN b.length:=hj
       have h3:placeP D (needN b.length) j=(i:Int):=h3
       unfold placeP at h3
       rw [if_pos hj] at h3
       exact ⟨needN b.length - 1 - j,by omega,by omega⟩
     · rintro ⟨t,ht2,h3⟩
       refine ⟨_,List.mem_cons_self ..,needN b.length - 1 - t,(by show _ < needN b.length; omega),?_⟩
       show placeP D (needN b.length) (needN b.length - 1 - t)=(i:Int)
       unfold placeP
       rw [if_pos (by omega)]
       have:needN b.length - 1 - (needN b.length - 1 - t)=t:=by omega
       rw [this,h3]
   rw [hm]
   constructor
   · rintro ((e | e | e) | e)
     · exact .inl e
     · exact .inr (.inl e)
     · exact .inr (.inr (.inl e))
     · exact .inr (.inr (.inr e))
   · rintro (e | e | e | e)
     · exact .inl (.inl e)
     · exact .inl (.inr (.inl e))
     · exact .inl (.inr (.inr e))
     · exact .inr e
/-! ### One used more often -/
/-! ### One dropped -/
theorem lastW_filter {ws:List Wr1} {zs:List Int} {y:Int} (hy:y∉zs):lastW (ws.filter fun p=>decide (p.1∉zs)) y=lastW ws y:=by
 refine snoc_ind (P:=fun ws=>lastW (ws.filter fun p=>decide (p.1∉zs)) y=lastW ws y) rfl (fun l a ih=>?_) ws
 rw [List.filter_append,lastW_app]
 by_cases ha:a.1∈zs
 · have e:[a].filter (fun p=>decide (p.1∉zs))=[]:=by simp [ha]
   have hne:a.1≠y:=fun h=>hy (by rw [← h]; exact ha)
   rw [e,List.append_nil,if_neg hne,ih]
 · have e:[a].filter (fun p=>decide (p.1∉zs))=[a]:=by simp [ha]
   rw [e,lastW_app,ih]
theorem get_drop {zs:List Int} {a:Int} (ha:a∉zs):getE (dropD D zs) a=getE D a∧getD (dropD D zs) a=getD D a:=by
 have hk:a∈keysW (dropD D zs).ws↔a∈keysW D.ws:=by
   simp only [keysW,dropD,List.mem_map,List.mem_filter,decide_eq_true_eq]
   constructor
   · rintro ⟨p,⟨h1,_⟩,h2⟩; exact ⟨p,h1,h2⟩
   · rintro ⟨p,h1,h2⟩; exact ⟨p,⟨h1,by rw [h2]; exact ha⟩,h2⟩
 have hl:(dropD D zs).bs.length=D.bs.length:=giveL_len _ _
 have hw:lastW (dropD D zs).ws a=lastW D.ws a:=lastW_filter ha
 unfold getE getD
 rw [hl,hw]
 simp only [hk]
 exact ⟨trivial,rfl⟩
theorem Have.drop_ok {a b:List Ent} {e:Ent} (h:Have D (a ++ e :: b)):dropOk D.bs e.ps:=by
 have he:=h.ok e (by simp)
 refine Go.Proofs.YtgacpkgaogiocaaGreatDoor.drop_ok he.chn.inj fun i hi=>⟨(he.rng i hi).1,h.used (allP_mem.2 ⟨e,by simp,i,hi,rfl⟩)⟩
theorem Have.drop {a b:List Ent} {e:Ent} (h:Have D (a ++ e :: b)):Have (dropD D e.ps) (a ++ b):=by
 have hl:(dropD D e.ps).bs.length=D.bs.length:=giveL_len _ _
 have hnd:=h.nd
 rw [allP_app,allP_cons] at hnd
 have hno:∀ x∈allP (a ++ b),x∉e.ps:=fun x hx hx2=>by
   rw [allP_app] at hx
   rcases List.mem_append.1 hx with hx | hx
   · exact (List.nodup_append.1 hnd).2.2 _ hx _ (List.mem_append_left _ hx2) rfl
   · exact (List.nodup_append.1 (List.nodup_append.1 hnd).2.1).2.2 _ hx2 _ hx rfl
 have hsub:∀ e2∈a ++ b,e2∈a ++ e :: b:=fun e2 he2=>by
   rcases List.mem_append.1 he2 with h2 | h2
   · exact List.mem_append_left _ h2
   · exact List.mem_append_right _ (List.mem_cons_of_mem _ h2)
 refine ⟨fun e2 he2=>(h.ok e2 (hsub e2 he2)).frame hl fun i hi=>get_drop (hno _ (allP_mem.2 ⟨e2,he2,i,hi,rfl⟩)),?_,fun i hi=>?_,by rw [hl]; exact h.len⟩
 · rw [allP_app]
   refine List.nodup_append.2 ⟨(List.nodup_append.1 hnd).1,(List.nodup_append.1 (List.nodup_append.1 hnd).2.1).2.1,fun x hx y hy=>(List.nodup_append.1 hnd).2.2 x hx y (List.mem_append_right _ hy)⟩
 · rw [hl] at hi
   have hg:=giveL_get D.bs hi e.ps
   show (giveL D.bs e.ps).getD i false=true↔_
   have hme:(i:Int)∈allP (a ++ e :: b)↔(i:Int)∈e.ps∨(i:Int)∈allP (a ++ b):=by
     rw [allP_app,allP_cons,allP_app]
     simp only [List.mem_append]
     constructor
     · rintro (h | h | h)
       · exact .inr (.inl h)
       · exact .inl h
       · exact .inr (.inr h)
     · rintro (h | h | h)
       · exact .inr (.inl h)
       · exact .inl h
       · exact .inr (.inr h)
   have hps:(i:Int)∈e.ps→2≤i:=fun hx=>by
     have:=h.mem_rng (hme.2 (.inl hx)); omega
   rw [hg,Bool.and_eq_true,h.bs i hi,hme,decide_eq_true_eq]
   constructor
   · rintro ⟨e1 | e1 | e1 | e1,e2⟩
     · exact .inl e1
     · exact .inr (.inl e1)
     · exact absurd e1 e2
     · exact .inr (.inr e1)
   · rintro (e1 | e1 | e1)
     · exact ⟨.inl e1,fun hx=>by have:=hps hx; omega⟩
     · exact ⟨.inr (.inl e1),fun hx=>by have:=hps hx; omega⟩
     · exact ⟨.inr (.inr (.inr e1)),hno _ e1⟩
end
end Go.Proofs.YtgacpkgaogiocaaGreatDoor

/- chain: its calls, of chains that are there apart from each other. -/
set_option linter.unusedVariables false
namespace Go.Proofs.YtgacpkgaogiocaaGreatDoor
open Go Go.Vc Go.RowKit Go.Lib
section
variable {w:World} {X:List As} {k g c:Nat} {D:DkV} {e:Ent} {es:List Ent}
theorem EntOk.walk (h:EntOk D e):walkD D e.x.at_=((List.range e.n).map e.L,e.ps,0):=by rw [← h.at_]; exact h.chn.walk h.has
theorem Have.at_ (h:Have D es) (he:e∈es):2≤e.x.at_∧e.x.at_ < (D.bs.length:Int)∧e.x.at_ < 2000:=by
 have h1:=h.ok e he
 have hp:=h1.chn.pos
 have:=h1.rng 0 (by omega)
 have hl:=h.len
 rw [h1.at_] at this
 omega
theorem Get_E (h : St w (DeskS k g c D :: X)) (hH : Have D es) (he : e ∈ es) {R : Int → Int → Int → ByteArray → Int → World → Prop}
   (hR:∀ w',St w' (DeskS k g c D :: X)→R e.x.gen e.x.tag e.x.refs (tx e.x.data) 0 w'):F.chain_Get (some (blk k)) e.x.at_ w R:=by
 have h1:=hH.ok e he
 have ha:=hH.at_ he
 have hp:=h1.chn.pos
 have:=Get_chn h h1.chn h1.has (by rw [h1.at_]; omega) (R:=R) fun w' hw=>by
   rw [h1.hd.1,h1.hd.2.1,h1.hd.2.2,h1.dat]; exact hR w' hw
 rw [h1.at_] at this
 exact this
theorem Sectors_E (h : St w (DeskS k g c D :: X)) (hH : Have D es) (he : e ∈ es) {R : Sl → Int → World → Prop}
   (hR:∀ pl w',St w' (Row EI T.y_int pl e.ps :: DeskS k g c D :: X)→R pl 0 w'):F.chain_Sectors (some (blk k)) e.x.at_ w R:=by
 have h1:=hH.ok e he
 have ha:=hH.at_ he
 refine Sectors_chain h (by omega) fun pl w' h'=>?_
 rw [h1.walk] at h' ⊢
 exact hR pl w' h'
theorem Drop_E {a b : List Ent} (h : St w (DeskS k g c D :: X)) (hH : Have D (a ++ e :: b)) {R : Int → World → Prop}
   (hR:∀ w',Have (dropD D e.ps) (a ++ b)→St w' (DeskS k g c (dropD D e.ps) :: X)→R 0 w'):F.chain_Drop (some (blk k)) e.x.at_ w R:=by
 have hm:e∈a ++ e :: b:=by simp
 have h1:=hH.ok e hm
 have ha:=hH.at_ hm
 have hw:=h1.walk
 refine Drop_chain h (by omega) (fun z hz=>?_) (fun w' he _=>absurd (by rw [hw]) he) (fun w' _ hno _=>absurd (by rw [hw]; exact hH.drop_ok) hno) fun w' _ _ h2=>?_
 · rw [hw] at hz
   have:=hH.mem_rng (a:=z) (by rw [allP_app,allP_cons]; exact List.mem_append_right _ (List.mem_append_left _ hz))
   have:=hH.len
   omega
 · rw [hw] at h2
   exact hR w' hH.drop h2
theorem Have.fmt {n:Nat} (h1:140≤n) (h2:n≤2000):Have (fmt0 n) []:=by
 have hl:(fmt0 n).bs.length=n - 111:=by rw [fmt0_bs,bs0_len]
 refine ⟨fun e he=>(by cases he),by simp [allP],fun i hi=>?_,by omega⟩
 rw [hl] at hi
 rw [fmt0_bs]
 unfold bs0
 rw [usedL_get _ _ (by decide) hi,decide_eq_true_iff]
 simp only [allP,List.flatMap_nil,List.mem_cons,List.not_mem_nil,or_false]
 omega
end
end Go.Proofs.YtgacpkgaogiocaaGreatDoor

/- masonrybook: SameInts, Room; masonrylaw12: need, Light; chain.Need of all numbers. -/
set_option linter.unusedVariables false
namespace Go.Proofs.YtgacpkgaogiocaaGreatDoor
open Go Go.Vc Go.RowKit Go.Lib
theorem Has.int {w:World} {l:Sl} {xs:List Int} (h:Has EI w l xs) {m:Nat} (hm:m < xs.length):∃ ad,l.a=some ad∧m < l.len∧w.cell? (ad.add (m * 1))=some (.int .i64 xs[m]):=by
 obtain ⟨ad,ha,hl,hc⟩:=h.at hm
 have h0:=hc 0 _ rfl
 rw [Vc.addr_add0] at h0
 exact ⟨ad,ha,hl,h0⟩
section
variable {w:World} {X:List As}
theorem SameI_st (h:St w X) {al bl:Sl} {xs ys:List Int} (ha:∀ w',St w' X→Has EI w' al xs) (hb:∀ w',St w' X→Has EI w' bl ys) (hl:xs.length≤1000000000000000) {R:Bool→World→Prop} (hR:∀ w',St w' X→R (decide (xs=ys)) w'):F.masonrybook_SameInts al bl w R:=by
 apply E.masonrybook_SameInts
 unfold V.masonrybook_SameInts
 try simp -zeta only [ldC,soC,brC,bkA,slC,stC,alC,drC]
 try simp (config:={ zeta:=false }) only [cnd_all,Nat.reduceAdd]
 have h1:=(ha w h).1
 have h2:=(hb w h).1
 refine ⟨fun hne=>?_,fun heq=>?_⟩
 · have:=hR w h
   rw [decide_eq_false (fun e=>hne (by rw [h1,h2,e]))] at this
   exact this
 have hlen:xs.length=ys.length:=by omega
 refine ⟨Cnt xs.length fun m w'=>xs.take m=ys.take m∧St w' X,cntM xs.length,Cnt.zero ⟨rfl,h⟩,?_⟩
 rintro _ w1 ⟨m,rfl,hm,htk,h3⟩
 refine ⟨fun hlt=>?_,fun hge=>?_⟩
 · have hlt:m < xs.length:=by omega
   intro wa1
   replace h3:St wa1 _:=h3.drew
   clear_value wa1
   obtain ⟨a,ha1,hal,c0⟩:=Has.int (ha _ h3) hlt
   obtain ⟨b,hb1,hbl,e0⟩:=Has.int (hb _ h3) (m:=m) (by omega)
   refine ⟨a,ha1,by omega,by omega,_,c0,b,hb1,by omega,by omega,_,e0,fun hf=>?_,fun ht=>Cnt.next hlt (by omega) ⟨?_,h3⟩⟩
   · have:=hR _ h3
     rw [decide_eq_false (fun e=>by subst e; simp at hf)] at this
     exact this
   · rw [List.take_succ_eq_append_getElem hlt,List.take_succ_eq_append_getElem (by omega),htk]
     rw [ht]
 · have hmm:m=xs.length:=by omega
   subst hmm
   rw [List.take_length] at htk
   have e:xs=ys:=by rw [htk,hlen,List.take_length]
   have:=hR _ h3
   rw [decide_eq_true e] at this; exact this
end
/-! ### What is done -/
section
variable {w:World} {X:List As}
end
end Go.Proofs.YtgacpkgaogiocaaGreatDoor
