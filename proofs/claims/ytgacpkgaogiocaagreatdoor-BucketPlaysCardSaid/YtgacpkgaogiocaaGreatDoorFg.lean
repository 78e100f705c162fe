/- masonrybook.Book: the kinds of which none is kept; Apart. -/
import Derived.Test.YtgacpkgaogiocaaGreatDoorFf
set_option linter.unusedVariables false
namespace Go.Proofs.YtgacpkgaogiocaaGreatDoor
open Go Go.Vc Go.RowKit Go.Lib
section
variable {w:World} {g:Nat}
theorem stillTexts_e (h:w.cell? (blk g)=some (.slice none 0 0)) {R:Bool→World→Prop} (hR:R true w):F.masonrybook_Book_stillTexts (some (blk g)) w R:=by
 apply E.masonrybook_Book_stillTexts
 unfold V.masonrybook_Book_stillTexts
 try simp -zeta only [ldC,soC,brC,bkA,slC,cnd_all,blk_add2,Nat.reduceAdd]
 refine ⟨fun i w'=>i=0∧w'=w,fun _ _=>0,⟨rfl,rfl⟩,?_⟩
 rintro i w1 ⟨rfl,rfl⟩
 exact ⟨⟨none,0,0⟩,h,fun hlt=>by simp at hlt,fun _=>hR⟩
theorem putTexts_e (h:w.cell? (blk g)=some (.slice none 0 0)) {R:World→Prop} (hR:R w):F.masonrybook_Book_putTexts (some (blk g)) w R:=by
 apply E.masonrybook_Book_putTexts
 unfold V.masonrybook_Book_putTexts
 try simp -zeta only [ldC,soC,brC,bkA,slC,cnd_all,blk_add2,Nat.reduceAdd]
 refine ⟨fun i w'=>i=0∧w'=w,fun _ _=>0,⟨rfl,rfl⟩,?_⟩
 rintro i w1 ⟨rfl,rfl⟩
 exact ⟨⟨none,0,0⟩,h,fun hlt=>by simp at hlt,fun _=>hR⟩
theorem growTexts_e (h:w.cell? (blk g)=some (.slice none 0 0)) {R:Sl→World→Prop} (hR:R ⟨none,0,0⟩ w):F.masonrybook_Book_growTexts (some (blk g)) w R:=by
 apply E.masonrybook_Book_growTexts
 unfold V.masonrybook_Book_growTexts
 try simp -zeta only [ldC,soC,brC,bkA,slC,cnd_all,blk_add2,Nat.reduceAdd]
 refine ⟨fun out i w'=>out=⟨none,0,0⟩∧i=0∧w'=w,fun _ _ _=>0,⟨rfl,rfl,rfl⟩,?_⟩
 rintro out i w1 ⟨rfl,rfl,rfl⟩
 exact ⟨⟨none,0,0⟩,h,fun hlt=>by simp at hlt,fun _=>hR⟩
theorem markedTexts_e {R:Bool→World→Prop} (hR:R true w):F.masonrybook_markedTexts ⟨none,0,0⟩ w R:=by
 apply E.masonrybook_markedTexts
 unfold V.masonrybook_markedTexts
 try simp -zeta only [ldC,soC,brC,bkA,slC,cnd_all,blk_add2,Nat.reduceAdd]
 refine ⟨fun i w'=>i=0∧w'=w,fun _ _=>0,⟨rfl,rfl⟩,?_⟩
 rintro i w1 ⟨rfl,rfl⟩
 exact ⟨fun hlt=>by simp at hlt,fun _=>hR⟩
theorem stillSpans_e (h:w.cell? ((blk g).add 4)=some (.slice none 0 0)) {R:Bool→World→Prop} (hR:R true w):F.masonrybook_Book_stillSpans (some (blk g)) w R:=by
 apply E.masonrybook_Book_stillSpans
 unfold V.masonrybook_Book_stillSpans
 try simp -zeta only [ldC,soC,brC,bkA,slC,cnd_all,blk_add2,Nat.reduceAdd]
 refine ⟨fun i w'=>i=0∧w'=w,fun _ _=>0,⟨rfl,rfl⟩,?_⟩
 rintro i w1 ⟨rfl,rfl⟩
 exact ⟨⟨none,0,0⟩,h,fun hlt=>by simp at hlt,fun _=>hR⟩
theorem putSpans_e (h:w.cell? ((blk g).add 4)=some (.slice none 0 0)) {R:World→Prop} (hR:R w):F.masonrybook_Book_putSpans (some (blk g)) w R:=by
 apply E.masonrybook_Book_putSpans
 unfold V.masonrybook_Book_putSpans
 try simp -zeta only [ldC,soC,brC,bkA,slC,cnd_all,blk_add2,Nat.reduceAdd]
 refine ⟨fun i w'=>i=0∧w'=w,fun _ _=>0,⟨rfl,rfl⟩,?_⟩
 rintro i w1 ⟨rfl,rfl⟩
 exact ⟨⟨none,0,0⟩,h,fun hlt=>by simp at hlt,fun _=>hR⟩
theorem growSpans_e (h:w.cell? ((blk g).add 4)=some (.slice none 0 0)) {R:Sl→World→Prop} (hR:R ⟨none,0,0⟩ w):F.masonrybook_Book_growSpans (some (blk g)) w R:=by
 apply E.masonrybook_Book_growSpans
 unfold V.masonrybook_Book_growSpans
 try simp -zeta only [ldC,soC,brC,bkA,slC,cnd_all,blk_add2,Nat.reduceAdd]
 refine ⟨fun out i w'=>out=⟨none,0,0⟩∧i=0∧w'=w,fun _ _ _=>0,⟨rfl,rfl,rfl⟩,?_⟩
 rintro out i w1 ⟨rfl,rfl,rfl⟩
 exact ⟨⟨none,0,0⟩,h,fun hlt=>by simp at hlt,fun _=>hR⟩
theorem markedSpans_e {R:Bool→World→Prop} (hR:R true w):F.masonrybook_markedSpans ⟨none,0,0⟩ w R:=by
 apply E.masonrybook_markedSpans
 unfold V.masonrybook_markedSpans
 try simp -zeta only [ldC,soC,brC,bkA,slC,cnd_all,blk_add2,Nat.reduceAdd]
 refine ⟨fun i w'=>i=0∧w'=w,fun _ _=>0,⟨rfl,rfl⟩,?_⟩
 rintro i w1 ⟨rfl,rfl⟩
 exact ⟨fun hlt=>by simp at hlt,fun _=>hR⟩
theorem stillPieces_e (h:w.cell? ((blk g).add 6)=some (.slice none 0 0)) {R:Bool→World→Prop} (hR:R true w):F.masonrybook_Book_stillPieces (some (blk g)) w R:=by
 apply E.masonrybook_Book_stillPieces
 unfold V.masonrybook_Book_stillPieces
 try simp -zeta only [ldC,soC,brC,bkA,slC,cnd_all,blk_add2,Nat.reduceAdd]
 refine ⟨fun i w'=>i=0∧w'=w,fun _ _=>0,⟨rfl,rfl⟩,?_⟩
 rintro i w1 ⟨rfl,rfl⟩
 exact ⟨⟨none,0,0⟩,h,fun hlt=>by simp at hlt,fun _=>hR⟩
theorem putPieces_e (h:w.cell? ((blk g).add 6)=some (.slice none 0 0)) {R:World→Prop} (hR:R w):F.masonrybook_Book_putPieces (some (blk g)) w R:=by
 apply E.masonrybook_Book_putPieces
 unfold V.masonrybook_Book_putPieces
 try simp -zeta only [ldC,soC,brC,bkA,slC,cnd_all,blk_add2,Nat.reduceAdd]
 refine ⟨fun i w'=>i=0∧w'=w,fun _ _=>0,⟨rfl,rfl⟩,?_⟩
 rintro i w1 ⟨rfl,rfl⟩
 exact ⟨⟨none,0,0⟩,h,fun hlt=>by simp at hlt,fun _=>hR⟩
theorem growPieces_e (h:w.cell? ((blk g).add 6)=some (.slice none 0 0)) {R:Sl→World→Prop} (hR:R ⟨none,0,0⟩ w):F.masonrybook_Book_growPieces (some (blk g)) w R:=by
 apply E.masonrybook_Book_growPieces
 unfold V.masonrybook_Book_growPieces
 try simp -zeta only [ldC,soC,brC,bkA,slC,cnd_all,blk_add2,Nat.reduceAdd]
 refine ⟨fun out i w'=>out=⟨none,0,0⟩∧i=0∧w'=w,fun _ _ _=>0,⟨rfl,rfl,rfl⟩,?_⟩
 rintro out i w1 ⟨rfl,rfl,rfl⟩
 exact ⟨⟨none,0,0⟩,h,fun hlt=>by simp at hlt,fun _=>hR⟩
theorem markedPieces_e {R:Bool→World→Prop} (hR:R true w):F.masonrybook_markedPieces ⟨none,0,0⟩ w R:=by
 apply E.masonrybook_markedPieces
 unfold V.masonrybook_markedPieces
 try simp -zeta only [ldC,soC,brC,bkA,slC,cnd_all,blk_add2,Nat.reduceAdd]
 refine ⟨fun i w'=>i=0∧w'=w,fun _ _=>0,⟨rfl,rfl⟩,?_⟩
 rintro i w1 ⟨rfl,rfl⟩
 exact ⟨fun hlt=>by simp at hlt,fun _=>hR⟩
theorem stillObjects_e (h:w.cell? ((blk g).add 10)=some (.slice none 0 0)) {R:Bool→World→Prop} (hR:R true w):F.masonrybook_Book_stillObjects (some (blk g)) w R:=by
 apply E.masonrybook_Book_stillObjects
 unfold V.masonrybook_Book_stillObjects
 try simp -zeta only [ldC,soC,brC,bkA,slC,cnd_all,blk_add2,Nat.reduceAdd]
 refine ⟨fun i w'=>i=0∧w'=w,fun _ _=>0,⟨rfl,rfl⟩,?_⟩
 rintro i w1 ⟨rfl,rfl⟩
 exact ⟨⟨none,0,0⟩,h,fun hlt=>by simp at hlt,fun _=>hR⟩
theorem putObjects_e (h:w.cell? ((blk g).add 10)=some (.slice none 0 0)) {R:World→Prop} (hR:R w):F.masonrybook_Book_putObjects (some (blk g)) w R:=by
 apply E.masonrybook_Book_putObjects
 unfold V.masonrybook_Book_putObjects
 try simp -zeta only [ldC,soC,brC,bkA,slC,cnd_all,blk_add2,Nat.reduceAdd]
 refine ⟨fun i w'=>i=0∧w'=w,fun _ _=>0,⟨rfl,rfl⟩,?_⟩
 rintro i w1 ⟨rfl,rfl⟩
 exact ⟨⟨none,0,0⟩,h,fun hlt=>by simp at hlt,fun _=>hR⟩
theorem growObjects_e (h:w.cell? ((blk g).add 10)=some (.slice none 0 0)) {R:Sl→World→Prop} (hR:R ⟨none,0,0⟩ w):F.masonrybook_Book_growObjects (some (blk g)) w R:=by
 apply E.masonrybook_Book_growObjects
 unfold V.masonrybook_Book_growObjects
 try simp -zeta only [ldC,soC,brC,bkA,slC,cnd_all,blk_add2,Nat.reduceAdd]
 refine ⟨fun out i w'=>out=⟨none,0,0⟩∧i=0∧w'=w,fun _ _ _=>0,⟨rfl,rfl,rfl⟩,?_⟩
 rintro out i w1 ⟨rfl,rfl,rfl⟩
 exact ⟨⟨none,0,0⟩,h,fun hlt=>by simp at hlt,fun _=>hR⟩
theorem markedObjects_e {R:Bool→World→Prop} (hR:R true w):F.masonrybook_markedObjects ⟨none,0,0⟩ w R:=by
 apply E.masonrybook_markedObjects
 unfold V.masonrybook_markedObjects
 try simp -zeta only [ldC,soC,brC,bkA,slC,cnd_all,blk_add2,Nat.reduceAdd]
 refine ⟨fun i w'=>i=0∧w'=w,fun _ _=>0,⟨rfl,rfl⟩,?_⟩
 rintro i w1 ⟨rfl,rfl⟩
 exact ⟨fun hlt=>by simp at hlt,fun _=>hR⟩
theorem stillWrites_e (h:w.cell? ((blk g).add 12)=some (.slice none 0 0)) {R:Bool→World→Prop} (hR:R true w):F.masonrybook_Book_stillWrites (some (blk g)) w R:=by
 apply E.masonrybook_Book_stillWrites
 unfold V.masonrybook_Book_stillWrites
 try simp -zeta only [ldC,soC,brC,bkA,slC,cnd_all,blk_add2,Nat.reduceAdd]
 refine ⟨fun i w'=>i=0∧w'=w,fun _ _=>0,⟨rfl,rfl⟩,?_⟩
 rintro i w1 ⟨rfl,rfl⟩
 exact ⟨⟨none,0,0⟩,h,fun hlt=>by simp at hlt,fun _=>hR⟩
theorem putWrites_e (h:w.cell? ((blk g).add 12)=some (.slice none 0 0)) {R:World→Prop} (hR:R w):F.masonrybook_Book_putWrites (some (blk g)) w R:=by
 apply E.masonrybook_Book_putWrites
 unfold V.masonrybook_Book_putWrites
 try simp -zeta only [ldC,soC,brC,bkA,slC,cnd_all,blk_add2,Nat.reduceAdd]
 refine ⟨fun i w'=>i=0∧w'=w,fun _ _=>0,⟨rfl,rfl⟩,?_⟩
 rintro i w1 ⟨rfl,rfl⟩
 exact ⟨⟨none,0,0⟩,h,fun hlt=>by simp at hlt,fun _=>hR⟩
theorem growWrites_e (h:w.cell? ((blk g).add 12)=some (.slice none 0 0)) {R:Sl→World→Prop} (hR:R ⟨none,0,0⟩ w):F.masonrybook_Book_growWrites (some (blk g)) w R:=by
 apply E.masonrybook_Book_growWrites
 unfold V.masonrybook_Book_growWrites
 try simp -zeta only [ldC,soC,brC,bkA,slC,cnd_all,blk_add2,Nat.reduceAdd]
 refine ⟨fun out i w'=>out=⟨none,0,0⟩∧i=0∧w'=w,fun _ _ _=>0,⟨rfl,rfl,rfl⟩,?_⟩
 rintro out i w1 ⟨rfl,rfl,rfl⟩
 exact ⟨⟨none,0,0⟩,h,fun hlt=>by simp at hlt,fun _=>hR⟩
theorem markedWrites_e {R:Bool→World→Prop} (hR:R true w):F.masonrybook_markedWrites ⟨none,0,0⟩ w R:=by
 apply E.masonrybook_markedWrites
 unfold V.masonrybook_markedWrites
 try simp -zeta only [ldC,soC,brC,bkA,slC,cnd_all,blk_add2,Nat.reduceAdd]
 refine ⟨fun i w'=>i=0∧w'=w,fun _ _=>0,⟨rfl,rfl⟩,?_⟩
 rintro i w1 ⟨rfl,rfl⟩
 exact ⟨fun hlt=>by simp at hlt,fun _=>hR⟩
theorem stillSteps_e (h:w.cell? ((blk g).add 14)=some (.slice none 0 0)) {R:Bool→World→Prop} (hR:R true w):F.masonrybook_Book_stillSteps (some (blk g)) w R:=by
 apply E.masonrybook_Book_stillSteps
 unfold V.masonrybook_Book_stillSteps
 try simp -zeta only [ldC,soC,brC,bkA,slC,cnd_all,blk_add2,Nat.reduceAdd]
 refine ⟨fun i w'=>i=0∧w'=w,fun _ _=>0,⟨rfl,rfl⟩,?_⟩
 rintro i w1 ⟨rfl,rfl⟩
 exact ⟨⟨none,0,0⟩,h,fun hlt=>by simp at hlt,fun _=>hR⟩
theorem putSteps_e (h:w.cell? ((blk g).add 14)=some (.slice none 0 0)) {R:World→Prop} (hR:R w):F.masonrybook_Book_putSteps (some (blk g)) w R:=by
 apply E.masonrybook_Book_putSteps
 unfold V.masonrybook_Book_putSteps
 try simp -zeta only [ldC,soC,brC,bkA,slC,cnd_all,blk_add2,Nat.reduceAdd]
 refine ⟨fun i w'=>i=0∧w'=w,fun _ _=>0,⟨rfl,rfl⟩,?_⟩
 rintro i w1 ⟨rfl,rfl⟩
 exact ⟨⟨none,0,0⟩,h,fun hlt=>by simp at hlt,fun _=>hR⟩
theorem growSteps_e (h:w.cell? ((blk g).add 14)=some (.slice none 0 0)) {R:Sl→World→Prop} (hR:R ⟨none,0,0⟩ w):F.masonrybook_Book_growSteps (some (blk g)) w R:=by
 apply E.masonrybook_Book_growSteps
 unfold V.masonrybook_Book_growSteps
 try simp -zeta only [ldC,soC,brC,bkA,slC,cnd_all,blk_add2,Nat.reduceAdd]
 refine ⟨fun out i w'=>out=⟨none,0,0⟩∧i=0∧w'=w,fun _ _ _=>0,⟨rfl,rfl,rfl⟩,?_⟩
 rintro out i w1 ⟨rfl,rfl,rfl⟩
 exact ⟨⟨none,0,0⟩,h,fun hlt=>by simp at hlt,fun _=>hR⟩
theorem markedSteps_e {R:Bool→World→Prop} (hR:R true w):F.masonrybook_markedSteps ⟨none,0,0⟩ w R:=by
 apply E.masonrybook_markedSteps
 unfold V.masonrybook_markedSteps
 try simp -zeta only [ldC,soC,brC,bkA,slC,cnd_all,blk_add2,Nat.reduceAdd]
 refine ⟨fun i w'=>i=0∧w'=w,fun _ _=>0,⟨rfl,rfl⟩,?_⟩
 rintro i w1 ⟨rfl,rfl⟩
 exact ⟨fun hlt=>by simp at hlt,fun _=>hR⟩
end
section
variable {w:World} {X:List As} {g:Nat} {IL IW EL EW:Sl} {ki kv:List (Kq Int)} {ke kf:List (Kq Ey)}
/-- the book with what it keeps -/
abbrev bk9 (g:Nat) (IL IW:Sl) (ki kv:List (Kq Int)) (EL EW:Sl) (ke kf:List (Kq Ey)):List As:=
 [Cs g (bookC IL IW EL EW) T.y_masonrybook_Book,RowLI IL ki,RowLI IW kv,RsI ki,RsI kv,RowLE EL ke,RowLE EW kf,RsE ke,RsE kf]
theorem St.bkI:St w (bk9 g IL IW ki kv EL EW ke kf ++ X)↔St w (bk5I EL EW g IL IW ki kv ++ ([RowLE EL ke,RowLE EW kf,RsE ke,RsE kf] ++ X)):=Iff.rfl
theorem St.bkE:St w (bk9 g IL IW ki kv EL EW ke kf ++ X)↔St w (bk5E IL IW g EL EW ke kf ++ ([RowLI IL ki,RowLI IW kv,RsI ki,RsI kv] ++ X)):=by
 have p:(bk9 g IL IW ki kv EL EW ke kf ++ X).Perm (bk5E IL IW g EL EW ke kf ++ ([RowLI IL ki,RowLI IW kv,RsI ki,RsI kv] ++ X)):=by
   refine List.Perm.cons _ ?_
   show (([RowLI IL ki,RowLI IW kv,RsI ki,RsI kv] ++ [RowLE EL ke,RowLE EW kf,RsE ke,RsE kf]) ++ X).Perm (([RowLE EL ke,RowLE EW kf,RsE ke,RsE kf] ++ [RowLI IL ki,RowLI IW kv,RsI ki,RsI kv]) ++ X)
   exact List.Perm.append_right X List.perm_append_comm
 exact ⟨fun h=>St.perm h p,fun h=>St.perm h p.symm⟩
theorem St.book0 (h:St w (Cs g (bookC ⟨none,0,0⟩ ⟨none,0,0⟩ ⟨none,0,0⟩ ⟨none,0,0⟩) T.y_masonrybook_Book :: X)):St w (bk9 g ⟨none,0,0⟩ ⟨none,0,0⟩ [] [] ⟨none,0,0⟩ ⟨none,0,0⟩ [] [] ++ X):=by
 have h1:St w (Cs g (bookC ⟨none,0,0⟩ ⟨none,0,0⟩ ⟨none,0,0⟩ ⟨none,0,0⟩) T.y_masonrybook_Book :: RowLE ⟨none,0,0⟩ [] :: RowLE ⟨none,0,0⟩ [] :: RsE [] :: RsE [] :: X):=((Rows'.nil (En:=EE) (t:=T.y_api_Entry) (Rows'.nil (En:=EE) (t:=T.y_api_Entry) h)).row0 ESl T.y_sl_api_Entry |>.row0 ESl T.y_sl_api_Entry).up4
 exact ((Rows'.nil (En:=EI) (t:=T.y_int) (Rows'.nil (En:=EI) (t:=T.y_int) h1)).row0 ESl T.y_sl_int |>.row0 ESl T.y_sl_int).up4
/-- marks of each list -/
theorem mkd_all {α:Type} {f:Nat→Nat→α} {ks:List (Kq α)} (hz:∀ p∈ks,p.2.length≤100000):∀ (i:Nat) (p:Kq α),(mkd f ks ks.length)[i]? = some p→p.2.length≤100000∧p.2=mkN f i 0 p.2.length:=fun i p hp=>by
 obtain ⟨q,hq,rfl⟩:=mkd_get f hp
 have:=hz q (List.mem_of_getElem? hq)
 unfold mk1
 simp only [mkN_len]
 exact ⟨this,trivial⟩
theorem grL_has {α : Type} {En : Enc α} {t : TypeId} {f : Nat → Nat → α} {ks : List (Kq α)} {gs : List Sl} {Y : List As} (hn : 0 < En.n) (h : St w (As.all (grL En t f ks gs) :: Y)) {i : Nat} {p : Kq α} {q : Sl} (hp : ks[i]? = some p) (hq : gs[i]? = some q) :
   Has En w q (mkN f i 0 (p.2.length + 72))∧Has En w p.1 (mkN f i 0 p.2.length):=by
 obtain ⟨S,hS⟩:=St.amongs h (grL_get hp hq)
 exact GrA.has hn (St.one hS)
/-- the lists that grew -/
theorem grL_out {α:Type} {En:Enc α} {t:TypeId} {f:Nat→Nat→α} {ks:List (Kq α)} {gs:List Sl} {Y:List As} (hn:0 < En.n) (hl:gs.length=ks.length) (hz:∀ (i:Nat) (p:Kq α),ks[i]? = some p→p.2.length≤100000∧p.2=mkN f i 0 p.2.length) (h:St w (As.all (grL En t f ks gs) :: Y)) {i:Nat} {s:Sl} (hs:gs[i]? = some s):∃ n,n≤200000∧Has En w s (mkN f i 0 n):=by
 have hi:=(List.getElem?_eq_some_iff.1 hs).1
 obtain ⟨h5,_⟩:=grL_has hn h (List.getElem?_eq_getElem (by omega)) hs
 have:=(hz i _ (List.getElem?_eq_getElem (by omega))).1
 exact ⟨_,by omega,h5⟩
theorem grL_old {α:Type} {En:Enc α} {t:TypeId} {f:Nat→Nat→α} {ks:List (Kq α)} {gs:List Sl} {Y:List As} (hn:0 < En.n) (hl:gs.length=ks.length) (hz:∀ (i:Nat) (p:Kq α),ks[i]? = some p→p.2.length≤100000∧p.2=mkN f i 0 p.2.length) (h:St w (As.all (grL En t f ks gs) :: Y)) {i:Nat} {s:Sl} (hs:(fstQ ks)[i]? = some s):∃ n,n≤200000∧Has En w s (mkN f i 0 n):=by
 have hi:=(List.getElem?_eq_some_iff.1 hs).1
 rw [fstQ_len] at hi
 obtain ⟨_,h6⟩:=grL_has hn h (List.getElem?_eq_getElem hi) (List.getElem?_eq_getElem (by omega:i < gs.length))
 have:=(hz i _ (List.getElem?_eq_getElem hi)).1
 have e:s=(ks[i]).1:=by
   unfold fstQ at hs
   rw [List.getElem?_map,List.getElem?_eq_getElem hi] at hs
   simpa using hs.symm
 rw [← e] at h6
 exact ⟨_,by omega,h6⟩
set_option maxHeartbeats 2000000 in
theorem Apart_st (h : St w (bk9 g IL IW ki kv EL EW ke kf ++ X)) (hi : ki.length ≤ 250) (he : ke.length ≤ 250) (hiv : kv.map (·.2) = ki.map (·.2)) (hef : kf.map (·.2) = ke.map (·.2)) (hzi : ∀ p ∈ ki, p.2.length ≤ 100000) (hze : ∀ p ∈ ke, p.2.length ≤ 100000) {R : Bool → World → Prop}
   (hR:∀ w',St w' X→R true w'):F.masonrybook_Book_Apart (some (blk g)) w R:=by
 apply E.masonrybook_Book_Apart
 unfold V.masonrybook_Book_Apart
 try simp -zeta only [ldC,soC,brC,bkA,slC,cnd_all,blk_add2,Nat.reduceAdd]
 have nt:∀ {P:Prop},(true=false→P):=fun h=>(by cases h)
 refine stillTexts_e h.cell0 ⟨nt,fun _=>?_⟩
 refine stillI_st (St.bkI.1 h) hi hiv (fun p hp=>by have:=hzi p hp; omega) fun w1 h1=>⟨nt,fun _=>?_⟩
 refine stillSpans_e (h1.cell 4) ⟨nt,fun _=>?_⟩
 refine stillPieces_e (h1.cell 6) ⟨nt,fun _=>?_⟩
 refine stillE_st (St.bkE.1 (St.bkI.2 h1)) he hef (fun p hp=>by have:=hze p hp; omega) fun w2 h2=>⟨nt,fun _=>?_⟩
 refine stillObjects_e (h2.cell 10) ⟨nt,fun _=>?_⟩
 refine stillWrites_e (h2.cell 12) ⟨nt,fun _=>?_⟩
 refine stillSteps_e (h2.cell 14) ⟨nt,fun _=>?_⟩
 refine putSteps_e (h2.cell 14) (putTexts_e h2.cell0 ?_)
 refine putI_st (St.bkI.1 (St.bkE.2 h2)) hi (fun p hp=>by have:=hzi p hp; omega) fun w3 h3=>?_
 refine putSpans_e (h3.cell 4) (putPieces_e (h3.cell 6) ?_)
 refine putE_st (St.bkE.1 (St.bkI.2 h3)) he (fun p hp=>by have:=hze p hp; omega) fun w4 h4=>?_
 refine putObjects_e (h4.cell 10) (putWrites_e (h4.cell 12) (growTexts_e h4.cell0 ?_))
 have zi:=mkd_all (f:=mkI) hzi
 have ze:=mkd_all (f:=mkE) hze
 generalize hki:mkd mkI ki ki.length=KI at *
 generalize hke:mkd mkE ke ke.length=KE at *
 have li:KI.length=ki.length:=by rw [← hki,mkd_len]
 have le:KE.length=ke.length:=by rw [← hke,mkd_len]
 refine growI_st (St.bkI.1 (St.bkE.2 h4)) (by omega) zi fun oi gi w5 hgi h5=>?_
 -- Cs, IL, IW, out, grown; EL EW KE KF
 have h5:St w5 (Cs g (bookC IL IW EL EW) T.y_masonrybook_Book :: RowLI IL KI :: RowLI IW kv :: Row ESl T.y_sl_int oi gi :: As.all (grL EI T.y_int mkI KI gi) :: RowLE EL KE :: RowLE EW kf :: RsE KE :: RsE kf :: X):=h5
 refine growSpans_e (h5.cell 4) (growPieces_e (h5.cell 6) ?_)
 have p:∀ {A I1 I2 I3 I4 E1 E2 E3 E4:As},(A :: I1 :: I2 :: I3 :: I4 :: E1 :: E2 :: E3 :: E4 :: X).Perm (A :: E1 :: E2 :: E3 :: E4 :: I1 :: I2 :: I3 :: I4 :: X):=fun {A I1 I2 I3 I4 E1 E2 E3 E4}=>by
   refine List.Perm.cons _ ?_
   show (([I1,I2,I3,I4] ++ [E1,E2,E3,E4]) ++ X).Perm (([E1,E2,E3,E4] ++ [I1,I2,I3,I4]) ++ X)
   exact List.Perm.append_right X List.perm_append_comm
 refine growE_st (X:=RowLI IL KI :: RowLI IW kv :: Row ESl T.y_sl_int oi gi :: As.all (grL EI T.y_int mkI KI gi) :: X) (St.perm h5 p) (by omega) ze fun oe ge w6 hge h6=>?_
 have h6:St w6 (Cs g (bookC IL IW EL EW) T.y_masonrybook_Book :: RowLE EL KE :: RowLE EW kf :: Row ESl T.y_sl_api_Entry oe ge :: As.all (grL EE T.y_api_Entry mkE KE ge) :: RowLI IL KI :: RowLI IW kv :: Row ESl T.y_sl_int oi gi :: As.all (grL EI T.y_int mkI KI gi) :: X):=h6
 have h6:=St.perm h6 p
 refine growObjects_e (h6.cell 10) (growWrites_e (h6.cell 12) (growSteps_e (h6.cell 14) ?_))
 refine markedTexts_e ⟨fun _=>⟨⟨none,0,0⟩,h6.cell0,markedTexts_e ⟨fun _=>?_,nt⟩⟩,nt⟩
 refine markedI_st h6 (ss:=gi) (fun w' hw=>hw.up3.has (by decide)) (by omega) (fun w' hw i s hs=>grL_out (by decide) hgi zi hw.up4 hs) fun w7 h7=>⟨fun _=>⟨IL,h7.cell 2,?_⟩,nt⟩
 refine markedI_st h7 (ss:=fstQ KI) (fun w' hw=>hw.sw.has (by decide)) (by rw [fstQ_len]; omega) (fun w' hw i s hs=>grL_old (by decide) hgi zi hw.up4 hs) fun w8 h8=>⟨fun _=>?_,nt⟩
 refine markedSpans_e ⟨fun _=>⟨⟨none,0,0⟩,h8.cell 4,markedSpans_e ⟨fun _=>?_,nt⟩⟩,nt⟩
 refine markedPieces_e ⟨fun _=>⟨⟨none,0,0⟩,h8.cell 6,markedPieces_e ⟨fun _=>?_,nt⟩⟩,nt⟩
 have h8:=St.perm h8 p
 refine markedE_st h8 (ss:=ge) (fun w' hw=>hw.up3.has (by decide)) (by omega) (fun w' hw i s hs=>grL_out (by decide) hge ze hw.up4 hs) fun w9 h9=>⟨fun _=>⟨EL,h9.cell 8,?_⟩,nt⟩
 refine markedE_st h9 (ss:=fstQ KE) (fun w' hw=>hw.sw.has (by decide)) (by rw [fstQ_len]; omega) (fun w' hw i s hs=>grL_old (by decide) hge ze hw.up4 hs) fun w10 h10=>⟨fun _=>?_,nt⟩
 refine markedObjects_e ⟨fun _=>⟨⟨none,0,0⟩,h10.cell 10,markedObjects_e ⟨fun _=>?_,nt⟩⟩,nt⟩
 refine markedWrites_e ⟨fun _=>⟨⟨none,0,0⟩,h10.cell 12,markedWrites_e ⟨fun _=>?_,nt⟩⟩,nt⟩
 refine markedSteps_e ⟨fun _=>⟨⟨none,0,0⟩,h10.cell 14,markedSteps_e ?_⟩,nt⟩
 exact hR _ h10.drop.drop.drop.drop.drop.drop.drop.drop.drop
end
end Go.Proofs.YtgacpkgaogiocaaGreatDoor
