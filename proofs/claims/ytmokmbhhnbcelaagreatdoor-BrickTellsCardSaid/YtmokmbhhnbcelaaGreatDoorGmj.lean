/- which Rooms lay alike; what is on a desk behind a Sync; masonrylaw11.alive. -/
import Derived.Test.YtmokmbhhnbcelaaGreatDoorShelg
import Derived.Test.YtmokmbhhnbcelaaGreatDoorGi
import Derived.Test.YtmokmbhhnbcelaaGreatDoorBa
import Derived.OpenShut
import Derived.Test.YtmokmbhhnbcelaaGreatDoorRows
set_option linter.unusedVariables false
namespace Go.Proofs.YtmokmbhhnbcelaaGreatDoor
open Go Go.Vc Go.RowKit Go.Lib Go.Maps Go.Proofs
theorem normW_nil {ws : List Wr1} : normW ws = [] ↔ ws = [] := by
 constructor
 · intro h
   cases ws with
   | nil => rfl
   | cons p r =>
     have h1 : p.1 ∈ nextT (keysW (p :: r)) := by rw [(nextT_up _).2]; simp [keysW]
     have h2 := congrArg List.length h
     rw [normW_len] at h2
     simp only [List.length_nil] at h2
     rw [List.eq_nil_of_length_eq_zero h2] at h1
     cases h1
 · intro h
   subst h
   have : (normW []).length ≤ 0 := by rw [normW_len]; exact nextT_len _
   exact List.eq_nil_of_length_eq_zero (Nat.le_zero.1 this)
theorem fmt_room {d : Ds} {seq : Int} (hq : Quiet d seq) (hs : 0 ≤ seq ∧ seq ≤ 1000000) : homeAt (fmtD d seq (d.l.length - 111)).d 1 = layRoom (bs0 (d.l.length - 111)) := by
 have hlo := hq.lo
 obtain ⟨q1, q2, q3, q4⟩ := commit_facts hq hs.1 (by omega) (fmt_lastE hq)
 show homeAt (commitD d seq (fmtW (d.l.length - 111))) 1 = _
 rw [q4 1 (by omega), if_pos (by simp [fmtW, keysW])]
 simp [lastW, fmtW]
end Go.Proofs.YtmokmbhhnbcelaaGreatDoor

/- BrickTells: the walk. -/
set_option linter.unusedVariables false
namespace Go.Proofs.YtmokmbhhnbcelaaGreatDoor
open Go Go.Vc Go.RowKit Go.Lib
theorem fmt0_clean_g {n : Nat} (h1 : 140 ≤ n) (h2 : n ≤ 2000) : written (fmt0 n) = [] := by
 have hr := fmt_room (Quiet.new h1 h2) (by decide)
 have e : (newD n).l.length = n := List.length_replicate
 rw [e] at hr
 have hb : (fmt0 n).bs = bs0 (n - 111) := fmt0_bs
 have hw : (fmt0 n).ws = [] := rfl
 unfold written
 rw [hb, hw, if_pos (show homeAt (fmt0 n).d 1 = _ from hr)]
 exact normW_nil.2 rfl
section
variable {w : World} {X : List As}
set_option maxHeartbeats 2000000 in
theorem BrickTells_st (h : St w X) {gen by_ : Int} {sl : Sl} {l : List Bs} (hx : ∀ w', St w' X → Has ET w' sl l) (hnl : NilOk sl) {R : Bool → World → Prop} (hR : ∀ w', St w' X → R true w') : F.masonrylaw16_BrickTells gen sl by_ w R := by
 apply E.masonrylaw16_BrickTells
 unfold V.masonrylaw16_BrickTells
 try simp (config := { zeta := false }) only [cnd_all, Nat.reduceAdd]
 simp -zeta only [add_add, Nat.reduceAdd]
 refine ⟨fun b w' => St w' X ∧ (b = false → l.length ≤ 12 ∧ (joinB l).length ≤ 400), Short_st h hx (few := 12) (room := 400) (by decide) (by decide) fun b w1 hb h1 => ⟨fun e => ⟨h1, fun h => (by cases h)⟩, fun e => alive16_st h1 fun w2 h2 => ⟨h2, fun _ => hb e⟩⟩, ?_⟩
 rintro b w1 ⟨h1, hb⟩
 refine ⟨fun _ => alive16_st h1 hR, fun hbf => ?_⟩
 obtain ⟨hl12, hj⟩ := hb hbf
 have hf : freeN (fmt0 150).bs = 37 := by rw [fmt0_bs, freeN_bs0 (by decide)]
 have hs := tx_size (joinB l)
 refine Fresh_st h1 (n := 150) (by decide) (by decide) fun k g w2 h2 => ⟨fun h => (by cases h), fun _ => ?_⟩
 have hH := Have.fmt (n := 150) (by decide) (by decide)
 refine Join_book h2 (fun w' hw => hx w' hw.drop) (by omega) (by omega) fun w3 h3 => ?_
 refine LentT_st h3 (hx _ h3.drop) hnl (by omega) fun la lc w4 h4 => ?_
 have hpre : Has ET w4 ⟨la, l.length, lc⟩ l := by
   have hh : Has ET w4 ⟨la, l.length + 1, lc⟩ (l ++ [markB]) := h4.has (by decide)
   exact Has.pre (sl := ⟨la, l.length, lc⟩) hh rfl rfl
 have hcap := Row.cap h4
 simp only at hcap
 have hsp : ∀ a, la = some a → a.spot = none ∧ a.block < w4.heap.size := fun a ha => by
   obtain ⟨g1, _, hg1, hg2, _⟩ := Own.row h4.own (by show l.length + 1 ≠ 0; omega)
   have hg1 : la = some (blk g1) := hg1
   rw [hg1] at ha
   injection ha with ha
   subst ha
   exact ⟨rfl, heap_lt hg2⟩
 refine Put_brick h4.sw hH (l := l) hpre hsp (by show l.length ≤ lc; omega) (by omega) (by omega) (by decide) (fun w5 hno h5 => ?_) (fun w5 hlt _ => by omega) fun w5 D e' hg l1 l2 x1 x2 x3 x4 hok hfr hH' h5 => ?_
 · -- refused
   refine StaysT_st h5.sw (fun w' hw => hx w' hw.drop) (by omega) fun w6 h6 => ⟨fun h => (by cases h), fun _ => ?_⟩
   refine ⟨fun v w' => w' = w6 ∧ v = true, ⟨fun _ => ⟨rfl, rfl⟩, fun c1 => ⟨fun _ => ⟨rfl, rfl⟩, fun c2 => ⟨fun _ => ⟨rfl, rfl⟩, fun c3 => ⟨rfl, ?_⟩⟩⟩⟩, ?_⟩
   · rw [decide_eq_true_eq]
     exact Int.not_le.1 fun hle => hno ⟨⟨by omega, by omega⟩, by omega, by omega⟩
   rintro v w7 ⟨rfl, rfl⟩
   refine ⟨fun _ => ⟨fun _ => ⟨fun _ => ?_, fun h => absurd rfl h⟩, fun h => absurd rfl h⟩, fun h => (by cases h)⟩
   refine Dirty_st h6.sw (by decide) fun dl w9 h9 => ?_
   have hdl := (h9.has (by decide)).1
   rw [fmt0_clean_g (by decide) (by decide)] at hdl
   have : dl.len = 0 := hdl
   rw [this]
   exact hR _ h9.drop.drop.drop
 -- put
 have hkk := kindG_ok hg
 have x5 : e'.x.data.drop 33 = joinB l := by rw [x4]; exact (brB_take hg _).2.2
 have hH2 : Have D ([] ++ e' :: []) := hH'
 have hbl0 : D.bs.length = 39 := by
   have := hH'.free
   rw [allP_app] at this
   have h2 : (allP [e']).length = e'.n := by rw [allP_cons]; simp [allP, Ent.ps_len]
   rw [List.length_append, h2] at this
   have h3 : e'.n = 1 := by
     unfold Ent.n
     rw [x4]
     exact needN_one (by rw [(brB_take hg _).1]; omega)
   have h4 : (allP ([] : List Ent)).length = 0 := rfl
   omega
 refine StaysT_st h5.sw (fun w' hw => hx w' hw.drop) (by omega) fun w6 h6 => ⟨fun h => (by cases h), fun _ => ?_⟩
 refine ⟨fun v w' => w' = w6 ∧ v = false, ⟨fun c => absurd c (by omega), fun c1 => ⟨fun c => absurd c (by omega), fun c2 => ⟨fun c => absurd c (by omega), fun c3 => ⟨rfl, by rw [decide_eq_false_iff_not]; omega⟩⟩⟩⟩, ?_⟩
 rintro v w7 ⟨rfl, rfl⟩
 refine ⟨fun h => (by cases h), fun _ => ?_⟩
 refine ⟨fun kd w' => w' = w7 ∧ kd = (kindG gen : Int), ⟨fun e => ⟨rfl, by rw [e]; rfl⟩, fun e => ⟨rfl, ?_⟩⟩, ?_⟩
 · unfold kindG
   rw [if_neg e, if_pos (by omega)]; rfl
 rintro kd w8 ⟨rfl, rfl⟩
 refine Get_brick h6.sw hH' (by simp) (fun _ hno _ => absurd hok hno) fun w9 _ h9 => ?_
 rw [x5, x1, x3]
 intro wa1
 replace h9 : St wa1 (Cs _ _ _ :: _) := h9.new _ _
 clear_value wa1
 refine ⟨h9.wr0 (by simp), ?_⟩
 intro wa2
 replace h9 : St wa2 _ := h9.set0 _
 clear_value wa2
 refine ⟨h9.wr (by simp), ?_⟩
 intro wa3
 replace h9 : St wa3 _ := h9.set 1 _
 clear_value wa3
 refine ⟨h9.wr (by simp), ?_⟩
 intro wa4
 replace h9 : St wa4 _ := h9.set 2 _
 clear_value wa4
 refine ⟨h9.wr (by simp), ?_⟩
 intro wa5
 replace h9 : St wa5 _ := h9.set 3 _
 clear_value wa5
 refine ⟨h9.wr (by simp), ?_⟩
 intro wa6
 replace h9 : St wa6 _ := h9.set 4 _
 clear_value wa6
 simp only [List.set_cons_zero, List.set_cons_succ] at h9
 generalize w9.heap.size = y1 at *
 refine Get_E h9.sw hH' (by simp) fun w10 h10 => ?_
 intro wa7
 replace h10 : St wa7 (Cs _ _ _ :: _) := h10.new _ _
 clear_value wa7
 refine ⟨h10.wr0 (by simp), ?_⟩
 intro wa8
 replace h10 : St wa8 _ := h10.set0 _
 clear_value wa8
 refine ⟨h10.wr (by simp), ?_⟩
 intro wa9
 replace h10 : St wa9 _ := h10.set 1 _
 clear_value wa9
 refine ⟨h10.wr (by simp), ?_⟩
 intro wa10
 replace h10 : St wa10 _ := h10.set 2 _
 clear_value wa10
 refine ⟨h10.wr (by simp), ?_⟩
 intro wa11
 replace h10 : St wa11 _ := h10.set 3 _
 clear_value wa11
 simp only [List.set_cons_zero, List.set_cons_succ] at h10
 generalize w10.heap.size = y2 at *
 generalize hsm : sumK (kindG gen) (joinB l) = sm at *
 have hsl : sm.length = szN (kindG gen) := by rw [← hsm]; exact sumK_len hkk _
 have hzz := szN_le (kindG gen)
 generalize hLR : Row ET T.y_string ⟨la, l.length + 1, lc⟩ (l ++ [markB]) = LR at *
 refine ⟨fun v w' => v = false ∧ St w' (Cs y1 [.int .i64 gen, .int .i64 1, .int .i64 (kindG gen : Int), .string (tx sm), .string (tx (joinB l))] T.y_brick_Brick :: DeskS k g (1001 + 40) D :: LR :: X), ?_, ?_⟩
 · intro wa12
   replace h10 : St wa12 _ := h10.drew
   clear_value wa12
   have q := h10.up2
   refine ⟨fun e => absurd rfl e, fun _ => ⟨fun e => absurd rfl e, fun _ => ⟨_, q.cell0, _, q.cell 1, _, q.cell 2, _, q.cell 3, _, q.cell 4, ?_⟩⟩⟩
   refine RefPrint_st q hkk (s := joinB l) (by omega) fun w11 h11 => ⟨h11.cell0, h11.cell 1, h11.cell 2, h11.cell 3, h11.cell 4, fun e => ?_, fun _ => ⟨fun e => absurd rfl e, fun _ => ⟨_, h11.sw.cell 3, _, h11.cell 2, _, h11.cell 3, ?_⟩⟩⟩
   · rw [hsm, tx_eq, tx_eq] at e
     simp at e
   refine RefLayP_st h11 (by omega) (by omega) fun w12 h12 => ⟨h12.sw.cell 3, h12.cell0, h12.cell 1, h12.cell 2, h12.cell 3, h12.cell 4, by rw [tx_size, tx_size, layPr_len (by omega)]; omega, fun e => ?_, fun _ => ⟨_, h12.sw.cell 1, fun e => absurd x2 e, fun _ => Kind_st ⟨h12.sw.cell 1, h12.sw.cell 3, h12.cell0, h12.cell 1, h12.cell 2, h12.cell 3, h12.cell 4, ?_, h12.d2⟩⟩⟩
   · have e9 : brB gen (joinB l) = layPr (kindG gen) sm ++ joinB l := by unfold brB; rw [hsm]
     rw [tx_app, tx_eq, x4, e9, decide_eq_true rfl] at e
     cases e
   · simp
 rintro v w11 ⟨rfl, h11⟩
 refine ⟨fun h => (by cases h), fun _ => ?_⟩
 refine F.brick_Use_mono (R := fun n n1 w' => ((n1 = 15 ∧ n = 0 ∧ (by_ < -1 ∨ 59999 < by_)) ∨ (n1 = 0 ∧ n = 1 + by_ ∧ -1 ≤ by_ ∧ by_ ≤ 59999)) ∧ ∃ D' e2 c', Have D' ([] ++ e2 :: []) ∧ e2.x.at_ = e'.x.at_ ∧ BrOk e2.x ∧ e2.x.refs = (if n1 = 0 then n else 1) ∧ e2.x.data.drop 33 = joinB l ∧ D'.bs.length = 39 ∧ St w' (DeskS k g c' D' :: Cs y1 [.int .i64 gen, .int .i64 1, .int .i64 (kindG gen : Int), .string (tx sm), .string (tx (joinB l))] T.y_brick_Brick :: LR :: X)) ?_ ?_
 · refine Use_brick (a := []) (b := []) h11.sw hH2 (by decide) (fun _ hno _ => absurd hok hno) (fun w14 _ hbad h17 => ⟨.inl ⟨rfl, rfl, by omega⟩, D, e', _, hH2, rfl, hok, by rw [if_neg (by decide)]; exact x3, x5, hbl0, h17⟩) fun w14 D' _ hlo hhi hbs hH3 h17 => ⟨.inr ⟨rfl, by rw [x3], by omega, by omega⟩, D', _, _, hH3, rfl, hok, by rw [if_pos rfl]; rfl, x5, by rw [hbs]; exact hbl0, h17⟩
 rintro n n1 w14 ⟨hor, D2, e5, c5, hH5, hat, hok5, hrf5, hd5, hbl5, h17⟩
 refine ⟨fun n w' => w' = w14 ∧ n = e5.x.refs, ⟨fun v w' => w' = w14 ∧ v = decide (by_ < -1 ∨ 59999 < by_), ⟨fun h => ⟨rfl, by rw [eq_comm, decide_eq_true_iff]; omega⟩, fun h => ⟨rfl, by rw [Bool.eq_iff_iff, decide_eq_true_iff, decide_eq_true_iff]; omega⟩⟩, ?_⟩, ?_⟩
 · rintro v w15 ⟨rfl, rfl⟩
   refine ⟨fun hv => ?_, fun hv => ?_⟩
   · have hv := of_decide_eq_true hv
     rcases hor with ⟨r1, r2, _⟩ | ⟨_, _, r3, r4⟩
     · subst r1 r2
       rw [if_neg (by decide)] at hrf5
       refine ⟨fun v w' => w' = w15 ∧ v = false, ⟨fun h => absurd rfl h, fun _ => ⟨rfl, rfl⟩⟩, ?_⟩
       rintro v w16 ⟨rfl, rfl⟩
       exact ⟨fun h => (by cases h), fun _ => ⟨rfl, hrf5.symm⟩⟩
     · omega
   · have hv := of_decide_eq_false hv
     rcases hor with ⟨_, _, r3⟩ | ⟨r1, r2, r3, r4⟩
     · omega
     · subst r1 r2
       rw [if_pos rfl] at hrf5
       have e6 : w64 (1 + by_) = 1 + by_ := w64_id (by omega) (by omega)
       refine ⟨fun v w' => w' = w15 ∧ v = false, ⟨fun h => absurd rfl h, fun _ => ⟨rfl, by rw [e6]; simp⟩⟩, ?_⟩
       rintro v w16 ⟨rfl, rfl⟩
       exact ⟨fun h => (by cases h), fun _ => ⟨rfl, hrf5.symm⟩⟩
 rintro n2 w15 ⟨rfl, rfl⟩
 rw [← hat]
 refine Get_brick h17 hH5 (by simp) (fun _ hno _ => absurd hok5 hno) fun w16 _ h18 => ?_
 rw [hd5]
 have h18 := h18.sw
 refine ⟨h18.wr0 (by simp), ?_⟩
 intro wa13
 replace h18 : St wa13 _ := h18.set0 _
 clear_value wa13
 refine ⟨h18.wr (by simp), ?_⟩
 intro wa14
 replace h18 : St wa14 _ := h18.set 1 _
 clear_value wa14
 refine ⟨h18.wr (by simp), ?_⟩
 intro wa15
 replace h18 : St wa15 _ := h18.set 2 _
 clear_value wa15
 refine ⟨h18.wr (by simp), ?_⟩
 intro wa16
 replace h18 : St wa16 _ := h18.set 3 _
 clear_value wa16
 refine ⟨h18.wr (by simp), ?_⟩
 intro wa17
 replace h18 : St wa17 _ := h18.set 4 _
 clear_value wa17
 simp only [List.set_cons_zero, List.set_cons_succ] at h18
 refine ⟨fun _ => ⟨_, h18.cell 1, fun _ => ⟨_, h18.cell 4, fun _ => ?_, fun e => ?_⟩, fun e => absurd rfl e⟩, fun e => absurd rfl e⟩
 · refine Drop_brick (a := []) (b := []) h18.sw hH5 (fun _ hno _ => absurd hok5 hno) fun w17 _ hH6 h19 => ⟨fun _ => ?_, fun h => absurd rfl h⟩
   have hfr6 := hH6.free
   have hal6 : (allL (dropD D2 e5.ps).bs (dropD D2 e5.ps).bs.length).length = 2 := by
     have h2 := nextT_nd hH6.nd
     have h3 : (allP ([] ++ [] : List Ent)).length = 0 := rfl
     rw [hH6.all]
     simp only [List.length_cons]; omega
   have hbl6 : (dropD D2 e5.ps).bs.length = 39 := by show (giveL D2.bs e5.ps).length = 39; rw [giveL_len]; exact hbl5
   refine Room_st h19 fun r1 w18 h20 => ⟨fun _ => Room_st h20.sw fun r2 w19 h21 => Free_st h21 (by omega) fun w20 h22 => ?_, fun h => (by cases h)⟩
   rw [hal6, hbl6]
   exact hR _ h22.drop.drop.drop.drop.drop
 · rw [tx_eq, decide_eq_true rfl] at e
   cases e
end
end Go.Proofs.YtmokmbhhnbcelaaGreatDoor

/- What a typed reading of the handed values meets, told by the words of what lies where. -/
set_option linter.unusedVariables false
namespace Go.Proofs.YtmokmbhhnbcelaaGreatDoor
open Go Go.Vc Go.RowKit Go.Lib
/-- whatever is read as of this type is laid as that -/
def Reads (P : Program) (t : TypeId) {α : Type} (En : Enc α) (Q : World → α → Prop) : Prop :=
 ∀ (H : Type) (enc : TypeId × Value → H) (W : World) (fuel : Nat) (cs : List Value) (x : DataW H × List MemPlace), DataW.trod enc P W 0 (fun _ => true) true fuel t cs = some x → ∃ v, cs = En.cells v ∧ Q W v
def ES (α : Type) : Enc (Sl × List α) := ⟨fun v => [slV v.1], 1, fun _ => rfl, fun _ u hu => by simp at hu; subst hu; rfl⟩
def EU : Enc Unit := ⟨fun _ => [], 0, fun _ => rfl, fun _ u hu => by cases hu⟩
def EP {α β : Type} (A : Enc α) (B : Enc β) : Enc (α × β) := ⟨fun v => A.cells v.1 ++ B.cells v.2, A.n + B.n, fun v => by rw [List.length_append, A.len, B.len], fun v u hu => by
 rcases List.mem_append.1 hu with h | h
 · exact A.one _ u h
 · exact B.one _ u h⟩
abbrev QS {α : Type} (En : Enc α) (Q : World → α → Prop) : World → Sl × List α → Prop := fun W v => Has En W v.1 v.2 ∧ NilOk v.1 ∧ v.1.len ≤ v.1.cap ∧ v.1.cap ≤ maxLen ∧ ∀ x ∈ v.2, Q W x
section
variable {P : Program}
theorem reads_str {t : TypeId} (hu : P.underlying t = some .string) : Reads P t ET fun _ _ => True := fun H enc W fuel cs x h => by
 obtain ⟨s, rfl, _⟩ := DataW.trod_string hu h
 exact ⟨s.data.toList, by show _ = [Value.string (tx _)]; rw [tx_self], trivial⟩
theorem reads_slice {t e : TypeId} {α : Type} [Nonempty α] {En : Enc α} {Q : World → α → Prop} (hu : P.underlying t = some (.slice e)) (hc : P.cellsOf e = En.n) (he : Reads P e En Q) :
   Reads P t (ES α) (QS En Q) := fun H enc W fuel cs x h => by
 rcases DataW.trod_slice hu h with ⟨hcs, _⟩ | ⟨ad, len, c, elems, rest, n, _, hcs, _, _, hlc, hcm, hel, hi, _⟩
 · subst hcs
   exact ⟨(⟨none, 0, 0⟩, []), rfl, Has.nil, fun _ => rfl, Nat.le_refl _, Nat.zero_le _, fun x hx => by cases hx⟩
 · have hx : ∀ i, ∃ x : α, i < len → (∀ k u, (En.cells x)[k]? = some u → W.cell? (ad.add (i * En.n + k)) = some u) ∧ Q W x := by
     intro i
     by_cases hil : i < len
     · have h1 := hi i hil
       rw [hc, List.getElem?_eq_getElem (by omega)] at h1
       obtain ⟨cs', hcc, ht⟩ := Option.bind_eq_some_iff.1 h1
       obtain ⟨v, rfl, hq⟩ := he _ _ _ _ _ _ ht
       obtain ⟨_, hcl, hat⟩ := World.cells?_some hcc
       refine ⟨v, fun _ => ⟨fun k u hk => ?_, hq⟩⟩
       have hk2 := (List.getElem?_eq_some_iff.1 hk).1
       rw [En.len] at hk2
       have := hat k hk2
       rw [Vc.addr_add] at this
       rw [this]; exact hk
     · obtain ⟨y⟩ := ‹Nonempty α›
       exact ⟨y, fun h => absurd h hil⟩
   obtain ⟨f, hf⟩ := Classical.axiomOfChoice hx
   refine ⟨(⟨some ad, len, c⟩, (List.range len).map f), hcs, ⟨by simp, fun j x hj => ?_⟩, fun h => (by cases h), hlc, hcm, fun x hx => ?_⟩
   · have hlt : j < len := by have := (List.getElem?_eq_some_iff.1 hj).1; simpa using this
     simp [hlt] at hj
     subst hj
     exact ⟨ad, rfl, (hf j hlt).1⟩
   · simp only [List.mem_map, List.mem_range] at hx
     obtain ⟨j, hj, rfl⟩ := hx
     exact (hf j hj).2
/-- fields, from an offset on -/
inductive RdF (P : Program) : Nat → List Field → {α : Type} → Enc α → (World → α → Prop) → Prop where
 | nil {off} : RdF P off [] EU fun _ _ => True
 | cons {off : Nat} {f : Field} {fs : List Field} {α β : Type} {A : Enc α} {B : Enc β} {Q : World → α → Prop} {Q' : World → β → Prop} (ho : f.offset = off) (hc : P.cellsOf f.type = A.n) (h : Reads P f.type A Q) (r : RdF P (off + A.n) fs B Q') :
     RdF P off (f :: fs) (EP A B) fun W v => Q W v.1 ∧ Q' W v.2
theorem Reads.to {t : TypeId} {α β : Type} {A : Enc α} {B : Enc β} {Q : World → α → Prop} {Q' : World → β → Prop} (h : Reads P t A Q) (f : α → β) (hf : ∀ x, A.cells x = B.cells (f x)) (hq : ∀ W x, Q W x → Q' W (f x)) : Reads P t B Q' := fun H enc W fuel cs x hx => by
 obtain ⟨v, hv, q⟩ := h _ _ _ _ _ _ hx
 exact ⟨f v, by rw [hv, hf], hq _ _ q⟩
/-- a slice that came in -/
theorem Reads.slice {t : TypeId} {α : Type} {Q : World → Sl × List α → Prop} (hr : Reads P t (ES α) Q) {H : Type} {enc : TypeId × Value → H} {W : World} {a : Option Addr} {len cap : Nat} {d : DataW H} {p : List MemPlace} (h : DataW.Trod enc P W 0 (fun _ => true) true t (.slice a len cap) d p) : ∃ xs, Q W (⟨a, len, cap⟩, xs) := by
 obtain ⟨fuel, hf⟩ := h
 obtain ⟨⟨s, xs⟩, hcs, hq⟩ := hr _ _ _ _ _ _ hf
 have e : (⟨a, len, cap⟩ : Sl) = s := by
   have h3 : [Value.slice a len cap] = [.slice s.a s.len s.cap] := hcs
   simp only [List.cons.injEq, Value.slice.injEq, and_true] at h3
   obtain ⟨rfl, rfl, rfl⟩ := h3
   rfl
 exact ⟨xs, by rw [e]; exact hq⟩
end
end Go.Proofs.YtmokmbhhnbcelaaGreatDoor

/- BrickTells: its walk, and the readings. -/
set_option linter.unusedVariables false
namespace Go.Proofs.YtmokmbhhnbcelaaGreatDoor
open Go Go.Vc Go.RowKit Go.Lib
abbrev TxsN (w : World) (l : Sl) (xs : List Bs) : Prop := Has ET w l xs ∧ NilOk l
theorem rd_txsN : Reads Tryz.prog 100 (ES Bs) fun W v => TxsN W v.1 v.2 := (reads_slice Tryz.underlying100 (by kernel_rfl) (reads_str Tryz.underlying9)).to id (fun _ => rfl) fun W v h => ⟨h.1, h.2.1⟩
theorem BrickTells_spec {w : World} {gen by_ : Int} {l : Sl} {lZ : List Bs} (hl : TxsN w l lZ) {R : Bool → World → Prop} (hR : ∀ w', Below w.heap.size w w' → R true w') : F.masonrylaw16_BrickTells gen l by_ w R :=
 BrickTells_st (St.start w) (fun w' h => hl.1.fr (fr_below (St.old h))) hl.2 fun w' h => hR w' (St.old h)
end Go.Proofs.YtmokmbhhnbcelaaGreatDoor
