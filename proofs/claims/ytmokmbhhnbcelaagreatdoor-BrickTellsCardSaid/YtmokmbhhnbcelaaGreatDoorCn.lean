/- chain: link.lay, read. -/
import Derived.Test.YtmokmbhhnbcelaaGreatDoorCl
import Derived.Test.YtmokmbhhnbcelaaGreatDoorSr
set_option linter.unusedVariables false
namespace Go.Proofs.YtmokmbhhnbcelaaGreatDoor
open Go Go.Vc Go.RowKit Go.Lib
def lkCells (x : Lk) : List Value := [.int .i64 x.gen, .int .i64 x.tag, .int .i64 x.number, .int .i64 x.refs, .int .i64 x.next, .string (tx x.data)]
section
variable {w : World} {X : List As}
theorem lay_link {x : Lk} (hx : LkOk x) (h : St w X) {R : ByteArray → World → Prop} (hR : ∀ w', St w' X → R (tx (layLk x)) w') : F.chain_link_lay x.gen x.tag x.number x.refs x.next (tx x.data) w R := by
 apply E.chain_link_lay
 unfold V.chain_link_lay
 have b1 := hx.gen
 have b2 := hx.tag
 have b3 := hx.number
 have b4 := hx.refs
 have b5 := hx.next
 have b6 := hx.data
 intro w0
 have h0 : St w0 (Cs w.heap.size (lkCells x) T.y_chain_link :: X) := h.new _ _
 clear_value w0
 intro w1
 have h1 : St w1 _ := h0.drew
 clear_value w1
 generalize w.heap.size = q at *
 refine ⟨x.gen, h1.cell0, x.tag, h1.cell 1, x.number, h1.cell 2, x.refs, h1.cell 3, x.next, h1.cell 4, tx x.data, h1.cell 5, fun w2 g hB2 hg2 hn2 ho2 w3 g1 hB3 hg3 hn3 ho3 w4 hB4 => ?_⟩
 have h4 := ((h1.fz.iv hB2 hg2 hn2 ho2).iv hB3 hg3 hn3 ho3).iv0 hB4
 refine OutS.byte (vs := [2, x.gen, x.tag, x.number]) (OutS.of h4.up2).up2.sw (fun v hv => by simp at hv; omega) (by simp) rfl fun w5 h5 => ?_
 obtain ⟨k5, h5⟩ := h5.sw.drop.sw.kp
 have q5 := h5.up2
 refine ⟨k5, q5.cell 5, q5.cell 4, q5.cell 3, q5.cell 2, q5.cell 1, q5.cell0, fun w6 g2 hB6 hg6 hn6 ho6 w7 hB7 => ?_⟩
 refine OutS.half (vs := [x.refs, x.next]) ((h5.iv hB6 hg6 hn6 ho6).iv0 hB7).up2.up2.sw (fun v hv => by simp at hv; omega) (by simp [leBytes_len]) rfl fun w8 h8 => ?_
 obtain ⟨k8, h8⟩ := h8.sw.drop.sw.kp
 have q8 := h8.up2
 refine ⟨k8, q8.cell 5, q8.cell 4, q8.cell 3, q8.cell 2, q8.cell 1, q8.cell0, fun w9 g3 hB9 hg9 hn9 ho9 w10 hB10 => ?_⟩
 refine OutS.text (s := x.data) ((h8.iv hB9 hg9 hn9 ho9).iv0 hB10).up2.up2.sw (by omega) (by simp [leBytes_len]) fun w11 h11 => ?_
 obtain ⟨k11, h11⟩ := h11.sw.drop.sw.kp
 have q11 := h11.up2
 refine ⟨k11, q11.cell 5, q11.cell 4, q11.cell 3, q11.cell 2, q11.cell 1, q11.cell0, fun w12 hB12 => ?_⟩
 refine OutS.end_ (h11.iv0 hB12).sw fun w13 h13 => ?_
 obtain ⟨k13, h13⟩ := h13.sw.kp
 have q13 := h13.up2
 refine ⟨k13, q13.cell 5, q13.cell 4, q13.cell 3, q13.cell 2, q13.cell 1, q13.cell0, fun w14 hB14 => ?_⟩
 have h14 := (h13.iv0 hB14).drop.drop.drop
 intro w15
 have h15 : St w15 (Cs w14.heap.size [.string (tx _)] T.y_string :: X) := h14.new _ _
 clear_value w15
 exact seal_st (n := 256) (by decide) (by decide) (s := linkBytes x) h15 (by rw [linkBytes_len]; omega) fun w16 h16 => hR w16 h16
theorem read_link (h : St w X) {b : Bs} (hb : b.length ≤ 1000000000) {R : Int → Int → Int → Int → Int → ByteArray → Bool → World → Prop}
   (hR : ∀ w', St w' X → R (readLk b).1.gen (readLk b).1.tag (readLk b).1.number (readLk b).1.refs (readLk b).1.next (tx (readLk b).1.data) (readLk b).2 w') : F.chain_read (tx b) w R := by
 apply E.chain_read
 unfold V.chain_read
 try simp (config := { zeta := false }) only [cnd_all]
 intro wa1
 replace h : St wa1 (Cs _ _ _ :: _) := h.new _ _
 clear_value wa1
 have bad : (openB b).2 ≠ 0 ∨ b.length ≠ 256 → ∀ w', St w' X → R 0 0 0 0 0 sNil false w' := fun hc w' hw => by
   have e : readLk b = (lkZ, false) := by unfold readLk; rw [if_pos hc]
   rw [e] at hR
   exact hR w' hw
 refine open_st h hb fun w1 h1 => ⟨fun hne => ?_, fun heq => ⟨fun hne => ?_, fun h256 => ?_⟩⟩
 · refine ⟨h1.wr0 (by simp), ?_⟩
   intro wa2
   replace h1 : St wa2 _ := h1.set0 _
   clear_value wa2
   refine ⟨h1.wr (by simp), ?_⟩
   intro wa3
   replace h1 : St wa3 _ := h1.set 1 _
   clear_value wa3
   refine ⟨h1.wr (by simp), ?_⟩
   intro wa4
   replace h1 : St wa4 _ := h1.set 2 _
   clear_value wa4
   refine ⟨h1.wr (by simp), ?_⟩
   intro wa5
   replace h1 : St wa5 _ := h1.set 3 _
   clear_value wa5
   refine ⟨h1.wr (by simp), ?_⟩
   intro wa6
   replace h1 : St wa6 _ := h1.set 4 _
   clear_value wa6
   refine ⟨h1.wr (by simp), ?_⟩
   intro wa7
   replace h1 : St wa7 _ := h1.set 5 _
   clear_value wa7
   simp only [List.set_cons_zero, List.set_cons_succ] at h1
   refine ⟨_, h1.cell0, _, h1.cell 1, _, h1.cell 2, _, h1.cell 3, _, h1.cell 4, _, h1.cell 5, ?_⟩
   exact bad (.inl hne) _ h1.drop
 · refine ⟨h1.wr0 (by simp), ?_⟩
   intro wa8
   replace h1 : St wa8 _ := h1.set0 _
   clear_value wa8
   refine ⟨h1.wr (by simp), ?_⟩
   intro wa9
   replace h1 : St wa9 _ := h1.set 1 _
   clear_value wa9
   refine ⟨h1.wr (by simp), ?_⟩
   intro wa10
   replace h1 : St wa10 _ := h1.set 2 _
   clear_value wa10
   refine ⟨h1.wr (by simp), ?_⟩
   intro wa11
   replace h1 : St wa11 _ := h1.set 3 _
   clear_value wa11
   refine ⟨h1.wr (by simp), ?_⟩
   intro wa12
   replace h1 : St wa12 _ := h1.set 4 _
   clear_value wa12
   refine ⟨h1.wr (by simp), ?_⟩
   intro wa13
   replace h1 : St wa13 _ := h1.set 5 _
   clear_value wa13
   simp only [List.set_cons_zero, List.set_cons_succ] at h1
   refine ⟨_, h1.cell0, _, h1.cell 1, _, h1.cell 2, _, h1.cell 3, _, h1.cell 4, _, h1.cell 5, ?_⟩
   exact bad (.inr (by omega)) _ h1.drop
 have er : readLk b = (parseLk (openB b).1, lkFit (parseLk (openB b).1) && decide (layLk (parseLk (openB b).1) = b)) := by unfold readLk; rw [if_neg (by omega)]
 rw [er] at hR
 clear bad er
 have hsl := openB_len b
 generalize (openB b).1 = s at *
 have ep : parseLk s = ⟨(lowIn 1 (lowIn 1 s 0).2.1 (lowIn 1 s 0).2.2).1, _, _, _, _, _⟩ := rfl
 have hfx := @lkFit_ok s
 have hrg := parseLk_ranges s
 refine InS.on h1 fun g w2 h2 => ?_
 have l0 := lowIn_left 1 s 0
 refine InS.byte h2 (by omega) fun w3 h3 => ?_
 generalize lowIn 1 s 0 = A0 at *
 have l1 := lowIn_left 1 A0.2.1 A0.2.2
 refine InS.byte h3 (by omega) fun w4 h4 => ?_
 generalize lowIn 1 A0.2.1 A0.2.2 = A1 at *
 have l2 := lowIn_left 1 A1.2.1 A1.2.2
 refine InS.byte h4 (by omega) fun w5 h5 => ?_
 generalize lowIn 1 A1.2.1 A1.2.2 = A2 at *
 have l3 := lowIn_left 1 A2.2.1 A2.2.2
 refine InS.byte h5 (by omega) fun w6 h6 => ?_
 generalize lowIn 1 A2.2.1 A2.2.2 = A3 at *
 have l4 := lowIn_left 2 A3.2.1 A3.2.2
 refine InS.half h6 (by omega) fun w7 h7 => ?_
 generalize lowIn 2 A3.2.1 A3.2.2 = A4 at *
 have l5 := lowIn_left 2 A4.2.1 A4.2.2
 refine InS.half h7 (by omega) fun w8 h8 => ?_
 generalize lowIn 2 A4.2.1 A4.2.2 = A5 at *
 refine InS.text h8 (by omega) fun w9 h9 => ?_
 generalize textIn A5.2.1 A5.2.2 = A6 at *
 replace h9 := h9.drop
 generalize parseLk s = x at *
 obtain ⟨e1, e2, e3, e4, e5, e6⟩ : A1.1 = x.gen ∧ A2.1 = x.tag ∧ A3.1 = x.number ∧ A4.1 = x.refs ∧ A5.1 = x.next ∧ A6.1 = x.data := by subst ep; exact ⟨rfl, rfl, rfl, rfl, rfl, rfl⟩
 clear ep
 intro wa14
 replace h9 : St wa14 (Cs _ _ _ :: _) := h9.new _ _
 clear_value wa14
 refine ⟨h9.wr0 (by simp), ?_⟩
 intro wa15
 replace h9 : St wa15 _ := h9.set0 _
 clear_value wa15
 refine ⟨h9.wr (by simp), ?_⟩
 intro wa16
 replace h9 : St wa16 _ := h9.set 1 _
 clear_value wa16
 refine ⟨h9.wr (by simp), ?_⟩
 intro wa17
 replace h9 : St wa17 _ := h9.set 2 _
 clear_value wa17
 refine ⟨h9.wr (by simp), ?_⟩
 intro wa18
 replace h9 : St wa18 _ := h9.set 3 _
 clear_value wa18
 refine ⟨h9.wr (by simp), ?_⟩
 intro wa19
 replace h9 : St wa19 _ := h9.set 4 _
 clear_value wa19
 refine ⟨h9.wr (by simp), ?_⟩
 intro wa20
 replace h9 : St wa20 _ := h9.set 5 _
 clear_value wa20
 simp only [List.set_cons_zero, List.set_cons_succ] at h9
 rw [e1, e2, e3, e4, e5, e6] at h9
 have bad : lkFit x = false → ∀ w', St w' X → R x.gen x.tag x.number x.refs x.next (tx x.data) false w' := fun hc w' hw => by
   have := hR w' hw
   rwa [hc, Bool.false_and] at this
 refine ⟨_, h9.cell0, fun c1 => ⟨_, h9.cell0, fun c2 => ⟨_, h9.cell 1, fun c3 => ⟨_, h9.cell 5, ?_⟩, fun c3 => ?_⟩, fun c2 => ?_⟩, fun c1 => ?_⟩
 · intro wa21
   replace h9 : St wa21 _ := h9.drew
   clear_value wa21
   refine ⟨_, h9.cell0, _, h9.cell 1, _, h9.cell 2, _, h9.cell 3, _, h9.cell 4, _, h9.cell 5, ?_⟩
   refine ⟨fun c4 => ?_, fun c4 => ?_⟩
   · have hf : lkFit x = true := by simp only [lkFit, Bool.and_eq_true, decide_eq_true_eq]; simp only [tx_size] at c4; omega
     refine ⟨_, h9.cell0, _, h9.cell 1, _, h9.cell 2, _, h9.cell 3, _, h9.cell 4, _, h9.cell 5, ?_⟩
     refine lay_link (hfx hf) h9 fun w11 h11 => ?_
     refine ⟨h11.cell0, h11.cell 1, h11.cell 2, h11.cell 3, h11.cell 4, h11.cell 5, ?_⟩
     replace h11 := h11.sw
     refine ⟨h11.wr0 (by simp), ?_⟩
     intro wa22
     replace h11 : St wa22 _ := h11.set0 _
     clear_value wa22
     refine ⟨h11.wr (by simp), ?_⟩
     intro wa23
     replace h11 : St wa23 _ := h11.set 1 _
     clear_value wa23
     refine ⟨h11.wr (by simp), ?_⟩
     intro wa24
     replace h11 : St wa24 _ := h11.set 2 _
     clear_value wa24
     refine ⟨h11.wr (by simp), ?_⟩
     intro wa25
     replace h11 : St wa25 _ := h11.set 3 _
     clear_value wa25
     refine ⟨h11.wr (by simp), ?_⟩
     intro wa26
     replace h11 : St wa26 _ := h11.set 4 _
     clear_value wa26
     refine ⟨h11.wr (by simp), ?_⟩
     intro wa27
     replace h11 : St wa27 _ := h11.set 5 _
     clear_value wa27
     simp only [List.set_cons_zero, List.set_cons_succ] at h11
     refine ⟨_, h11.cell0, _, h11.cell 1, _, h11.cell 2, _, h11.cell 3, _, h11.cell 4, _, h11.cell 5, ?_⟩
     have := hR _ h11.drop.drop
     rw [hf, Bool.true_and] at this
     rw [tx_eq]; exact this
   · refine ⟨h9.cell0, h9.cell 1, h9.cell 2, h9.cell 3, h9.cell 4, h9.cell 5, ?_⟩
     replace h9 := h9.sw
     refine ⟨h9.wr0 (by simp), ?_⟩
     intro wa28
     replace h9 : St wa28 _ := h9.set0 _
     clear_value wa28
     refine ⟨h9.wr (by simp), ?_⟩
     intro wa29
     replace h9 : St wa29 _ := h9.set 1 _
     clear_value wa29
     refine ⟨h9.wr (by simp), ?_⟩
     intro wa30
     replace h9 : St wa30 _ := h9.set 2 _
     clear_value wa30
     refine ⟨h9.wr (by simp), ?_⟩
     intro wa31
     replace h9 : St wa31 _ := h9.set 3 _
     clear_value wa31
     refine ⟨h9.wr (by simp), ?_⟩
     intro wa32
     replace h9 : St wa32 _ := h9.set 4 _
     clear_value wa32
     refine ⟨h9.wr (by simp), ?_⟩
     intro wa33
     replace h9 : St wa33 _ := h9.set 5 _
     clear_value wa33
     simp only [List.set_cons_zero, List.set_cons_succ] at h9
     refine ⟨_, h9.cell0, _, h9.cell 1, _, h9.cell 2, _, h9.cell 3, _, h9.cell 4, _, h9.cell 5, ?_⟩
     exact bad (by simp only [lkFit, Bool.and_eq_false_iff, decide_eq_false_iff_not]; simp only [tx_size] at c4; omega) _ h9.drop.drop
 · intro wa34
   replace h9 : St wa34 _ := h9.drew
   clear_value wa34
   refine ⟨_, h9.cell0, _, h9.cell 1, _, h9.cell 2, _, h9.cell 3, _, h9.cell 4, _, h9.cell 5, ?_⟩
   refine ⟨h9.cell0, h9.cell 1, h9.cell 2, h9.cell 3, h9.cell 4, h9.cell 5, ?_⟩
   replace h9 := h9.sw
   refine ⟨h9.wr0 (by simp), ?_⟩
   intro wa35
   replace h9 : St wa35 _ := h9.set0 _
   clear_value wa35
   refine ⟨h9.wr (by simp), ?_⟩
   intro wa36
   replace h9 : St wa36 _ := h9.set 1 _
   clear_value wa36
   refine ⟨h9.wr (by simp), ?_⟩
   intro wa37
   replace h9 : St wa37 _ := h9.set 2 _
   clear_value wa37
   refine ⟨h9.wr (by simp), ?_⟩
   intro wa38
   replace h9 : St wa38 _ := h9.set 3 _
   clear_value wa38
   refine ⟨h9.wr (by simp), ?_⟩
   intro wa39
   replace h9 : St wa39 _ := h9.set 4 _
   clear_value wa39
   refine ⟨h9.wr (by simp), ?_⟩
   intro wa40
   replace h9 : St wa40 _ := h9.set 5 _
   clear_value wa40
   simp only [List.set_cons_zero, List.set_cons_succ] at h9
   refine ⟨_, h9.cell0, _, h9.cell 1, _, h9.cell 2, _, h9.cell 3, _, h9.cell 4, _, h9.cell 5, ?_⟩
   exact bad (by simp only [lkFit, Bool.and_eq_false_iff, decide_eq_false_iff_not]; omega) _ h9.drop.drop
 · intro wa41
   replace h9 : St wa41 _ := h9.drew
   clear_value wa41
   refine ⟨_, h9.cell0, _, h9.cell 1, _, h9.cell 2, _, h9.cell 3, _, h9.cell 4, _, h9.cell 5, ?_⟩
   refine ⟨h9.cell0, h9.cell 1, h9.cell 2, h9.cell 3, h9.cell 4, h9.cell 5, ?_⟩
   replace h9 := h9.sw
   refine ⟨h9.wr0 (by simp), ?_⟩
   intro wa42
   replace h9 : St wa42 _ := h9.set0 _
   clear_value wa42
   refine ⟨h9.wr (by simp), ?_⟩
   intro wa43
   replace h9 : St wa43 _ := h9.set 1 _
   clear_value wa43
   refine ⟨h9.wr (by simp), ?_⟩
   intro wa44
   replace h9 : St wa44 _ := h9.set 2 _
   clear_value wa44
   refine ⟨h9.wr (by simp), ?_⟩
   intro wa45
   replace h9 : St wa45 _ := h9.set 3 _
   clear_value wa45
   refine ⟨h9.wr (by simp), ?_⟩
   intro wa46
   replace h9 : St wa46 _ := h9.set 4 _
   clear_value wa46
   refine ⟨h9.wr (by simp), ?_⟩
   intro wa47
   replace h9 : St wa47 _ := h9.set 5 _
   clear_value wa47
   simp only [List.set_cons_zero, List.set_cons_succ] at h9
   refine ⟨_, h9.cell0, _, h9.cell 1, _, h9.cell 2, _, h9.cell 3, _, h9.cell 4, _, h9.cell 5, ?_⟩
   exact bad (by simp only [lkFit, Bool.and_eq_false_iff, decide_eq_false_iff_not]; omega) _ h9.drop.drop
 · intro wa48
   replace h9 : St wa48 _ := h9.drew
   clear_value wa48
   refine ⟨_, h9.cell0, _, h9.cell 1, _, h9.cell 2, _, h9.cell 3, _, h9.cell 4, _, h9.cell 5, ?_⟩
   refine ⟨h9.cell0, h9.cell 1, h9.cell 2, h9.cell 3, h9.cell 4, h9.cell 5, ?_⟩
   replace h9 := h9.sw
   refine ⟨h9.wr0 (by simp), ?_⟩
   intro wa49
   replace h9 : St wa49 _ := h9.set0 _
   clear_value wa49
   refine ⟨h9.wr (by simp), ?_⟩
   intro wa50
   replace h9 : St wa50 _ := h9.set 1 _
   clear_value wa50
   refine ⟨h9.wr (by simp), ?_⟩
   intro wa51
   replace h9 : St wa51 _ := h9.set 2 _
   clear_value wa51
   refine ⟨h9.wr (by simp), ?_⟩
   intro wa52
   replace h9 : St wa52 _ := h9.set 3 _
   clear_value wa52
   refine ⟨h9.wr (by simp), ?_⟩
   intro wa53
   replace h9 : St wa53 _ := h9.set 4 _
   clear_value wa53
   refine ⟨h9.wr (by simp), ?_⟩
   intro wa54
   replace h9 : St wa54 _ := h9.set 5 _
   clear_value wa54
   simp only [List.set_cons_zero, List.set_cons_succ] at h9
   refine ⟨_, h9.cell0, _, h9.cell 1, _, h9.cell 2, _, h9.cell 3, _, h9.cell 4, _, h9.cell 5, ?_⟩
   exact bad (by simp only [lkFit, Bool.and_eq_false_iff, decide_eq_false_iff_not]; omega) _ h9.drop.drop
end
end Go.Proofs.YtmokmbhhnbcelaaGreatDoor

/- chain: walk. -/
set_option linter.unusedVariables false
namespace Go.Proofs.YtmokmbhhnbcelaaGreatDoor
open Go Go.Vc Go.RowKit Go.Lib Go.Maps Go.Proofs
def ELk : Enc Lk := ⟨lkCells, 6, fun _ => rfl, fun x u hu => by simp only [lkCells, List.mem_cons, List.not_mem_nil, or_false] at hu; rcases hu with rfl | rfl | rfl | rfl | rfl | rfl <;> rfl⟩
theorem elt_lk : Elt Pg T.y_sl_chain_link T.y_chain_link 6 56 := by
 refine ⟨by kernel_rfl, ?_, by decide⟩
 have h : (Pg.info? T.y_chain_link).map (fun i => (i.zero, i.size, i.bytes)) = some (some (.agg #[.int .i64 0, .int .i64 0, .int .i64 0, .int .i64 0, .int .i64 0, .string sNil]), 6, 56) := by kernel_rfl
 obtain ⟨i, hi, h2⟩ := Option.map_eq_some_iff.1 h
 simp only [Prod.mk.injEq] at h2
 exact ⟨i, _, hi, h2.1, h2.2.1, h2.2.2, rfl⟩
/-- may x stand behind these -/
def lkStep (xs : List Lk) (x : Lk) : Bool :=
 decide (x.number = xs.length) && ((match xs with | [] => true | y :: _ => decide (x.gen = y.gen) && (decide (x.tag = y.tag) && (decide (x.refs = 0) && decide (x.data ≠ [])))) && (decide (x.next = 0) || decide (x.data.length = 236)))
def walkC (D : DkV) : Nat → List Lk → List Int → Int → List Lk × List Int × Int
 | 0, _, _, _ => ([], [], 25)
 | n + 1, xs, ps, next =>
   if next ∈ ps ∨ 40 ≤ xs.length then ([], [], 25)
   else if getE D next ≠ 0 then ([], [], getE D next)
   else if (readLk (getD D next)).2 && lkStep xs (readLk (getD D next)).1 then
     if (readLk (getD D next)).1.next = 0 then (xs ++ [(readLk (getD D next)).1], ps ++ [next], 0) else walkC D n (xs ++ [(readLk (getD D next)).1]) (ps ++ [next]) (readLk (getD D next)).1.next
   else ([], [], 25)
def walkD (D : DkV) (a : Int) : List Lk × List Int × Int := walkC D 41 [] [] a
theorem lastW_len {D : DkV} {c : Nat} (hk : DOk c D) {a : Int} (h : a ∈ keysW D.ws) : (lastW D.ws a).length = 256 := (hk.ws _ (lastW_mem _ a h)).2.2.2
theorem getD_len {D : DkV} {c : Nat} (hk : DOk c D) {a : Int} (h : getE D a = 0) : (getD D a).length = 256 := by
 unfold getE at h
 unfold getD
 by_cases h1 : a ∈ keysW D.ws
 · rw [if_pos h1]; exact lastW_len hk h1
 · rw [if_neg h1] at h ⊢
   by_cases h2 : 0 ≤ a ∧ a < (D.bs.length : Int)
   · rw [if_pos h2]
     have hl := hk.len
     have hi : 111 + a.toNat < D.d.l.length := by omega
     have e : homeAt D.d a.toNat = D.d.l[111 + a.toNat] := by unfold homeAt; simp [hi]
     rw [e]
     exact hk.q.secs _ (List.getElem_mem _)
   · rw [if_neg h2] at h; simp at h
theorem n236 {x : Bs} (h : ¬ ((tx x).size : Int) = 236) : ¬ x.length = 236 := by rw [tx_size] at h; omega
theorem y236 {x : Bs} (h : ((tx x).size : Int) = 236) : x.length = 236 := by rw [tx_size] at h; omega
section
variable {w : World} {X : List As} {k g c : Nat} {D : DkV}
set_option maxHeartbeats 2000000 in
theorem walk_chain (h : St w (DeskS k g c D :: X)) {a : Int} (ha : -9223372036854775808 ≤ a ∧ a < 9223372036854775808) {R : Sl → Sl → Int → World → Prop}
   (hR : ∀ l pl w', St w' (Row ELk T.y_chain_link l (walkD D a).1 :: Row EI T.y_int pl (walkD D a).2.1 :: DeskS k g c D :: X) → R l pl (walkD D a).2.2 w') : F.chain_walk (some (blk k)) a w R := by
 apply E.chain_walk
 unfold V.chain_walk
 try simp (config := { zeta := false }) only [cnd_all]
 have hk := DeskS.ok h
 have bad : ∀ e, walkD D a = ([], [], e) → ∀ w', St w' (DeskS k g c D :: X) → R ⟨none, 0, 0⟩ ⟨none, 0, 0⟩ e w' := fun e he w' hw => by
   rw [he] at hR
   exact hR _ _ w' ((hw.row0 EI T.y_int).row0 ELk T.y_chain_link)
 intro w0
 have h0 : St w0 (SetS w.heap.size [] :: DeskS k g c D :: X) := SetS.new h
 clear_value w0
 generalize w.heap.size = q at *
 refine ⟨fun l pl next w' => ∃ n xs ps, xs.length + n = 40 ∧ ps.length = xs.length ∧ (-9223372036854775808 ≤ next ∧ next < 9223372036854775808) ∧ walkD D a = (if xs ≠ [] ∧ next = 0 then (xs, ps, 0) else walkC D (n + 1) xs ps next) ∧ St w' (SetS q ps :: Row ELk T.y_chain_link l xs :: Row EI T.y_int pl ps :: DeskS k g c D :: X),
   fun l _ _ _ => 41 - l.len, ⟨40, [], [], rfl, rfl, ha, rfl, ((h0.sw.row0 EI T.y_int).row0 ELk T.y_chain_link).up3⟩, ?_⟩
 rintro l pl next w1 ⟨n, xs, ps, hn, hpl, hnr, hw, h1⟩
 have hl : l.len = xs.length := (h1.sw.has (by decide)).1
 refine ⟨fun w' => w' = w1 ∧ ¬ (xs ≠ [] ∧ next = 0), ⟨fun hz => ⟨rfl, fun hx => hx.1 (List.eq_nil_of_length_eq_zero (by omega))⟩, fun hz => ⟨fun hx => ⟨rfl, fun hy => hx hy.2⟩, fun hx => ?_⟩⟩, ?_⟩
 · rw [if_pos ⟨fun hy => hz (by rw [hl, hy]; rfl), hx⟩] at hw
   rw [hw] at hR
   exact hR l pl w1 h1.drop
 rintro w2 ⟨rfl, hc⟩
 rw [if_neg hc] at hw
 unfold walkC at hw
 refine SetS.look h1 hnr ⟨fun hs => ?_, fun hs => ⟨fun h40 => ?_, fun h40 => ?_⟩⟩
 · rw [if_pos (.inl (of_decide_eq_true hs))] at hw
   exact bad _ hw w2 h1.drop.drop.drop
 · rw [if_pos (.inr (by omega))] at hw
   exact bad _ hw w2 h1.drop.drop.drop
 have hs : next ∉ ps := of_decide_eq_false hs
 rw [if_neg fun h => h.elim hs fun h => by omega] at hw
 refine SetS.put h1 (by omega) hnr fun w3 h3 => Get_st h3.up3 hnr ⟨fun he => ?_, fun he => ?_⟩
 · rw [if_pos he] at hw
   exact bad _ hw w3 h3.drop.drop.drop
 rw [if_neg (by simpa using he)] at hw
 have hgl := getD_len hk he
 refine read_link h3 (by omega) fun w4 h4 => ?_
 have hrok := @readLk_ok (getD D next)
 generalize readLk (getD D next) = r at *
 obtain ⟨x, is⟩ := r
 simp only at hw hrok
 dsimp -zeta only
 intro wa1
 replace h4 : St wa1 (Cs _ _ _ :: _) := h4.new _ _
 clear_value wa1
 refine ⟨h4.wr0 (by simp), ?_⟩
 intro wa2
 replace h4 : St wa2 _ := h4.set0 _
 clear_value wa2
 refine ⟨h4.wr (by simp), ?_⟩
 intro wa3
 replace h4 : St wa3 _ := h4.set 1 _
 clear_value wa3
 refine ⟨h4.wr (by simp), ?_⟩
 intro wa4
 replace h4 : St wa4 _ := h4.set 2 _
 clear_value wa4
 refine ⟨h4.wr (by simp), ?_⟩
 intro wa5
 replace h4 : St wa5 _ := h4.set 3 _
 clear_value wa5
 refine ⟨h4.wr (by simp), ?_⟩
 intro wa6
 replace h4 : St wa6 _ := h4.set 4 _
 clear_value wa6
 refine ⟨h4.wr (by simp), ?_⟩
 intro wa7
 replace h4 : St wa7 _ := h4.set 5 _
 clear_value wa7
 simp only [List.set_cons_zero, List.set_cons_succ] at h4
 generalize w4.heap.size = z at *
 -- Cs z :: SetS q :: Row ELk :: Row EI :: Desk :: X
 refine ⟨fun w' => (is && lkStep xs x) = true ∧ St w' (Cs z (lkCells x) T.y_chain_link :: SetS q (ps ++ [next]) :: Row ELk T.y_chain_link l xs :: Row EI T.y_int pl ps :: DeskS k g c D :: X), ?_, ?_⟩
 · intro wa8
   replace h4 : St wa8 _ := h4.drew
   clear_value wa8
   have hd := h4.drop.drop.drop.drop
   have no : (is && lkStep xs x) = false → ∀ w', St w' (DeskS k g c D :: X) → R ⟨none, 0, 0⟩ ⟨none, 0, 0⟩ 25 w' := fun hf w' hw' => by
     rw [if_neg (by rw [hf]; decide)] at hw
     exact bad _ hw w' hw'
   refine ⟨fun g1 => no (by simp [g1]) _ hd, fun g1 => ⟨_, h4.cell 2, fun g2 => no (by rw [hl] at g2; simp [lkStep, g2]) _ hd, fun g2 => ?_⟩⟩
   rw [hl] at g2 ⊢
   rcases xs with _ | ⟨y, ys⟩
   · refine ⟨fun g3 => by simp at g3, fun g3 => ⟨_, h4.cell 4, fun g9 => ⟨_, h4.cell 5, fun g10 => no (by simp [lkStep, g9, n236 g10]) _ hd, fun g10 => ⟨by simp [lkStep, g1, g2, y236 g10], h4⟩⟩, fun g9 => ⟨by simp [lkStep, g1, g2, g9], h4⟩⟩⟩
   · obtain ⟨ad, had, hlt, hc⟩ := (h4.up2.has (by decide)).at (j := 0) (by simp)
     have hc0 := hc 0 _ rfl
     rw [addr_add0] at hc0
     refine ⟨fun g3 => ⟨_, h4.cell0, ad, had, by decide, g3, _, by simpa [addr_add0] using hc0, fun g5 => no (by simp [lkStep, g5]) _ hd, fun g5 => ⟨_, h4.cell 1, ad, had, by decide, g3, _, by simpa [addr_add0] using hc 1 _ rfl, fun g6 => no (by simp [lkStep, g6]) _ hd, fun g6 => ⟨_, h4.cell 3, fun g7 => no (by simp [lkStep, g7]) _ hd, fun g7 => ⟨_, h4.cell 5, fun g8 => ?_, fun g8 => ⟨_, h4.cell 4, fun g9 => ⟨_, h4.cell 5, fun g10 => ?_, fun g10 => ?_⟩, fun g9 => ?_⟩⟩⟩⟩⟩, fun g3 => by simp at g3⟩
     all_goals rw [tx_nil, tx_eq] at g8
     · exact no (by simp [lkStep, of_decide_eq_true g8]) _ hd
     all_goals have g8 := of_decide_eq_false g8
     · exact no (by simp [lkStep, g9, n236 g10]) _ hd
     · refine ⟨?_, h4⟩
       simp [lkStep, g1, g2, g5, g6, g7, g8, y236 g10]
     · exact ⟨by simp [lkStep, g1, g2, g5, g6, g7, g8, g9], h4⟩
 · rintro w5 ⟨hok, h5⟩
   rw [if_pos hok] at hw
   intro wa9
   replace h5 : St wa9 _ := h5.drew
   clear_value wa9
   refine ⟨_, h5.cell0, _, h5.cell 1, _, h5.cell 2, _, h5.cell 3, _, h5.cell 4, _, h5.cell 5, ?_⟩
   refine ⟨_, h5.cell 4, fun w6 g hB6 hg6 hn6 ho6 w7 hB7 => ?_⟩
   have h7 := (h5.fz.iv hB6 hg6 hn6 ho6).iv0 hB7
   refine St.app elt_lk h7.up4 (sl := ⟨some (blk g), 1, 1⟩) (ys := [x]) (h7.sw.lit rfl (Enc.all_one1 ELk x).symm 1) rfl (by simp; omega) (by simp; omega) fun l1 w8 h8 hl8 => ?_
   obtain ⟨k8, h8⟩ := h8.sw.d3.kp
   have q8 := h8.up2
   refine ⟨k8, q8.cell 4, q8.cell0, q8.cell 1, q8.cell 2, q8.cell 3, q8.cell 4, q8.cell 5, fun w9 g1 hB9 hg9 hn9 ho9 w10 hB10 => ?_⟩
   have h10 := (h8.iv hB9 hg9 hn9 ho9).iv0 hB10
   refine St.app elt_int h10.up5 (sl := ⟨some (blk g1), 1, 1⟩) (ys := [next]) (h10.sw.lit (xs := [next]) rfl rfl 1) rfl (by simp; omega) (by simp; omega) fun l2 w11 h11 hl11 => ?_
   obtain ⟨k11, h11⟩ := h11.sw.d3.kp
   have q11 := h11.up3
   refine ⟨k11, q11.cell 4, q11.cell0, q11.cell 1, q11.cell 2, q11.cell 3, q11.cell 4, q11.cell 5, fun w12 hB12 => ?_⟩
   have h12 := (h11.iv0 hB12).drop.up3.d4.up2.sw
   have hx := (hrok (by revert hok; cases is <;> simp)).1.next
   rw [hl] at h40
   obtain ⟨m, rfl⟩ : ∃ m, n = m + 1 := ⟨n - 1, by omega⟩
   refine ⟨⟨m, xs ++ [x], ps ++ [next], by simp; omega, by simp [hpl], by omega, ?_, h12⟩, ?_⟩
   · rw [hw]
     by_cases h0 : x.next = 0
     · rw [if_pos h0, if_pos ⟨by simp, h0⟩]
     · rw [if_neg h0, if_neg (fun h => h0 h.2)]
   · show 41 - l1.len < 41 - l.len
     rw [hl8, hl]; simp; omega
end
end Go.Proofs.YtmokmbhhnbcelaaGreatDoor
