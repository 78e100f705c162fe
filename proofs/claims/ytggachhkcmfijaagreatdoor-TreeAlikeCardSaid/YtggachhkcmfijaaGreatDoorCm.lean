/- chain: a link, as bytes and back; in plain words. -/
import Derived.Test.YtggachhkcmfijaaGreatDoorSq
set_option linter.unusedVariables false
namespace Go.Proofs.YtggachhkcmfijaaGreatDoor
open Go Go.Vc Go.RowKit Go.Lib
structure Lk where
 gen : Int
 tag : Int
 number : Int
 refs : Int
 next : Int
 data : Bs
def linkBytes (x : Lk) : Bs := [2, x.gen, x.tag, x.number].flatMap (leBytes 1) ++ [x.refs, x.next].flatMap (leBytes 2) ++ (leBytes 2 (x.data.length : Int) ++ x.data)
def layLk (x : Lk) : Bs := sealS 256 (linkBytes x)
structure LkOk (x : Lk) : Prop where
 gen : 1 ≤ x.gen ∧ x.gen ≤ 3
 tag : 0 ≤ x.tag ∧ x.tag ≤ 200
 number : 0 ≤ x.number ∧ x.number < 256
 refs : 0 ≤ x.refs ∧ x.refs < 65536
 next : 0 ≤ x.next ∧ x.next < 65536
 data : x.data.length ≤ 236
theorem linkBytes_len (x : Lk) : (linkBytes x).length = 10 + x.data.length := by simp [linkBytes, leBytes_len]; omega
theorem layLk_len {x : Lk} (h : LkOk x) : (layLk x).length = 256 := sealS_len (by decide) (by rw [linkBytes_len]; have := h.data; omega)
theorem lowIn_layI {k : Nat} {v : Int} (h0 : 0 ≤ v) (hv : v < 256 ^ k) (hk : k ≤ 7) (rest : Bs) : lowIn k (leBytes k v ++ rest) 0 = (v, rest, 0) := by
 obtain ⟨n, rfl⟩ : ∃ n : Nat, v = n := ⟨v.toNat, by omega⟩
 have h1 : n < 256 ^ k := by
   have : ((256 ^ k : Nat) : Int) = 256 ^ k := by simp
   omega
 have h2 : 256 ^ k ≤ 256 ^ 7 := Nat.pow_le_pow_right (by decide) hk
 have h3 : (256 : Nat) ^ 7 = 72057594037927936 := by decide
 exact lowIn_lay h1 (by omega) rest
theorem rawIn_app (a b : Bs) : rawIn (a.length : Int) (a ++ b) 0 = (a, b, 0) := by
 unfold rawIn
 rw [if_neg (by simp), if_neg (by omega), if_neg (by rw [List.length_append]; omega)]
 simp
theorem textIn_lay {d : Bs} (h : d.length < 65536) (rest : Bs) : textIn (leBytes 2 (d.length : Int) ++ (d ++ rest)) 0 = (d, rest, 0) := by
 unfold textIn
 rw [lowIn_layI (by omega) (by have : (256 : Int) ^ 2 = 65536 := by decide
                               omega) (by decide)]
 exact rawIn_app d rest
def parseLk (s : Bs) : Lk :=
 let a0 := lowIn 1 s 0
 let a1 := lowIn 1 a0.2.1 a0.2.2
 let a2 := lowIn 1 a1.2.1 a1.2.2
 let a3 := lowIn 1 a2.2.1 a2.2.2
 let a4 := lowIn 2 a3.2.1 a3.2.2
 let a5 := lowIn 2 a4.2.1 a4.2.2
 ⟨a1.1, a2.1, a3.1, a4.1, a5.1, (textIn a5.2.1 a5.2.2).1⟩
theorem parseLk_lay {x : Lk} (h : LkOk x) (pad : Bs) : parseLk (linkBytes x ++ pad) = x := by
 have e1 : (256 : Int) ^ 1 = 256 := by decide
 have e2 : (256 : Int) ^ 2 = 65536 := by decide
 have h1 := h.gen
 have h2 := h.tag
 have h3 := h.number
 have h4 := h.refs
 have h5 := h.next
 have h6 := h.data
 have e : linkBytes x ++ pad = leBytes 1 2 ++ (leBytes 1 x.gen ++ (leBytes 1 x.tag ++ (leBytes 1 x.number ++ (leBytes 2 x.refs ++ (leBytes 2 x.next ++ (leBytes 2 (x.data.length : Int) ++ (x.data ++ pad))))))) := by
   simp [linkBytes]
 rw [e]
 unfold parseLk
 rw [lowIn_layI (by omega) (by omega) (by decide)]
 simp only
 rw [lowIn_layI (by omega) (by omega) (by decide)]
 simp only
 rw [lowIn_layI (by omega) (by omega) (by decide)]
 simp only
 rw [lowIn_layI (by omega) (by omega) (by decide)]
 simp only
 rw [lowIn_layI (by omega) (by omega) (by decide)]
 simp only
 rw [lowIn_layI (by omega) (by omega) (by decide)]
 simp only
 rw [textIn_lay (by omega)]
theorem lowIn1 (s : Bs) (e : Int) : 0 ≤ (lowIn 1 s e).1 ∧ (lowIn 1 s e).1 < 256 := by
 have h := lowIn_bound 1 s e (by decide)
 have : (256 : Int) ^ 1 = 256 := by decide
 omega
theorem lowIn2 (s : Bs) (e : Int) : 0 ≤ (lowIn 2 s e).1 ∧ (lowIn 2 s e).1 < 65536 := by
 have h := lowIn_bound 2 s e (by decide)
 have : (256 : Int) ^ 2 = 65536 := by decide
 omega
theorem parseLk_ranges (s : Bs) : 0 ≤ (parseLk s).gen ∧ (0 ≤ (parseLk s).tag) ∧ (0 ≤ (parseLk s).number ∧ (parseLk s).number < 256) ∧ (0 ≤ (parseLk s).refs ∧ (parseLk s).refs < 65536) ∧ (0 ≤ (parseLk s).next ∧ (parseLk s).next < 65536) := by
 dsimp only [parseLk]
 exact ⟨(lowIn1 _ _).1, (lowIn1 _ _).1, lowIn1 _ _, lowIn2 _ _, lowIn2 _ _⟩
/-- which values pass the first look -/
def lkFit (x : Lk) : Bool := decide (1 ≤ x.gen) && (decide (x.gen ≤ 3) && (decide (x.tag ≤ 200) && decide (x.data.length ≤ 236)))
theorem lkFit_ok {s : Bs} (h : lkFit (parseLk s) = true) : LkOk (parseLk s) := by
 simp only [lkFit, Bool.and_eq_true, decide_eq_true_eq] at h
 obtain ⟨r1, r2, r3, r4, r5⟩ := parseLk_ranges s
 exact ⟨⟨h.1, h.2.1⟩, ⟨r2, h.2.2.1⟩, r3, r4, r5, h.2.2.2⟩
/-- a link read: what it says, whether it is one -/
def lkZ : Lk := ⟨0, 0, 0, 0, 0, []⟩
def readLk (b : Bs) : Lk × Bool :=
 if (openB b).2 ≠ 0 ∨ b.length ≠ 256 then (lkZ, false) else (parseLk (openB b).1, lkFit (parseLk (openB b).1) && decide (layLk (parseLk (openB b).1) = b))
theorem readLk_lay {x : Lk} (h : LkOk x) : readLk (layLk x) = (x, true) := by
 have hl := layLk_len h
 have ho : openB (layLk x) = (padTo 252 (linkBytes x), 0) := openB_seal (by decide) (by rw [linkBytes_len]; have := h.data; omega)
 have hp : parseLk (padTo 252 (linkBytes x)) = x := parseLk_lay h _
 have hf : lkFit x = true := by
   simp only [lkFit, Bool.and_eq_true, decide_eq_true_eq]
   exact ⟨h.gen.1, h.gen.2, h.tag.2, h.data⟩
 unfold readLk
 rw [ho, if_neg (by simp [hl])]
 simp only [hp, hf, decide_true, Bool.and_true]
theorem readLk_ok {b : Bs} (h : (readLk b).2 = true) : LkOk (readLk b).1 ∧ layLk (readLk b).1 = b := by
 unfold readLk at h ⊢
 split
 · rename_i hc; rw [if_pos hc] at h; cases h
 · rename_i hc
   rw [if_neg hc] at h
   simp only [Bool.and_eq_true, decide_eq_true_eq] at h
   exact ⟨lkFit_ok h.1, h.2⟩
end Go.Proofs.YtggachhkcmfijaaGreatDoor

/- chain: link.lay, read. -/
set_option linter.unusedVariables false
namespace Go.Proofs.YtggachhkcmfijaaGreatDoor
open Go Go.Vc Go.RowKit Go.Lib
def lkCells (x : Lk) : List Value := [.int .i64 x.gen, .int .i64 x.tag, .int .i64 x.number, .int .i64 x.refs, .int .i64 x.next, .string (tx x.data)]
section
variable {w : World} {X : List As}
theorem lay_link {x : Lk} (hx : LkOk x) (h : St w X) {R : ByteArray → World → Prop} (hR : ∀ w', St w' X → R (tx (layLk x)) w') : F.chain_link_lay x.gen x.tag x.number x.refs x.next (tx x.data) w R := by
 apply E.chain_link_lay
 unfold V.chain_link_lay
 try simp -zeta only [ldC, soC, brC, bkA, slC, stC, alC, drC]
 have b1 := hx.gen
 have b2 := hx.tag
 have b3 := hx.number
 have b4 := hx.refs
 have b5 := hx.next
 have b6 := hx.data
 intro w0
 have h0 : St w0 (Cs w.heap.size (lkCells x) T.y_chain_link :: X) := h.new _ _
 clear_value w0
 intro w1
 have h1 : St w1 _ := h0.drew
 clear_value w1
 generalize w.heap.size = q at *
 refine ⟨x.gen, h1.cell0, x.tag, h1.cell 1, x.number, h1.cell 2, x.refs, h1.cell 3, x.next, h1.cell 4, tx x.data, h1.cell 5, fun w2 g hB2 hg2 hn2 ho2 w3 g1 hB3 hg3 hn3 ho3 w4 hB4 => ?_⟩
 have h4 := ((h1.fz.iv hB2 hg2 hn2 ho2).iv hB3 hg3 hn3 ho3).iv0 hB4
 refine OutS.byte (vs := [2, x.gen, x.tag, x.number]) (OutS.of h4.up2).up2.sw (fun v hv => by simp at hv; omega) (by simp) rfl fun w5 h5 => ?_
 obtain ⟨k5, h5⟩ := h5.sw.drop.sw.kp
 have q5 := h5.up2
 refine ⟨k5, q5.cell 5, q5.cell 4, q5.cell 3, q5.cell 2, q5.cell 1, q5.cell0, fun w6 g2 hB6 hg6 hn6 ho6 w7 hB7 => ?_⟩
 refine OutS.half (vs := [x.refs, x.next]) ((h5.iv hB6 hg6 hn6 ho6).iv0 hB7).up2.up2.sw (fun v hv => by simp at hv; omega) (by simp [leBytes_len]) rfl fun w8 h8 => ?_
 obtain ⟨k8, h8⟩ := h8.sw.drop.sw.kp
 have q8 := h8.up2
 refine ⟨k8, q8.cell 5, q8.cell 4, q8.cell 3, q8.cell 2, q8.cell 1, q8.cell0, fun w9 g3 hB9 hg9 hn9 ho9 w10 hB10 => ?_⟩
 refine OutS.text (s := x.data) ((h8.iv hB9 hg9 hn9 ho9).iv0 hB10).up2.up2.sw (by omega) (by simp [leBytes_len]) fun w11 h11 => ?_
 obtain ⟨k11, h11⟩ := h11.sw.drop.sw.kp
 have q11 := h11.up2
 refine ⟨k11, q11.cell 5, q11.cell 4, q11.cell 3, q11.cell 2, q11.cell 1, q11.cell0, fun w12 hB12 => ?_⟩
 refine OutS.end_ (h11.iv0 hB12).sw fun w13 h13 => ?_
 obtain ⟨k13, h13⟩ := h13.sw.kp
 have q13 := h13.up2
 refine ⟨k13, q13.cell 5, q13.cell 4, q13.cell 3, q13.cell 2, q13.cell 1, q13.cell0, fun w14 hB14 => ?_⟩
 have h14 := (h13.iv0 hB14).drop.drop.drop
 intro w15
 have h15 : St w15 (Cs w14.heap.size [.string (tx _)] T.y_string :: X) := h14.new _ _
 clear_value w15
 exact seal_st (n := 256) (by decide) (by decide) (s := linkBytes x) h15 (by rw [linkBytes_len]; omega) fun w16 h16 => hR w16 h16
theorem read_link (h : St w X) {b : Bs} (hb : b.length ≤ 1000000000) {R : Int → Int → Int → Int → Int → ByteArray → Bool → World → Prop}
   (hR : ∀ w', St w' X → R (readLk b).1.gen (readLk b).1.tag (readLk b).1.number (readLk b).1.refs (readLk b).1.next (tx (readLk b).1.data) (readLk b).2 w') : F.chain_read (tx b) w R := by
 apply E.chain_read
 unfold V.chain_read
 try simp -zeta only [ldC, soC, brC, bkA, slC, stC, alC, drC]
 try simp (config := { zeta := false }) only [cnd_all]
 intro wa1
 replace h : St wa1 (Cs _ _ _ :: _) := h.new _ _
 clear_value wa1
 have bad : (openB b).2 ≠ 0 ∨ b.length ≠ 256 → ∀ w', St w' X → R 0 0 0 0 0 sNil false w' := fun hc w' hw => by
   have e : readLk b = (lkZ, false) := by unfold readLk; rw [if_pos hc]
   rw [e] at hR
   exact hR w' hw
 refine open_st h hb fun w1 h1 => ⟨fun hne => ?_, fun heq => ⟨fun hne => ?_, fun h256 => ?_⟩⟩
 · refine ⟨h1.wr0 (by simp), ?_⟩
   intro wa2
   replace h1 : St wa2 _ := h1.set0 _
   clear_value wa2
   refine ⟨h1.wr (by simp), ?_⟩
   intro wa3
   replace h1 : St wa3 _ := h1.set 1 _
   clear_value wa3
   refine ⟨h1.wr (by simp), ?_⟩
   intro wa4
   replace h1 : St wa4 _ := h1.set 2 _
   clear_value wa4
   refine ⟨h1.wr (by simp), ?_⟩
   intro wa5
   replace h1 : St wa5 _ := h1.set 3 _
   clear_value wa5
   refine ⟨h1.wr (by simp), ?_⟩
   intro wa6
   replace h1 : St wa6 _ := h1.set 4 _
   clear_value wa6
   refine ⟨h1.wr (by simp), ?_⟩
   intro wa7
   replace h1 : St wa7 _ := h1.set 5 _
   clear_value wa7
   simp only [List.set_cons_zero, List.set_cons_succ] at h1
   refine ⟨_, h1.cell0, _, h1.cell 1, _, h1.cell 2, _, h1.cell 3, _, h1.cell 4, _, h1.cell 5, ?_⟩
   exact bad (.inl hne) _ h1.drop
 · refine ⟨h1.wr0 (by simp), ?_⟩
   intro wa8
   replace h1 : St wa8 _ := h1.set0 _
   clear_value wa8
   refine ⟨h1.wr (by simp), ?_⟩
   intro wa9
   replace h1 : St wa9 _ := h1.set 1 _
   clear_value wa9
   refine ⟨h1.wr (by simp), ?_⟩
   intro wa10
   replace h1 : St wa10 _ := h1.set 2 _
   clear_value wa10
   refine ⟨h1.wr (by simp), ?_⟩
   intro wa11
   replace h1 : St wa11 _ := h1.set 3 _
   clear_value wa11
   refine ⟨h1.wr (by simp), ?_⟩
   intro wa12
   replace h1 : St wa12 _ := h1.set 4 _
   clear_value wa12
   refine ⟨h1.wr (by simp), ?_⟩
   intro wa13
   replace h1 : St wa13 _ := h1.set 5 _
   clear_value wa13
   simp only [List.set_cons_zero, List.set_cons_succ] at h1
   refine ⟨_, h1.cell0, _, h1.cell 1, _, h1.cell 2, _, h1.cell 3, _, h1.cell 4, _, h1.cell 5, ?_⟩
   exact bad (.inr (by omega)) _ h1.drop
 have er : readLk b = (parseLk (openB b).1, lkFit (parseLk (openB b).1) && decide (layLk (parseLk (openB b).1) = b)) := by unfold readLk; rw [if_neg (by omega)]
 rw [er] at hR
 clear bad er
 have hsl := openB_len b
 generalize (openB b).1 = s at *
 have ep : parseLk s = ⟨(lowIn 1 (lowIn 1 s 0).2.1 (lowIn 1 s 0).2.2).1, _, _, _, _, _⟩ := rfl
 have hfx := @lkFit_ok s
 have hrg := parseLk_ranges s
 refine InS.on h1 fun g w2 h2 => ?_
 have l0 := lowIn_left 1 s 0
 refine InS.byte h2 (by omega) fun w3 h3 => ?_
 generalize lowIn 1 s 0 = A0 at *
 have l1 := lowIn_left 1 A0.2.1 A0.2.2
 refine InS.byte h3 (by omega) fun w4 h4 => ?_
 generalize lowIn 1 A0.2.1 A0.2.2 = A1 at *
 have l2 := lowIn_left 1 A1.2.1 A1.2.2
 refine InS.byte h4 (by omega) fun w5 h5 => ?_
 generalize lowIn 1 A1.2.1 A1.2.2 = A2 at *
 have l3 := lowIn_left 1 A2.2.1 A2.2.2
 refine InS.byte h5 (by omega) fun w6 h6 => ?_
 generalize lowIn 1 A2.2.1 A2.2.2 = A3 at *
 have l4 := lowIn_left 2 A3.2.1 A3.2.2
 refine InS.half h6 (by omega) fun w7 h7 => ?_
 generalize lowIn 2 A3.2.1 A3.2.2 = A4 at *
 have l5 := lowIn_left 2 A4.2.1 A4.2.2
 refine InS.half h7 (by omega) fun w8 h8 => ?_
 generalize lowIn 2 A4.2.1 A4.2.2 = A5 at *
 refine InS.text h8 (by omega) fun w9 h9 => ?_
 generalize textIn A5.2.1 A5.2.2 = A6 at *
 replace h9 := h9.drop
 generalize parseLk s = x at *
 obtain ⟨e1, e2, e3, e4, e5, e6⟩ : A1.1 = x.gen ∧ A2.1 = x.tag ∧ A3.1 = x.number ∧ A4.1 = x.refs ∧ A5.1 = x.next ∧ A6.1 = x.data := by subst ep; exact ⟨rfl, rfl, rfl, rfl, rfl, rfl⟩
 clear ep
 intro wa14
 replace h9 : St wa14 (Cs _ _ _ :: _) := h9.new _ _
 clear_value wa14
 refine ⟨h9.wr0 (by simp), ?_⟩
 intro wa15
 replace h9 : St wa15 _ := h9.set0 _
 clear_value wa15
 refine ⟨h9.wr (by simp), ?_⟩
 intro wa16
 replace h9 : St wa16 _ := h9.set 1 _
 clear_value wa16
 refine ⟨h9.wr (by simp), ?_⟩
 intro wa17
 replace h9 : St wa17 _ := h9.set 2 _
 clear_value wa17
 refine ⟨h9.wr (by simp), ?_⟩
 intro wa18
 replace h9 : St wa18 _ := h9.set 3 _
 clear_value wa18
 refine ⟨h9.wr (by simp), ?_⟩
 intro wa19
 replace h9 : St wa19 _ := h9.set 4 _
 clear_value wa19
 refine ⟨h9.wr (by simp), ?_⟩
 intro wa20
 replace h9 : St wa20 _ := h9.set 5 _
 clear_value wa20
 simp only [List.set_cons_zero, List.set_cons_succ] at h9
 rw [e1, e2, e3, e4, e5, e6] at h9
 have bad : lkFit x = false → ∀ w', St w' X → R x.gen x.tag x.number x.refs x.next (tx x.data) false w' := fun hc w' hw => by
   have := hR w' hw
   rwa [hc, Bool.false_and] at this
 refine ⟨_, h9.cell0, fun c1 => ⟨_, h9.cell0, fun c2 => ⟨_, h9.cell 1, fun c3 => ⟨_, h9.cell 5, ?_⟩, fun c3 => ?_⟩, fun c2 => ?_⟩, fun c1 => ?_⟩
 · intro wa21
   replace h9 : St wa21 _ := h9.drew
   clear_value wa21
   refine ⟨_, h9.cell0, _, h9.cell 1, _, h9.cell 2, _, h9.cell 3, _, h9.cell 4, _, h9.cell 5, ?_⟩
   refine ⟨fun c4 => ?_, fun c4 => ?_⟩
   · have hf : lkFit x = true := by simp only [lkFit, Bool.and_eq_true, decide_eq_true_eq]; simp only [tx_size] at c4; omega
     refine ⟨_, h9.cell0, _, h9.cell 1, _, h9.cell 2, _, h9.cell 3, _, h9.cell 4, _, h9.cell 5, ?_⟩
     refine lay_link (hfx hf) h9 fun w11 h11 => ?_
     refine ⟨h11.cell0, h11.cell 1, h11.cell 2, h11.cell 3, h11.cell 4, h11.cell 5, ?_⟩
     replace h11 := h11.sw
     refine ⟨h11.wr0 (by simp), ?_⟩
     intro wa22
     replace h11 : St wa22 _ := h11.set0 _
     clear_value wa22
     refine ⟨h11.wr (by simp), ?_⟩
     intro wa23
     replace h11 : St wa23 _ := h11.set 1 _
     clear_value wa23
     refine ⟨h11.wr (by simp), ?_⟩
     intro wa24
     replace h11 : St wa24 _ := h11.set 2 _
     clear_value wa24
     refine ⟨h11.wr (by simp), ?_⟩
     intro wa25
     replace h11 : St wa25 _ := h11.set 3 _
     clear_value wa25
     refine ⟨h11.wr (by simp), ?_⟩
     intro wa26
     replace h11 : St wa26 _ := h11.set 4 _
     clear_value wa26
     refine ⟨h11.wr (by simp), ?_⟩
     intro wa27
     replace h11 : St wa27 _ := h11.set 5 _
     clear_value wa27
     simp only [List.set_cons_zero, List.set_cons_succ] at h11
     refine ⟨_, h11.cell0, _, h11.cell 1, _, h11.cell 2, _, h11.cell 3, _, h11.cell 4, _, h11.cell 5, ?_⟩
     have := hR _ h11.drop.drop
     rw [hf, Bool.true_and] at this
     rw [tx_eq]; exact this
   · refine ⟨h9.cell0, h9.cell 1, h9.cell 2, h9.cell 3, h9.cell 4, h9.cell 5, ?_⟩
     replace h9 := h9.sw
     refine ⟨h9.wr0 (by simp), ?_⟩
     intro wa28
     replace h9 : St wa28 _ := h9.set0 _
     clear_value wa28
     refine ⟨h9.wr (by simp), ?_⟩
     intro wa29
     replace h9 : St wa29 _ := h9.set 1 _
     clear_value wa29
     refine ⟨h9.wr (by simp), ?_⟩
     intro wa30
     replace h9 : St wa30 _ := h9.set 2 _
     clear_value wa30
     refine ⟨h9.wr (by simp), ?_⟩
     intro wa31
     replace h9 : St wa31 _ := h9.set 3 _
     clear_value wa31
     refine ⟨h9.wr (by simp), ?_⟩
     intro wa32
     replace h9 : St wa32 _ := h9.set 4 _
     clear_value wa32
     refine ⟨h9.wr (by simp), ?_⟩
     intro wa33
     replace h9 : St wa33 _ := h9.set 5 _
     clear_value wa33
     simp only [List.set_cons_zero, List.set_cons_succ] at h9
     refine ⟨_, h9.cell0, _, h9.cell 1, _, h9.cell 2, _, h9.cell 3, _, h9.cell 4, _, h9.cell 5, ?_⟩
     exact bad (by simp only [lkFit, Bool.and_eq_false_iff, decide_eq_false_iff_not]; simp only [tx_size] at c4; omega) _ h9.drop.drop
 · intro wa34
   replace h9 : St wa34 _ := h9.drew
   clear_value wa34
   refine ⟨_, h9.cell0, _, h9.cell 1, _, h9.cell 2, _, h9.cell 3, _, h9.cell 4, _, h9.cell 5, ?_⟩
   refine ⟨h9.cell0, h9.cell 1, h9.cell 2, h9.cell 3, h9.cell 4, h9.cell 5, ?_⟩
   replace h9 := h9.sw
   refine ⟨h9.wr0 (by simp), ?_⟩
   intro wa35
   replace h9 : St wa35 _ := h9.set0 _
   clear_value wa35
   refine ⟨h9.wr (by simp), ?_⟩
   intro wa36
   replace h9 : St wa36 _ := h9.set 1 _
   clear_value wa36
   refine ⟨h9.wr (by simp), ?_⟩
   intro wa37
   replace h9 : St wa37 _ := h9.set 2 _
   clear_value wa37
   refine ⟨h9.wr (by simp), ?_⟩
   intro wa38
   replace h9 : St wa38 _ := h9.set 3 _
   clear_value wa38
   refine ⟨h9.wr (by simp), ?_⟩
   intro wa39
   replace h9 : St wa39 _ := h9.set 4 _
   clear_value wa39
   refine ⟨h9.wr (by simp), ?_⟩
   intro wa40
   replace h9 : St wa40 _ := h9.set 5 _
   clear_value wa40
   simp only [List.set_cons_zero, List.set_cons_succ] at h9
   refine ⟨_, h9.cell0, _, h9.cell 1, _, h9.cell 2, _, h9.cell 3, _, h9.cell 4, _, h9.cell 5, ?_⟩
   exact bad (by simp only [lkFit, Bool.and_eq_false_iff, decide_eq_false_iff_not]; omega) _ h9.drop.drop
 · intro wa41
   replace h9 : St wa41 _ := h9.drew
   clear_value wa41
   refine ⟨_, h9.cell0, _, h9.cell 1, _, h9.cell 2, _, h9.cell 3, _, h9.cell 4, _, h9.cell 5, ?_⟩
   refine ⟨h9.cell0, h9.cell 1, h9.cell 2, h9.cell 3, h9.cell 4, h9.cell 5, ?_⟩
   replace h9 := h9.sw
   refine ⟨h9.wr0 (by simp), ?_⟩
   intro wa42
   replace h9 : St wa42 _ := h9.set0 _
   clear_value wa42
   refine ⟨h9.wr (by simp), ?_⟩
   intro wa43
   replace h9 : St wa43 _ := h9.set 1 _
   clear_value wa43
   refine ⟨h9.wr (by simp), ?_⟩
   intro wa44
   replace h9 : St wa44 _ := h9.set 2 _
   clear_value wa44
   refine ⟨h9.wr (by simp), ?_⟩
   intro wa45
   replace h9 : St wa45 _ := h9.set 3 _
   clear_value wa45
   refine ⟨h9.wr (by simp), ?_⟩
   intro wa46
   replace h9 : St wa46 _ := h9.set 4 _
   clear_value wa46
   refine ⟨h9.wr (by simp), ?_⟩
   intro wa47
   replace h9 : St wa47 _ := h9.set 5 _
   clear_value wa47
   simp only [List.set_cons_zero, List.set_cons_succ] at h9
   refine ⟨_, h9.cell0, _, h9.cell 1, _, h9.cell 2, _, h9.cell 3, _, h9.cell 4, _, h9.cell 5, ?_⟩
   exact bad (by simp only [lkFit, Bool.and_eq_false_iff, decide_eq_false_iff_not]; omega) _ h9.drop.drop
 · intro wa48
   replace h9 : St wa48 _ := h9.drew
   clear_value wa48
   refine ⟨_, h9.cell0, _, h9.cell 1, _, h9.cell 2, _, h9.cell 3, _, h9.cell 4, _, h9.cell 5, ?_⟩
   refine ⟨h9.cell0, h9.cell 1, h9.cell 2, h9.cell 3, h9.cell 4, h9.cell 5, ?_⟩
   replace h9 := h9.sw
   refine ⟨h9.wr0 (by simp), ?_⟩
   intro wa49
   replace h9 : St wa49 _ := h9.set0 _
   clear_value wa49
   refine ⟨h9.wr (by simp), ?_⟩
   intro wa50
   replace h9 : St wa50 _ := h9.set 1 _
   clear_value wa50
   refine ⟨h9.wr (by simp), ?_⟩
   intro wa51
   replace h9 : St wa51 _ := h9.set 2 _
   clear_value wa51
   refine ⟨h9.wr (by simp), ?_⟩
   intro wa52
   replace h9 : St wa52 _ := h9.set 3 _
   clear_value wa52
   refine ⟨h9.wr (by simp), ?_⟩
   intro wa53
   replace h9 : St wa53 _ := h9.set 4 _
   clear_value wa53
   refine ⟨h9.wr (by simp), ?_⟩
   intro wa54
   replace h9 : St wa54 _ := h9.set 5 _
   clear_value wa54
   simp only [List.set_cons_zero, List.set_cons_succ] at h9
   refine ⟨_, h9.cell0, _, h9.cell 1, _, h9.cell 2, _, h9.cell 3, _, h9.cell 4, _, h9.cell 5, ?_⟩
   exact bad (by simp only [lkFit, Bool.and_eq_false_iff, decide_eq_false_iff_not]; omega) _ h9.drop.drop
end
end Go.Proofs.YtggachhkcmfijaaGreatDoor
