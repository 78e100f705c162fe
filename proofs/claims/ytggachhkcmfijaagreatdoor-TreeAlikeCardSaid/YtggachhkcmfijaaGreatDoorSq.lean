/- Words of what lies apart: rows of numbers and texts, bytes being laid and read. -/
import Derived.Test.YtggachhkcmfijaaGreatDoorWe
set_option linter.unusedVariables false
namespace Go.Proofs.YtggachhkcmfijaaGreatDoor
open Go Go.Vc Go.RowKit Go.Lib Go.Maps Go.Proofs
theorem cnd_all : (∀ (p : Prop) [Decidable p], (decide p = true) = p) ∧ (∀ (p : Prop) [Decidable p], (decide p = false) = ¬ p) ∧ (∀ a b : Int, ((a != b) = true) = ¬ a = b) ∧ (∀ a b : Int, ((a != b) = false) = (a = b)) ∧ (∀ a b : Int, ((a == b) = true) = (a = b)) ∧ (∀ a b : Int, ((a == b) = false) = ¬ a = b) ∧ (∀ b : Bool, ((!b) = true) = (b = false)) ∧ (∀ b : Bool, ((!b) = false) = (b = true)) ∧ (∀ {α : Type} (a : α), (some a).isNone = false) ∧ (∀ {α : Type}, (none : Option α).isNone = true) ∧ (∀ (p : Prop), (false = true → p) = True) ∧ (∀ (p : Prop), (true = false → p) = True) ∧ (∀ (p : Prop), (false = false → p) = p) ∧ (∀ (p : Prop), (true = true → p) = p) ∧ (∀ (p : Prop), (True → p) = p) ∧ (∀ (p : Prop), (False → p) = True) ∧ (∀ p : Prop, (p ∧ True) = p) ∧ (∀ p : Prop, (True ∧ p) = p) ∧ (∀ {α : Type} (a : α) (P : α → Prop), (∃ x, some a = some x ∧ P x) = P a) ∧ (∀ a b : Bs, sEq (tx a) (tx b) = decide (a = b)) ∧ (∀ a : Bs, ((tx a).size : Int) = (a.length : Int)) ∧ (∀ a b : Int, (a > b) = (b < a)) ∧ (∀ a b : Int, (a ≥ b) = (b ≤ a)) := by
 refine ⟨by simp, by simp, by simp, by simp, by simp, by simp, by simp, by simp, by simp, by simp, by simp, by simp, by simp, by simp, by simp, by simp, by simp, by simp, fun a P => ?_, fun a b => tx_eq a b, fun a => by rw [tx_size], fun a b => rfl, fun a b => rfl⟩
 simp
def EI : Enc Int := ⟨fun x => [.int .i64 x], 1, fun _ => rfl, fun _ u hu => by simp at hu; subst hu; rfl⟩
def ET : Enc Bs := ⟨fun x => [.string (tx x)], 1, fun _ => rfl, fun _ u hu => by simp at hu; subst hu; rfl⟩
theorem EI_all (zs : List Int) : EI.all zs = intCells zs := by simp [Enc.all, EI, intCells]; induction zs <;> simp_all
theorem ET_all (zs : List Bs) : ET.all zs = textCells zs := by simp [Enc.all, ET, textCells]; induction zs <;> simp_all
theorem elt_int : Elt Pg T.y_sl_int T.y_int 1 8 := ⟨und_ints, by obtain ⟨i, hi, hz, h1, h2⟩ := info_int; exact ⟨i, _, hi, hz, h1, h2, rfl⟩, by decide⟩
section
variable {w w' : World} {X Y : List As} {l : Sl}
theorem Has.ints {zs : List Int} (h : Has EI w l zs) : Ints w l zs := ⟨h.1, fun j v hj => by
 obtain ⟨a, ha, hc⟩ := h.2 j v hj
 exact ⟨a, ha, hc 0 _ rfl⟩⟩
theorem St.ints {t : TypeId} {zs : List Int} (h : St w (Row EI t l zs :: X)) : Ints w l zs := Has.ints (h.has (by decide))
theorem St.bkr {α : Type} {En : Enc α} {t : TypeId} {xs : List α} (h : St w (Row En t l xs :: X)) {k : Nat} (hk : l.bk k) : k < w.heap.size := h.own.lt hk
theorem St.rowOf {α : Type} {En : Enc α} {t : TypeId} {xs : List α} (h : St w X) (hf : Fr no w w') (ho : Own w' t En.n l (En.all xs)) (hn : ∀ k, l.bk k → w.heap.size ≤ k) : St w' (Row En t l xs :: X) := h.add ⟨ho, rfl⟩ hf hn
theorem Own.cap_ge {t : TypeId} {n : Nat} {xs : List Value} (h : Own w t n l xs) : l.len ≤ l.cap := by
 rcases h.2 with ⟨h2, h0⟩ | ⟨g, cap, cur, hv, _, _, hc, _⟩
 · omega
 · simp only [Value.slice.injEq] at hv; omega
/-! ### Bytes being laid -/
def OutS (g : Nat) (bs : List UInt8) : As where
 p := fun w S => ∃ l, OutAt w g l bs 0 ∧ ∀ k, S k ↔ outS g l k
 lt := fun ⟨l, h, e⟩ k hk => by
   rcases (e k).1 hk with rfl | hk
   · exact heap_lt h.obj
   · exact h.own.lt hk
 keep := fun ⟨l, h, e⟩ hf => ⟨l, h.keep hf (fun hn => hn ((e _).2 (.inl rfl))) (fun k hk hn => hn ((e k).2 (.inr hk))), e⟩
theorem OutS.of {g : Nat} (h : St w (Cs g [.slice none 0 0, .int .i64 0] T.y_bits_Out :: X)) : St w (OutS g [] :: X) := h.as fun S ⟨hb, e⟩ =>
 ⟨⟨none, 0, 0⟩, ⟨hb, Own.nil _ _ _, fun hk => bk_nil hk⟩, fun k => by subst e; exact ⟨.inl, fun h => h.resolve_right (fun hk => bk_nil hk)⟩⟩
theorem OutS.open {g : Nat} {bs : List UInt8} (h : St w (OutS g bs :: X)) : ∃ l b, OutAt w g l bs 0 ∧ StP X w b ∧ (∀ k, outS g l k → ¬ b k) ∧ ∀ {l' w' bs'}, OutAt w' g l' bs' 0 → Fr (outS g l) w w' → Moved w l l' → St w' (OutS g bs' :: X) := by
 obtain ⟨T, a, b, ⟨l, hO, e⟩, hb, hd, hs⟩ := h
 have hd' : ∀ k, outS g l k → ¬ b k := fun k hk => hd k ((e k).2 hk)
 refine ⟨l, b, hO, hb, hd', fun {l' w' bs'} hO' hf hm => ⟨fun k => outS g l' k ∨ b k, outS g l', b, ⟨l', hO', fun k => Iff.rfl⟩, hb.keep (hf.mono fun k _ hk hbk => hd' k hk hbk), fun k hk hbk => ?_, fun k => Iff.rfl⟩⟩
 rcases hk with hk | hk
 · exact hd' k (.inl hk) hbk
 · rcases moved_bk hm hk with h | h
   · exact hd' k (.inr h) hbk
   · have := hb.lt k hbk; omega
section
variable {g h1 : Nat} {bs : List UInt8} {t : TypeId}
theorem OutS.num {size : Nat} (hsz : size ≤ 8) {vs : List Int} (h : St w (OutS g bs :: Cs h1 (intCells vs) t :: Y)) (hfit : ∀ v ∈ vs, fitsN size v = true ∧ v < 9223372036854775808) (hb : bs.length + 8 * vs.length ≤ 1000000000) {n : Nat} (hn : n = vs.length) {R : Option Addr → World → Prop}
   (hR : ∀ w', St w' (OutS g (bs ++ vs.flatMap (leBytes size)) :: Cs h1 (intCells vs) t :: Y) → R (some (blk g)) w') : F.bits_Out_lay (some (blk g)) size ⟨some (blk h1), n, n⟩ w R := by
 obtain ⟨l, b, hO, hX, hd, hput⟩ := OutS.open h
 obtain ⟨c, d, ⟨hc, e⟩, _, _, hs⟩ := hX
 subst e
 refine Out_lay hO hsz (Ints.row hc n n hn) (fun k hk ho => ?_) (fun v hv => (hfit v hv).2) (by omega) fun l' w' ho hf hm => ?_
 · obtain ⟨a, ha, rfl⟩ := hk
   injection ha with ha
   subst ha
   exact hd _ ho ((hs _).2 (.inl rfl))
 · rw [layL_ok vs (fun v hv => (hfit v hv).1)] at ho
   exact hR w' (hput ho hf hm)
theorem OutS.byte {vs : List Int} (h : St w (OutS g bs :: Cs h1 (intCells vs) t :: Y)) (hfit : ∀ v ∈ vs, 0 ≤ v ∧ v < 256) (hb : bs.length + 8 * vs.length ≤ 1000000000) {n : Nat} (hn : n = vs.length) {R : Option Addr → World → Prop}
   (hR : ∀ w', St w' (OutS g (bs ++ vs.flatMap (leBytes 1)) :: Cs h1 (intCells vs) t :: Y) → R (some (blk g)) w') : F.bits_Out_Byte (some (blk g)) ⟨some (blk h1), n, n⟩ w R := by
 apply E.bits_Out_Byte
 exact OutS.num (size := 1) (by decide) h (fun v hv => by have := hfit v hv; simp [fitsN]; omega) hb hn hR
theorem OutS.half {vs : List Int} (h : St w (OutS g bs :: Cs h1 (intCells vs) t :: Y)) (hfit : ∀ v ∈ vs, 0 ≤ v ∧ v < 65536) (hb : bs.length + 8 * vs.length ≤ 1000000000) {n : Nat} (hn : n = vs.length) {R : Option Addr → World → Prop}
   (hR : ∀ w', St w' (OutS g (bs ++ vs.flatMap (leBytes 2)) :: Cs h1 (intCells vs) t :: Y) → R (some (blk g)) w') : F.bits_Out_Half (some (blk g)) ⟨some (blk h1), n, n⟩ w R := by
 apply E.bits_Out_Half
 exact OutS.num (size := 2) (by decide) h (fun v hv => by have := hfit v hv; simp [fitsN]; omega) hb hn hR
theorem OutS.raw {s : Bs} (h : St w (OutS g bs :: Cs h1 [.string (tx s)] T.y_string :: Y)) (hb : bs.length + s.length ≤ 1000000000) {R : Option Addr → World → Prop}
   (hR : ∀ w', St w' (OutS g (bs ++ s) :: Cs h1 [.string (tx s)] T.y_string :: Y) → R (some (blk g)) w') : F.bits_Out_Raw (some (blk g)) ⟨some (blk h1), 1, 1⟩ w R := by
 have hh := h.sw.bl
 obtain ⟨l, b, hO, hX, hd, hput⟩ := OutS.open h
 refine Out_Raw hO hh (by omega) (by omega) fun l' w' ho hf hm => ?_
 have e : raw1 s (bs, 0) = (bs ++ s, 0) := by simp [raw1]
 rw [e] at ho
 exact hR w' (hput ho hf hm)
theorem OutS.end_ (h : St w (OutS g bs :: Y)) {R : ByteArray → Int → World → Prop} (hR : ∀ w', St w' (OutS g bs :: Y) → R (tx bs) 0 w') : F.bits_Out_End (some (blk g)) w R := by
 obtain ⟨l, b, hO, hX, hd, hput⟩ := OutS.open h
 refine Out_End hO fun w' hf => ?_
 rw [if_neg (by simp)]
 exact hR w' (h.fr hf)
theorem OutS.text {s : Bs} (h : St w (OutS g bs :: Cs h1 [.string (tx s)] T.y_string :: Y)) (hs : s.length ≤ 65535) (hb : bs.length ≤ 900000000) {R : Option Addr → World → Prop}
   (hR : ∀ w', St w' (OutS g (bs ++ (leBytes 2 (s.length : Int) ++ s)) :: Cs h1 [.string (tx s)] T.y_string :: Y) → R (some (blk g)) w') : F.bits_Out_Text (some (blk g)) ⟨some (blk h1), 1, 1⟩ w R := by
 apply E.bits_Out_Text
 unfold V.bits_Out_Text
 try simp -zeta only [ldC, soC, brC, bkA, slC, stC, alC, drC]
 refine ⟨fun n w' => (n = 0 ∧ w' = w) ∨ (n = 1 ∧ St w' (OutS g (bs ++ (leBytes 2 (s.length : Int) ++ s)) :: Cs h1 [.string (tx s)] T.y_string :: Y)), fun n _ => (1 - n).toNat, .inl ⟨rfl, rfl⟩, ?_⟩
 rintro n w1 (⟨rfl, rfl⟩ | ⟨rfl, h1'⟩)
 · refine ⟨fun _ => ?_, fun hf => by simp at hf⟩
   obtain ⟨l, b, hO, _⟩ := OutS.open h
   refine ⟨blk h1, rfl, by decide, by show (0 : Int) < 1; decide, tx s, h.sw.cell 0, fun hn => by simp at hn, fun _ => ⟨blk g, rfl, 0, by rw [blk_cell hO.obj]; rfl, fun hn => by simp at hn, fun _ => ⟨fun hbig => ?_, fun _ => ?_⟩⟩⟩
   · rw [tx_size] at hbig
     simp at hbig; omega
   intro w2
   have h2 : St w2 (Cs w1.heap.size [.int .i64 ((tx s).size : Int)] T.y_int :: _) := h.new _ _
   clear_value w2
   rw [tx_size] at h2
   refine OutS.half (vs := [(s.length : Int)]) h2.sw (fun v hv => by simp at hv; subst hv; omega) (by simp; omega) rfl fun w3 h3 => ?_
   intro w4
   have h4 : St w4 (Cs w3.heap.size [.string (tx s)] T.y_string :: _) := h3.new [.string (tx s)] T.y_string
   clear_value w4
   refine OutS.raw (s := s) h4.sw (by simp [leBytes_len]; omega) fun w5 h5 => ?_
   have e1 : w64 ((0 : Int) + 1) = 1 := w64_id (by decide) (by decide)
   rw [e1]
   refine ⟨.inr ⟨rfl, ?_⟩, by show ((1 : Int) - 1).toNat < ((1 : Int) - 0).toNat; decide⟩
   have h6 := h5.sw.drop.sw.drop
   simpa using h6
 · exact ⟨fun ht => by simp at ht, fun _ => hR w1 h1'⟩
end
theorem seal_st {n : Nat} (h4 : 4 ≤ n) (hn : n ≤ 65536) {h1 : Nat} {s : Bs} (h : St w (Cs h1 [.string (tx s)] T.y_string :: X)) (hs : s.length ≤ n - 4) {R : ByteArray → Int → World → Prop}
   (hR : ∀ w', St w' X → R (tx (sealS n s)) 0 w') : F.crc_Seal (n : Int) ⟨some (blk h1), 1, 1⟩ w R :=
 Seal_spec h4 hn h.bl (by omega) fun w' hB => by rw [sealL_ok hs]; exact hR w' (h.below hB).drop
theorem open_st (h : St w X) {b : Bs} (hb : b.length ≤ 1000000000) {R : ByteArray → Int → World → Prop} (hR : ∀ w', St w' X → R (tx (openB b).1) (openB b).2 w') : F.crc_Open (tx b) w R :=
 Open_spec hb fun w' hB => hR w' (h.below hB)
/-! ### Bytes being read -/
def InS (g : Nat) (l : List UInt8) (e : Int) : As where
 p := fun w S => InAt w g l e ∧ S = fun k => k = g
 lt := fun ⟨h, e⟩ k hk => by subst e; have : k = g := hk; subst this; exact heap_lt h.obj
 keep := fun ⟨h, e⟩ hf => ⟨h.keep hf (fun hn => hn (by subst e; rfl)), e⟩
theorem InS.on (h : St w X) {l : Bs} {R : Option Addr → World → Prop} (hR : ∀ g w', St w' (InS g l 0 :: X) → R (some (blk g)) w') : F.bits_On (tx l) w R :=
 On_spec fun w' hI hF hlt => hR _ w' (h.add (S := (· = w.heap.size)) ⟨hI, rfl⟩ hF (fun k hk => Nat.le_of_eq (Eq.symm hk)))
theorem InS.put {g : Nat} {l : Bs} {e : Int} (h : St w (InS g l e :: X)) : InAt w g l e ∧ ∀ {w' l' e'}, InAt w' g l' e' → Fr (· = g) w w' → St w' (InS g l' e' :: X) := by
 obtain ⟨S, ⟨hI, e⟩, _, hX⟩ := h.out
 subst e
 exact ⟨hI, fun hI' hf => hX ⟨hI', rfl⟩ hf (fun k hk => .inl hk)⟩
section
variable {g : Nat} {s : Bs} {e : Int}
theorem InS.raw (h : St w (InS g s e :: X)) (hl : s.length ≤ 1000000000) {n : Int} {R : ByteArray → World → Prop}
   (hR : ∀ w', St w' (InS g (rawIn n s e).2.1 (rawIn n s e).2.2 :: X) → R (tx (rawIn n s e).1) w') : F.bits_In_Raw (some (blk g)) n w R :=
 In_Raw (InS.put h).1 (by omega) fun w' hI hf => hR w' ((InS.put h).2 hI hf)
theorem InS.byte (h : St w (InS g s e :: X)) (hl : s.length ≤ 1000000000) {R : Int → World → Prop}
   (hR : ∀ w', St w' (InS g (lowIn 1 s e).2.1 (lowIn 1 s e).2.2 :: X) → R (lowIn 1 s e).1 w') : F.bits_In_Byte (some (blk g)) w R :=
 In_Byte (InS.put h).1 (by omega) fun w' hI hf => hR w' ((InS.put h).2 hI hf)
theorem InS.half (h : St w (InS g s e :: X)) (hl : s.length ≤ 1000000000) {R : Int → World → Prop}
   (hR : ∀ w', St w' (InS g (lowIn 2 s e).2.1 (lowIn 2 s e).2.2 :: X) → R (lowIn 2 s e).1 w') : F.bits_In_Half (some (blk g)) w R :=
 In_Half (InS.put h).1 (by omega) fun w' hI hf => hR w' ((InS.put h).2 hI hf)
def textIn (s : Bs) (e : Int) : Bs × Bs × Int := rawIn (lowIn 2 s e).1 (lowIn 2 s e).2.1 (lowIn 2 s e).2.2
theorem InS.text (h : St w (InS g s e :: X)) (hl : s.length ≤ 1000000000) {R : ByteArray → World → Prop}
   (hR : ∀ w', St w' (InS g (textIn s e).2.1 (textIn s e).2.2 :: X) → R (tx (textIn s e).1) w') : F.bits_In_Text (some (blk g)) w R := by
 apply E.bits_In_Text
 unfold V.bits_In_Text
 try simp -zeta only [ldC, soC, brC, bkA, slC, stC, alC, drC]
 have := lowIn_left 2 s e
 exact InS.half h hl fun w1 h1 => InS.raw h1 (by omega) fun w2 h2 => hR w2 h2
end
theorem clone_st (h : St w X) {l : Bs} (hl : l.length ≤ 1000000000) {R : ByteArray → World → Prop} (hR : ∀ w', St w' X → R (tx l) w') : F.strings_Clone (tx l) w R := by
 apply E.strings_Clone
 unfold V.strings_Clone
 try simp -zeta only [ldC, soC, brC, bkA, slC, stC, alC, drC]
 exact Clone_spec (by omega) fun w' hw => hR w' (h.below hw)
/-! ### Maps -/
def MapS (b : Nat) (ws : List Wr1) : As where
 p := fun w S => MapOf w b ws ∧ S = fun k => k = b
 lt := fun ⟨h, e⟩ k hk => by subst e; have : k = b := hk; subst this; exact h.lt
 keep := fun ⟨h, e⟩ hf => ⟨h.keep hf (fun hn => hn (by subst e; rfl)), e⟩
theorem MapS.of {b : Nat} {ws : List Wr1} (h : St w (MapS b ws :: X)) : MapOf w b ws := by obtain ⟨S, h, _⟩ := h.hd; exact h
/-- a map that has these numbers, each with 'true' -/
def SetT (w : World) (b : Nat) (ks : List Int) : Prop :=
 ∃ (D : DataW Unit) (n : Nat), w.ownsMap Pg T.y_int (plainElem (H := Unit) Pg T.y_bool) b n D ∧ n ≤ ks.length ∧ ∀ x : Int, D.atKey (.int .i64 x) (.lit (.bool false)) = .lit (.bool (decide (x ∈ ks)))
def SetS (b : Nat) (ks : List Int) : As where
 p := fun w S => SetT w b ks ∧ S = fun k => k = b
 lt := fun ⟨⟨D, n, h, _⟩, e⟩ k hk => by subst e; have : k = b := hk; subst this; exact h.lt
 keep := fun ⟨⟨D, n, ⟨es, clock, hb, r⟩, h2⟩, e⟩ hf => ⟨⟨D, n, ⟨es, clock, hf.heap hb (fun hn => hn (by subst e; rfl)), r⟩, h2⟩, e⟩
theorem SetS.new (h : St w X) : St (w.alloc (.map #[] 0)) (SetS w.heap.size [] :: X) :=
 h.add (S := (· = w.heap.size)) ⟨⟨.map [], 0, World.ownsMap_made w Pg T.y_int _, Nat.le_refl _, fun x => by rfl⟩, rfl⟩ (Fr.alloc no w _) (fun k hk => Nat.le_of_eq (Eq.symm hk))
section
variable {b : Nat} {ks : List Int}
theorem SetS.put (h : St w (SetS b ks :: X)) (hl : ks.length ≤ 1000000) {x : Int} (hx : -9223372036854775808 ≤ x ∧ x < 9223372036854775808) {R : World → Prop}
   (hR : ∀ w', St w' (SetS b (ks ++ [x]) :: X) → R w') : RunU Pg (Instr.mapUpdate T.y_map_int_bool (.map (some b)) (.int .i64 x) (.bool true)) w R := by
 obtain ⟨S, ⟨⟨D, n, ho, hn, hh⟩, e⟩, _, hX⟩ := h.out
 subst e
 obtain ⟨w', hrun, ho', hg⟩ := ho.update Kint und_mib (by simp only [maxLen]; omega) (keyOf_int_mk und_int' (intWf hx)) (plainElem_bool und_bool' true)
 have hm := ho.isMap
 refine ⟨w', hrun, hR w' (hX ⟨⟨_, n + 1, ho', by simp only [List.length_append, List.length_cons, List.length_nil]; omega, fun y => ?_⟩, rfl⟩ (Fr.grown (S := (· = b)) hg fun k hk => (Option.some.inj hk).symm) (fun k hk => .inl hk))⟩
 by_cases hy : y = x
 · subst hy
   rw [atKey_put_same hm (show WideAt.IsKeyLit (.int .i64 y) from trivial)]
   simp
 · rw [atKey_put_other (by simpa using hy), hh y]
   simp [hy]
theorem SetS.look (h : St w (SetS b ks :: X)) {x : Int} (hx : -9223372036854775808 ≤ x ∧ x < 9223372036854775808) {R : Bool → World → Prop} (hR : R (decide (x ∈ ks)) w) :
   RunT Pg (Instr.lookup T.y_map_int_bool (.map (some b)) (.int .i64 x) false) [.one .bool] w R := by
 obtain ⟨S, ⟨D, n, ho, hn, hat⟩, _⟩ := h.hd
 have hz : (zeroValue T.y_bool).run Pg w = .ok (.bool false) w := run_zeroT (by kernel_rfl) w
 obtain ⟨v, ps, hrun, hv⟩ := ho.lookup Kint und_mib hz (plainElem_bool und_bool' false) (keyOf_int_mk und_int' (intWf hx))
 rw [hat x] at hv
 have : ∀ {v : Value} {z : DataW Unit × List MemPlace}, plainElem Pg T.y_bool v = some z → ∃ c, v = .bool c ∧ z = (.lit (.bool c), []) := fun {v z} h => by
   cases v <;> simp [plainElem] at h
   exact ⟨_, rfl, h.symm⟩
 obtain ⟨c, rfl, hc⟩ := this hv
 simp only [Prod.mk.injEq, DataW.lit.injEq, Lit.bool.injEq] at hc
 rw [hc.1] at hR
 exact ⟨_, w, hrun, hR⟩
end
end
end Go.Proofs.YtggachhkcmfijaaGreatDoor
